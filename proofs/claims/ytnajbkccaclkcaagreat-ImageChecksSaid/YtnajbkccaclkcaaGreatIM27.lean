/- image.nodes walked. Conditions: the image lies in memory; the nodes' numbers are Go's ints; nothing is longer than a million. · image.sites walked. Conditions: the image lies in memory; the numbers are Go's ints; nothing is longer than a million. · image.Check walked. Conditions: the image lies in memory; its numbers are Go's ints; nothing is longer than a million. -/
import Derived.Test.YtnajbkccaclkcaaGreatIM26
import Derived.Test.YtnajbkccaclkcaaGreatIM17
import Derived.WalkMore
import Derived.Test.YtnajbkccaclkcaaGreatIM25
namespace Go.Proofs.YtnajbkccaclkcaaGreat
open Go Go.RowKit Go.Maps

/-- Why one of these nodes is none, behind those of these identifiers. -/
def oneE (S : List Idt) : List Nd → Int
  | [] => 0
  | n :: l => if nodeE n S = 0 then oneE (n.id :: S) l else nodeE n S
theorem oneE_cons (S : List Idt) (n : Nd) (l : List Nd) : oneE S (n :: l) = if nodeE n S = 0 then oneE (n.id :: S) l else nodeE n S := rfl
/-- Is one later than the clock? -/
def lateE (clock late : Int) : List Nd → Int
  | [] => late
  | n :: l => lateE clock (firstE [late, if decide (clock < n.id.time) = true then 9 else 0]) l
theorem lateE_cons (clock late : Int) (n : Nd) (l : List Nd) : lateE clock late (n :: l) = lateE clock (firstE [late, if decide (clock < n.id.time) = true then 9 else 0]) l := rfl
/-- The chain, from a link on. -/
def popTo (r : Idt) : List (Idt × Idt) → List (Idt × Idt)
  | [] => []
  | x :: s => if x.1 = r then x :: s else popTo r s
def chainB : List (Idt × Idt) → List Nd → Bool
  | _, [] => true
  | s, n :: l => match popTo n.ref s with
    | [] => false
    | x :: s' => if x.2 ≠ noId ∧ ¬ ltId n.id x.2 then false else chainB ((n.id, noId) :: (x.1, n.id) :: s') l
theorem chainB_none {s : List (Idt × Idt)} {n : Nd} {l : List Nd} (h : popTo n.ref s = []) : chainB s (n :: l) = false := by
  rw [chainB, h]
theorem chainB_some {s s' : List (Idt × Idt)} {n : Nd} {l : List Nd} {x : Idt × Idt} (h : popTo n.ref s = x :: s') : chainB s (n :: l) = if x.2 ≠ noId ∧ ¬ ltId n.id x.2 then false else chainB ((n.id, noId) :: (x.1, n.id) :: s') l := by
  rw [chainB, h]
def nodesE (clock : Int) (l : List Nd) : Int := if oneE [] l ≠ 0 then oneE [] l else if chainB [(noId, noId)] l = true then lateE clock 0 l else 9

set_option maxRecDepth 100000 in
set_option maxHeartbeats 8000000 in
theorem nodes_any (m : Im) (w : World) (h : m.At w) (hs : m.Small) (hf : ∀ n ∈ m.nodes, n.Fit) : Calls Tryz.prog 29 #[.agg m.c] w (IntPost w (nodesE m.clock m.nodes)) := by
  obtain ⟨v, vA, vc, b, bA, bc, clock, log, lA, lc, nodes, nA, nc, joined, jA, jc, left, eA, ec, epoch⟩ := m
  have hb := Box.new w 28 (Im.c ⟨v, vA, vc, b, bA, bc, clock, log, lA, lc, nodes, nA, nc, joined, jA, jc, left, eA, ec, epoch⟩)
  have hk := (Kept.refl (fun _ => False) w).alloc (.cells (Im.c ⟨v, vA, vc, b, bA, bc, clock, log, lA, lc, nodes, nA, nc, joined, jA, jc, left, eA, ec, epoch⟩) 28)
  unfold Im.c at hb hk ⊢
  have hl1 : nodes.length ≤ 1000000 := hs.nodes
  obtain ⟨w1, hw1⟩ : ∃ w1, w.alloc (.cells #[.slice vA v.length vc, .slice bA b.length bc, .int .i64 clock, .slice lA log.length lc, .slice nA nodes.length nc, .slice jA joined.length jc, .slice eA left.length ec, .int .i64 epoch] 28) = w1 := ⟨_, rfl⟩
  rw [hw1] at hb hk
  obtain ⟨g, hg⟩ : ∃ g, w.heap.size = g := ⟨_, rfl⟩
  rw [hg] at hb
  have hcn := h.nodes.fresh hk
  simp only at hcn hf ⊢
  have z2 : w1.cell? ⟨g, 2, none⟩ = some (.int .i64 clock) := by simpa using hb.cell 2
  have z4 : w1.cell? ⟨g, 4, none⟩ = some (.slice nA nodes.length nc) := by simpa using hb.cell 4
  have HCN := Lib.hid hcn
  have HF := Lib.hid hf
  have HK := Lib.hid hk
  have HG := Lib.hid hg
  obtain ⟨se, hse⟩ : ∃ se, nodesE clock nodes = se := ⟨_, rfl⟩
  rw [hse]
  unfold nodesE at hse
  have HSE := Lib.hid hse
  obtain ⟨N, hN⟩ : ∃ N, nodes.length = N := ⟨_, rfl⟩
  have HN := Lib.hid hN
  rw [hN] at hw1 z4 hl1 ⊢
  have HW := Lib.hid hw1
  clear hse hk hw1 hg hb h hs hcn hf hN
  go_enter Tryz.func29, Tryz.ntmps29
  go_upto_region 1 with (fail)
  rw [HW.out, HG.out]
  have hmm := run_makeMap (P := Tryz.prog) 107 w1
  have hm0 := IdsAt.made w1
  have hkm := (Kept.refl (fun _ => False) w1).alloc (.map #[] 0)
  have y2 := hkm.cellF z2
  have y4 := hkm.cellF z4
  obtain ⟨w4, hw4⟩ : ∃ w4, w1.alloc (.map #[] 0) = w4 := ⟨_, rfl⟩
  obtain ⟨M, hM⟩ : ∃ M, w1.heap.size = M := ⟨_, rfl⟩
  rw [hw4, hM] at hmm hm0
  rw [hw4] at hkm y2 y4
  have HM0 := Lib.hid hm0
  have HKM := Lib.hid hkm
  have HMW := Lib.hid (show w1.heap.size ≤ M by omega)
  have Y2 := Lib.hid z2
  have Y4 := Lib.hid z4
  clear hm0 hkm hw4 hM
  go_wp2_with (fail)
  clear z2 z4 y2 y4 hmm
  go_loopw [4, 16] (fun vl i wr => ∃ (k : Nat) (late : Int) (S : List Idt), vl = .int .i64 late ∧ i = .int .i64 k ∧ k ≤ N ∧ IdsAt wr M k S ∧ Kept (fun _ => False) w1 wr ∧ oneE [] nodes = oneE S (nodes.drop k) ∧ lateE clock 0 nodes = lateE clock late (nodes.drop k)) (fun _ i _ => N - (intOf i).toNat)
  case atStart => exact ⟨0, 0, [], rfl, rfl, Nat.zero_le _, HM0.out, HKM.out, rfl, rfl⟩
  case round =>
    obtain ⟨k, late, S, rfl, rfl, hk, hids, hkw, ho, hl⟩ := hrel
    have HIDS := Lib.hid hids
    have HKW := Lib.hid hkw
    have HO := Lib.hid ho
    have HL := Lib.hid hl
    clear hids hkw ho hl
    by_cases hlt : k < N
    · as_aux_lemma =>
      have hin : (k : Int) < (N : Int) := by omega
      have hkl : k < nodes.length := by rw [HN.out]; exact hlt
      obtain ⟨bb, ff, hA, hc⟩ := HCN.out.some_ (by rw [nds_len]; omega)
      subst hA
      have hr := nd_range (w := wr) (fun j u hj => HKW.out.cellF (hc j u hj)) k hkl
      have hd := List.drop_eq_getElem_cons hkl
      have hfit := HF.out _ (List.getElem_mem hkl)
      obtain ⟨x, hx⟩ : ∃ x, nodes[k] = x := ⟨_, rfl⟩
      rw [hx] at hr hd hfit
      have HO2 := Lib.hid ((HO.out.trans (congrArg (oneE S) hd)).trans (oneE_cons ..))
      have HL2 := Lib.hid ((HL.out.trans (congrArg (lateE clock late) hd)).trans (lateE_cons ..))
      have HR := Lib.hid hr
      obtain ⟨⟨it, is⟩, ⟨rt, rs⟩, ru, st⟩ := x
      have HFIT := Lib.hid hfit
      simp only at HL2
      clear hr hd hx hc hfit HO HL
      go_upto_region 6 with (refine wpList_load_nd rfl _ rfl bb (ff + k * 6) rfl _ HR.out ?_)
      have HBO := Lib.hid (Box.new wr 66 #[.int .i64 it, .int .i64 is, .int .i64 rt, .int .i64 rs, .int .i32 ru, .int .i64 st])
      have HKO := Lib.hid ((Kept.refl (fun _ => False) wr).alloc (.cells #[.int .i64 it, .int .i64 is, .int .i64 rt, .int .i64 rs, .int .i32 ru, .int .i64 st] 66))
      generalize wr.alloc (.cells #[.int .i64 it, .int .i64 is, .int .i64 rt, .int .i64 rs, .int .i32 ru, .int .i64 st] 66) = w2 at HBO HKO ⊢
      obtain ⟨D, hD⟩ : ∃ D, wr.heap.size = D := ⟨_, rfl⟩
      rw [hD] at HBO ⊢
      have HND := Lib.hid (node_any ⟨⟨it, is⟩, ⟨rt, rs⟩, ru, st⟩ S M k w2 HFIT.out (HIDS.out.fresh HKO.out))
      unfold Nd.c at HND
      simp only at HND
      obtain ⟨ne, hne⟩ : ∃ ne, nodeE ⟨⟨it, is⟩, ⟨rt, rs⟩, ru, st⟩ S = ne := ⟨_, rfl⟩
      rw [hne] at HND HO2
      clear hD HR hne
      have q0 : w2.cell? ⟨D, 0, none⟩ = some (.int .i64 it) := by simpa using HBO.out.cell 0
      have q1 : w2.cell? ⟨D, 1, none⟩ = some (.int .i64 is) := by simpa using HBO.out.cell 1
      have q2 : w2.cell? ⟨D, 2, none⟩ = some (.int .i64 rt) := by simpa using HBO.out.cell 2
      have q3 : w2.cell? ⟨D, 3, none⟩ = some (.int .i64 rs) := by simpa using HBO.out.cell 3
      have q4 : w2.cell? ⟨D, 4, none⟩ = some (.int .i32 ru) := by simpa using HBO.out.cell 4
      have q5 : w2.cell? ⟨D, 5, none⟩ = some (.int .i64 st) := by simpa using HBO.out.cell 5
      have aN := Tryz.isAgg66
      have zN := Tryz.sizeOf66
      go_wp2_with (fail)
      refine HND.out.mono ?_
      unfold IntPost
      rintro r w3 ⟨rfl, hk3⟩
      have HK3 := Lib.hid ((HKW.out.trans HKO.out fun _ _ e => e).trans hk3 fun _ _ e => e)
      have HI3 := Lib.hid ((HIDS.out.fresh HKO.out).fresh hk3)
      have hb3 := HBO.out.kept hk3 id
      have HB3 := Lib.hid hb3
      clear hk3 HND q0 q1 q2 q3 q4 q5 aN zN
      by_cases h0 : ne = 0
      · have HO3 := Lib.hid (HO2.out.trans (if_pos h0))
        subst h0
        have q0 : w3.cell? ⟨D, 0, none⟩ = some (.int .i64 it) := by simpa using hb3.cell 0
        have q1 : w3.cell? ⟨D, 1, none⟩ = some (.int .i64 is) := by simpa using hb3.cell 1
        have aI := Tryz.isAgg61
        have zI := Tryz.sizeOf61
        obtain ⟨DD, hom, hmap, hfs, hat⟩ := HI3.out
        have HOM := Lib.hid hom
        have HP := Lib.hid (fun (w' : World) (ho : w'.ownsMap Tryz.prog 61 (plainElem Tryz.prog 4) M (k + 1) (DD.put (idK ⟨it, is⟩) (.lit (.bool true)))) => IdsAt.put hmap hfs hat HFIT.out.it HFIT.out.is_ ho)
        clear hom hmap hfs hat HO2 hb3
        go_upto_region 10 with (at_mapUpdate; refine wpList_mapUpdate_own _ rfl _ _ _ 107 rfl 61 4 keyID Tryz.underlying107 _ M k DD rfl HOM.out (by unfold maxLen; omega) _ _ _ rfl rfl (keyOf_id (i := ⟨it, is⟩) HFIT.out.it HFIT.out.is_) _ [] (plainElem_bool Tryz.underlying4 true) ?_; intro w5 ho5 hg5; have HO5 := Lib.hid ho5; have HG5 := Lib.hid hg5; clear ho5 hg5)
        have hne : ¬ (some M = some D) := fun e => by
          injection e with e
          obtain ⟨es', cl, hb', -⟩ := HOM.out
          rw [e] at hb'
          have := (show w3.heap[D]? = _ from HB3.out).symm.trans hb'
          cases this
        have hb5 := HB3.out.kept (Kept.of_grown HG5.out) hne
        have q0' : w5.cell? ⟨D, 0, none⟩ = some (.int .i64 it) := by simpa using hb5.cell 0
        have hk5 : Kept (fun _ => False) w1 w5 := HK3.out.trans (Kept.of_grown HG5.out) fun q hq e => by
          have e' : M = q := by injection e
          have := HMW.out
          omega
        have HK5 := Lib.hid hk5
        have y2 := hk5.cellF Y2.out
        clear hne hb5 hk5 q0 q1
        by_cases c1 : it > clock
        · as_aux_lemma =>
          have hf2 : lateE clock 0 nodes = lateE clock (firstE [late, 9]) (nodes.drop (k + 1)) := by
            have := HL2.out
            rw [decide_eq_true (show clock < it from c1), if_pos rfl] at this
            exact this
          have HLF := Lib.hid hf2
          clear hf2
          go_wp2_with (fail)
          refine (when_yes 9 _).mono ?_
          rintro r w6 ⟨rfl, rfl⟩
          go_wp2_with (fail)
          refine (first_any (some ⟨w6.heap.size, 0, none⟩) [late, 9] 2 _ (CellsAt.of_box (Box.new w6 _ _) rfl) (by simp)).mono ?_
          rintro r w7 ⟨rfl, rfl⟩
          obtain ⟨fl, hfl⟩ : ∃ fl, firstE [late, 9] = fl := ⟨_, rfl⟩
          have HFL := Lib.hid hfl
          rw [hfl]
          clear hfl
          go_wp2_with (fail)
          go_roundw
          case rel => exact ⟨k + 1, fl, ⟨it, is⟩ :: S, rfl, by go_num, by omega, (HP.out _ HO5.out).fresh ((Kept.refl _ _).alloc _), HK5.out.alloc _, HO3.out, by rw [← HFL.out]; exact HLF.out⟩
          case measure => simp [intOf]; omega
        · as_aux_lemma =>
          have hf2 : lateE clock 0 nodes = lateE clock (firstE [late, 0]) (nodes.drop (k + 1)) := by
            have := HL2.out
            rw [decide_eq_false (show ¬ clock < it from c1), if_neg (by decide)] at this
            exact this
          have HLF := Lib.hid hf2
          clear hf2
          go_wp2_with (fail)
          refine (when_no 9 _).mono ?_
          rintro r w6 ⟨rfl, rfl⟩
          go_wp2_with (fail)
          refine (first_any (some ⟨w6.heap.size, 0, none⟩) [late, 0] 2 _ (CellsAt.of_box (Box.new w6 _ _) rfl) (by simp)).mono ?_
          rintro r w7 ⟨rfl, rfl⟩
          obtain ⟨fl, hfl⟩ : ∃ fl, firstE [late, 0] = fl := ⟨_, rfl⟩
          have HFL := Lib.hid hfl
          rw [hfl]
          clear hfl
          go_wp2_with (fail)
          go_roundw
          case rel => exact ⟨k + 1, fl, ⟨it, is⟩ :: S, rfl, by go_num, by omega, (HP.out _ HO5.out).fresh ((Kept.refl _ _).alloc _), HK5.out.alloc _, HO3.out, by rw [← HFL.out]; exact HLF.out⟩
          case measure => simp [intOf]; omega
      · as_aux_lemma =>
        have hse : se = ne := by
          have e1 := HO2.out.trans (if_neg h0)
          have := HSE.out
          rw [e1, if_pos h0] at this
          exact this.symm
        have HS2 := Lib.hid hse
        have b1 : (ne != 0) = true := by simp [h0]
        have b2 : (ne == 0) = false := by simp [h0]
        clear hse h0 hb3
        go_wp2_with (fail)
        go_ret
        exact ⟨ret_int HS2.out.symm, HK.out.trans HK3.out fun _ _ e => e⟩
    · as_aux_lemma =>
      have hin : ¬ (k : Int) < (N : Int) := by omega
      have hd : nodes.drop k = [] := List.drop_eq_nil_of_le (by rw [HN.out]; omega)
      have hse : (if chainB [(noId, noId)] nodes = true then late else 9) = se := by
        have h1 := HO.out
        have h2 := HL.out
        rw [hd] at h1 h2
        have := HSE.out
        rw [show oneE [] nodes = 0 from h1, if_neg (by simp), show lateE clock 0 nodes = late from h2] at this
        exact this
      have HSE2 := Lib.hid hse
      have y4 := HKW.out.cellF Y4.out
      have hrow : (wr.alloc (.cells #[.int .i64 0, .int .i64 0, .int .i64 0, .int .i64 0] 110)).ownsRow wr.heap.size 110 4 (.slice (some ⟨wr.heap.size, 0, none⟩) 1 1) 1 (lnks [(noId, noId)].reverse) := World.ownsRow_lit wr #[.int .i64 0, .int .i64 0, .int .i64 0, .int .i64 0] 1 (Nat.le_refl _) (by unfold maxLen; omega) rfl
      have hk8 := (Kept.refl (fun _ => False) wr).alloc (.cells #[.int .i64 0, .int .i64 0, .int .i64 0, .int .i64 0] 110)
      have y4' := hk8.cellF y4
      obtain ⟨w8, hw8⟩ : ∃ w8, wr.alloc (.cells #[.int .i64 0, .int .i64 0, .int .i64 0, .int .i64 0] 110) = w8 := ⟨_, rfl⟩
      obtain ⟨ga, hga⟩ : ∃ ga, wr.heap.size = ga := ⟨_, rfl⟩
      rw [hw8] at hrow hk8 y4'
      rw [hga] at hrow
      have HROW := Lib.hid hrow
      have HK8 := Lib.hid (HKW.out.trans hk8 fun _ _ e => e)
      have HW8 := Lib.hid hw8
      have HGA := Lib.hid hga
      clear hd hse hrow hk8 hw8 hga HO HL HSE HIDS
      go_upto_region 13 with (fail)
      rw [HW8.out, HGA.out]
      obtain ⟨wo, hwo⟩ : ∃ wo : World, wo = wr := ⟨_, rfl⟩
      subst hwo
      have HSG := Lib.hid (show w1.heap.size ≤ ga by rw [← HGA.out]; exact HKW.out.size)
      go_wp2_with (fail)
      clear y4 y4'
      go_loopw [8, 45] (fun vs i wr => ∃ (q L : Nat) (s : List (Idt × Idt)) (A : Option Addr) (c : Nat), vs = .slice A L c ∧ i = .int .i64 q ∧ q ≤ N ∧ L = s.length ∧ L ≤ q + 1 ∧ wr.ownsRow ga 110 4 (.slice A L c) L (lnks s.reverse) ∧ Kept (fun _ => False) w1 wr ∧ chainB [(noId, noId)] nodes = chainB s (nodes.drop q)) (fun _ i _ => N - (intOf i).toNat)
      case atStart => exact ⟨0, 1, [(noId, noId)], some ⟨ga, 0, none⟩, 1, rfl, rfl, Nat.zero_le _, rfl, by omega, HROW.out, HK8.out, rfl⟩
      case round =>
        obtain ⟨q, L, s, A, c, rfl, rfl, hq, hL, hLq, hrow, hkw, hch⟩ := hrel
        have HROW := Lib.hid hrow
        have HKX := Lib.hid hkw
        have HCH := Lib.hid hch
        have HLL := Lib.hid hL
        clear hrow hkw hch hL
        by_cases hlq : q < N
        · have hin2 : (q : Int) < (N : Int) := by omega
          have hql : q < nodes.length := by rw [HN.out]; exact hlq
          obtain ⟨bb, ff, hA, hc⟩ := HCN.out.some_ (by rw [nds_len]; omega)
          subst hA
          have hr := nd_range (w := wr) (fun j u hj => HKX.out.cellF (hc j u hj)) q hql
          have hd := List.drop_eq_getElem_cons hql
          obtain ⟨x, hx⟩ : ∃ x, nodes[q] = x := ⟨_, rfl⟩
          rw [hx] at hr hd
          have HCH2 := Lib.hid (HCH.out.trans (congrArg (chainB s) hd))
          have HR := Lib.hid hr
          obtain ⟨⟨it, is⟩, ⟨rt, rs⟩, ru, st⟩ := x
          clear hr hd hx hc HCH
          go_upto_region 16 with (refine wpList_load_nd rfl _ rfl bb (ff + q * 6) rfl _ HR.out ?_)
          have HBO := Lib.hid (Box.new wr 66 #[.int .i64 it, .int .i64 is, .int .i64 rt, .int .i64 rs, .int .i32 ru, .int .i64 st])
          have HKO := Lib.hid ((Kept.refl (fun _ => False) wr).alloc (.cells #[.int .i64 it, .int .i64 is, .int .i64 rt, .int .i64 rs, .int .i32 ru, .int .i64 st] 66))
          generalize wr.alloc (.cells #[.int .i64 it, .int .i64 is, .int .i64 rt, .int .i64 rs, .int .i32 ru, .int .i64 st] 66) = w9 at HBO HKO ⊢
          obtain ⟨D, hD⟩ : ∃ D, wr.heap.size = D := ⟨_, rfl⟩
          rw [hD] at HBO ⊢
          have HK9 := Lib.hid (HKX.out.trans HKO.out fun _ _ e => e)
          have HROW9 := Lib.hid (HKO.out.own HROW.out fun _ _ => id)
          clear hD HR HROW
          obtain ⟨wq, hwq⟩ : ∃ wq : World, wq = wr := ⟨_, rfl⟩
          subst hwq
          refine wp_scope_straight ?_
          go_wp2_with (fail)
          apply wp_label
          go_wp2_with (fail)
          go_loopw [8] (fun vs wx => ∃ (L' q' : Nat) (s' : List (Idt × Idt)), vs = .slice A L' c ∧ L' = s'.length ∧ L' ≤ L ∧ wx.ownsRow ga 110 4 (.slice A L' c) L' (lnks s'.reverse) ∧ wx = w9.drewN q' ∧ popTo ⟨rt, rs⟩ s = popTo ⟨rt, rs⟩ s') (fun vs _ => match vs with | .slice _ n _ => n | _ => 0)
          case atStart => exact ⟨L, 0, s, rfl, HLL.out, Nat.le_refl _, HROW9.out, rfl, rfl⟩
          case round =>
            obtain ⟨L', q', s', rfl, hL', hLL, hrow, hwx, hpop⟩ := hrel
            have HPOP := Lib.hid hpop
            have HWX := Lib.hid hwx
            have HKY := Lib.hid (show Kept (fun _ => False) w9 wr from hwx ▸ (Kept.refl _ _).drewN q')
            cases s' with
            | nil =>
              as_aux_lemma =>
              have hL0 : L' = 0 := hL'
              subst hL0
              have h9 : se = 9 := by
                have h1 := HCH2.out.trans (chainB_none (n := ⟨⟨it, is⟩, ⟨rt, rs⟩, ru, st⟩) HPOP.out)
                have := HSE2.out
                rw [h1] at this
                simpa using this.symm
              have HS9 := Lib.hid h9
              clear hrow hwx hpop hL' h9
              go_wp2_with (fail)
              go_ret
              exact ⟨ret_int HS9.out.symm, (HK.out.trans HK9.out fun _ _ e => e).trans HKY.out fun _ _ e => e⟩
            | cons x s'' =>
              obtain ⟨P, hP⟩ : ∃ P, s''.length = P := ⟨_, rfl⟩
              have hLP : L' = P + 1 := by rw [hL', List.length_cons, hP]
              subst hLP
              rw [List.reverse_cons] at hrow
              obtain ⟨gb, hA, hgb, -, -⟩ := own_cells hrow (by omega)
              subst hA
              have hcap := (own_caps hrow).1
              have hl := hP
              rw [← List.length_reverse] at hl
              have e0 := lnks_last hrow hl 0 (by omega)
              have e1 := lnks_last hrow hl 1 (by omega)
              have e2 := lnks_last hrow hl 2 (by omega)
              have e3 := lnks_last hrow hl 3 (by omega)
              obtain ⟨⟨xt, xs⟩, ⟨yt, ys⟩⟩ := x
              simp only [lnk, List.getElem?_cons_zero, List.getElem?_cons_succ, Nat.add_zero] at e0 e1 e2 e3
              have HROWX := Lib.hid hrow
              have HPL := Lib.hid hP
              have HLR := Lib.hid hl
              have hb9 := HBO.out.kept HKY.out id
              have HB9 := Lib.hid hb9
              have r2 : wr.cell? ⟨D, 2, none⟩ = some (.int .i64 rt) := by simpa using hb9.cell 2
              have r3 : wr.cell? ⟨D, 3, none⟩ = some (.int .i64 rs) := by simpa using hb9.cell 3
              have aI := Tryz.isAgg61
              have zI := Tryz.sizeOf61
              have hw1 : IntKind.i64.wrap (((P + 1 : Nat) : Int) - 1) = (P : Int) := by rw [IntWalk.i64_in _ ⟨by omega, by omega⟩]; omega
              have hgt : ((P + 1 : Nat) : Int) > 0 := by omega
              have hPL : (P : Int) < ((P + 1 : Nat) : Int) := by omega
              have hPc : P ≤ c := by omega
              clear hrow hwx hpop hL' hP hb9 hl
              by_cases hm : xt = rt ∧ xs = rs
              · obtain ⟨rfl, rfl⟩ := hm
                have HPN := Lib.hid (HPOP.out.trans (show popTo ⟨xt, xs⟩ ((⟨xt, xs⟩, ⟨yt, ys⟩) :: s'') = _ from if_pos rfl))
                go_upto_region 17 with (fail)
                go_quiet (fail)
                go_upto_region 22 with (fail)
                obtain ⟨w10, hw10⟩ : ∃ w10, wr.drewN nq = w10 := ⟨_, rfl⟩
                have hk10 : Kept (fun _ => False) w9 w10 := hw10 ▸ (HKY.out.drewN nq)
                have HROWZ := Lib.hid (show w10.ownsRow ga 110 4 (.slice (some ⟨gb, 0, none⟩) (P + 1) c) (P + 1) (lnks (s''.reverse ++ [(⟨xt, xs⟩, ⟨yt, ys⟩)])) from hw10 ▸ HROWX.out)
                have f2 : w10.cell? ⟨gb, P * 4 + 2, none⟩ = some (.int .i64 yt) := hw10 ▸ e2
                have f3 : w10.cell? ⟨gb, P * 4 + 3, none⟩ = some (.int .i64 ys) := hw10 ▸ e3
                have hb10 := HBO.out.kept hk10 id
                have s0 : w10.cell? ⟨D, 0, none⟩ = some (.int .i64 it) := by simpa using hb10.cell 0
                have s1 : w10.cell? ⟨D, 1, none⟩ = some (.int .i64 is) := by simpa using hb10.cell 1
                rw [hw10]
                have HKZ := Lib.hid hk10
                have HBZ := Lib.hid hb10
                clear hw10 hk10 hb10 e0 e1 e2 e3 r2 r3 HB9
                have HCF := Lib.hid (HCH2.out.trans (chainB_some (n := ⟨⟨it, is⟩, ⟨xt, xs⟩, ru, st⟩) HPN.out))
                have HLO := Lib.hid (fun W => lower_any ⟨it, is⟩ ⟨yt, ys⟩ W)
                unfold idV at HLO
                simp only at HLO HCF
                obtain ⟨bl, hbl⟩ : ∃ bl, decide (ltId ⟨it, is⟩ ⟨yt, ys⟩) = bl := ⟨_, rfl⟩
                rw [hbl] at HLO
                have hcs : (yt = 0 ∧ ys = 0) ∨ (yt == 0) = false ∨ (yt = 0 ∧ (ys == 0) = false) := by
                  by_cases h1 : yt = 0
                  · by_cases h2 : ys = 0
                    · exact .inl ⟨h1, h2⟩
                    · exact .inr (.inr ⟨h1, by simp [h2]⟩)
                  · exact .inr (.inl (by simp [h1]))
                obtain ⟨bb', hbb⟩ : ∃ bb', (!decide ((⟨yt, ys⟩ : Idt) = noId) && !bl) = bb' := ⟨_, rfl⟩
                have HBL := Lib.hid hbl
                have HBB := Lib.hid hbb
                have HCS := Lib.hid hcs
                clear hbl hbb hcs
                go_cut [90] (fun v wx => v = .bool bb' ∧ Kept (fun _ => False) w10 wx)
                case first =>
                  rcases HCS.out with ⟨rfl, rfl⟩ | b2 | ⟨rfl, b2⟩
                  · as_aux_lemma =>
                    obtain rfl : false = bb' := by rw [← HBB.out]; simp [noId]
                    refine wp_region_class (C := fun w' => Kept (fun _ => False) w10 w') (by kernel_rfl) (by kernel_rfl) (Kept.refl _ _).drew ?_
                    iterate 16
                      first | go_big_quiet_skip | (go_big_quiet_want; first | (go_big_quiet_op; go_big_quiet_on) | (apply Exists.intro; refine ⟨fun w' hS => ?_, ?_⟩; (have d2 := hS.cellF f2; have d3 := hS.cellF f3; have d0 := hS.cellF s0; have d1 := hS.cellF s1; go_simp; first | rfl | exact ⟨rfl, rfl⟩ | ((with_reducible refine (HLO.out _).mono ?_); unfold BoolPost; rintro e w2 ⟨rfl, hk⟩; exact ⟨rfl, hS.trans hk fun _ _ e => e⟩)); (try simp only [Act.put, List.setIfInBounds_toArray, List.set_cons_zero, List.set_cons_succ]); go_big_quiet_on))
                    refine wpQuiet_nil ?_
                    intro w11 hS
                    have HS := Lib.hid hS
                    clear hS
                    go_wp2_with (fail)
                    go_meet
                    case rel => exact ⟨rfl, HS.out⟩
                  · as_aux_lemma =>
                    obtain rfl : (!bl) = bb' := by
                      rw [← HBB.out]
                      have : ¬ yt = 0 := by simpa using b2
                      simp [noId, this]
                    refine wp_region_class (C := fun w' => Kept (fun _ => False) w10 w') (by kernel_rfl) (by kernel_rfl) (Kept.refl _ _).drew ?_
                    iterate 16
                      first | go_big_quiet_skip | (go_big_quiet_want; first | (go_big_quiet_op; go_big_quiet_on) | (apply Exists.intro; refine ⟨fun w' hS => ?_, ?_⟩; (have d2 := hS.cellF f2; have d3 := hS.cellF f3; have d0 := hS.cellF s0; have d1 := hS.cellF s1; go_simp; first | rfl | exact ⟨rfl, rfl⟩ | ((with_reducible refine (HLO.out _).mono ?_); unfold BoolPost; rintro e w2 ⟨rfl, hk⟩; exact ⟨rfl, hS.trans hk fun _ _ e => e⟩)); (try simp only [Act.put, List.setIfInBounds_toArray, List.set_cons_zero, List.set_cons_succ]); go_big_quiet_on))
                    refine wpQuiet_nil ?_
                    intro w11 hS
                    have HS := Lib.hid hS
                    clear hS
                    go_wp2_with (fail)
                    go_meet
                    case rel => exact ⟨rfl, HS.out⟩
                  · as_aux_lemma =>
                    obtain rfl : (!bl) = bb' := by
                      rw [← HBB.out]
                      have : ¬ ys = 0 := by simpa using b2
                      simp [noId, this]
                    refine wp_region_class (C := fun w' => Kept (fun _ => False) w10 w') (by kernel_rfl) (by kernel_rfl) (Kept.refl _ _).drew ?_
                    iterate 16
                      first | go_big_quiet_skip | (go_big_quiet_want; first | (go_big_quiet_op; go_big_quiet_on) | (apply Exists.intro; refine ⟨fun w' hS => ?_, ?_⟩; (have d2 := hS.cellF f2; have d3 := hS.cellF f3; have d0 := hS.cellF s0; have d1 := hS.cellF s1; go_simp; first | rfl | exact ⟨rfl, rfl⟩ | ((with_reducible refine (HLO.out _).mono ?_); unfold BoolPost; rintro e w2 ⟨rfl, hk⟩; exact ⟨rfl, hS.trans hk fun _ _ e => e⟩)); (try simp only [Act.put, List.setIfInBounds_toArray, List.set_cons_zero, List.set_cons_succ]); go_big_quiet_on))
                    refine wpQuiet_nil ?_
                    intro w11 hS
                    have HS := Lib.hid hS
                    clear hS
                    go_wp2_with (fail)
                    go_meet
                    case rel => exact ⟨rfl, HS.out⟩
                case rest =>
                  obtain ⟨rfl, hkc⟩ := hcut
                  have HKC := Lib.hid hkc
                  have f2' := hkc.cellF f2
                  have f3' := hkc.cellF f3
                  have s0' := hkc.cellF s0
                  have s1' := hkc.cellF s1
                  have HROWC := Lib.hid (hkc.own HROWZ.out fun _ _ => id)
                  clear hkc f2 f3 s0 s1
                  cases bb' with
                  | true =>
                    as_aux_lemma =>
                    have h9 : se = 9 := by
                      have h1 := HCF.out
                      have hbb := HBB.out
                      rw [← HBL.out] at hbb
                      simp at hbb
                      rw [if_pos ⟨hbb.1, hbb.2⟩] at h1
                      have := HSE2.out
                      rw [h1] at this
                      simpa using this.symm
                    have HS9 := Lib.hid h9
                    clear h9
                    go_wp2_with (fail)
                    go_ret
                    exact ⟨ret_int HS9.out.symm, ((HK.out.trans HK9.out fun _ _ e => e).trans HKZ.out fun _ _ e => e).trans HKC.out fun _ _ e => e⟩
                  | false =>
                    as_aux_lemma =>
                    have hcn : chainB [(noId, noId)] nodes = chainB ((⟨it, is⟩, noId) :: (⟨xt, xs⟩, ⟨it, is⟩) :: s'') (nodes.drop (q + 1)) := by
                      have h1 := HCF.out
                      have hbb := HBB.out
                      rw [← HBL.out] at hbb
                      rw [if_neg (fun e => by simp [e.1, e.2] at hbb)] at h1
                      exact h1
                    have HCN2 := Lib.hid hcn
                    obtain ⟨hp1, hp2⟩ := lnks_put HROWC.out HLR.out ⟨it, is⟩
                    have hfz := fun j => HROWC.out.frozenAt j
                    have hz2 := hfz (P * 4 + 2)
                    have hz3 := hfz (P * 4 + 3)
                    have HP1 := Lib.hid hp1
                    have HP2 := Lib.hid hp2
                    clear hcn hp1 hp2 hfz
                    go_wp2_with (at_builtin; refine Hid.out ?_)
                    refine Lib.hid ?_
                    refine wpList_append_new eltLinks rfl _ _ rfl ga (.slice (some ⟨gb, 0, none⟩) (P + 1) c) (P + 1) (lnks (s''.reverse ++ [((⟨xt, xs⟩ : Idt), (⟨it, is⟩ : Idt))])) rfl HP1.out 1 1 (by rw [World.size_setCell, World.size_setCell]; rfl) rfl rfl (by omega) (by have := (HP1.out.lt gb rfl); exact Nat.le_trans this.1 (Nat.le_of_lt this.2)) ?_
                    intro A' c' w12 HO12 HK12 HG12
                    have hrow2 : w12.ownsRow ga 110 4 (.slice A' (P + 1 + 1) c') (P + 1 + 1) (lnks ((⟨it, is⟩, noId) :: (⟨xt, xs⟩, ⟨it, is⟩) :: s'').reverse) := by
                      rw [List.reverse_cons, List.reverse_cons, lnks_app]
                      exact HO12.out
                    have hgb : w1.heap.size ≤ gb := Nat.le_trans HSG.out (HP1.out.lt gb rfl).1
                    have hk12 : Kept (fun _ => False) w1 w12 := (((HK9.out.trans HKZ.out fun _ _ e => e).trans HKC.out fun _ _ e => e).trans HP2.out fun j hj e => by have e' : j = gb := e; omega).trans HK12.out fun j hj e => by
                      have e' : gb = j := by injection e
                      omega
                    have HR12 := Lib.hid hrow2
                    have HK13 := Lib.hid hk12
                    clear hrow2 hgb hk12 HO12 HK12 HG12
                    go_wp2_with (fail)
                    try rw [Exit.noGoto_normal]
                    go_wp2_with (fail)
                    go_roundw
                    case rel => exact ⟨q + 1, P + 1 + 1, _, A', c', rfl, by go_num, by omega, by rw [List.length_cons, List.length_cons, HPL.out], by omega, HR12.out, HK13.out, HCN2.out⟩
                    case measure => simp [intOf]; omega
              · as_aux_lemma =>
                have hpn : popTo ⟨rt, rs⟩ ((⟨xt, xs⟩, ⟨yt, ys⟩) :: s'') = popTo ⟨rt, rs⟩ s'' := if_neg (fun e => hm (by injection e with e1 e2; exact ⟨e1, e2⟩))
                have HPN := Lib.hid (HPOP.out.trans hpn)
                have hcase : (xt = rt ∧ (xs == rs) = false) ∨ (xt == rt) = false := by
                  by_cases h1 : xt = rt
                  · exact .inl ⟨h1, by simp [show ¬ xs = rs from fun e => hm ⟨h1, e⟩]⟩
                  · exact .inr (by simp [h1])
                clear hpn hm
                rcases hcase with ⟨rfl, b2⟩ | b2
                · go_upto_region 17 with (fail)
                  go_quiet (fail)
                  go_wp2_with (fail)
                  go_roundw
                  case rel => exact ⟨P, q' + nq, s'', rfl, HPL.out.symm, by omega, (show _ from lnks_cut HROWX.out HLR.out : World.ownsRow _ _ _ _ _ _ _), by rw [HWX.out]; exact dd _ _ _, HPN.out⟩
                  case measure => simp
                · go_upto_region 17 with (fail)
                  go_quiet (fail)
                  go_wp2_with (fail)
                  go_roundw
                  case rel => exact ⟨P, q' + nq, s'', rfl, HPL.out.symm, by omega, (show _ from lnks_cut HROWX.out HLR.out : World.ownsRow _ _ _ _ _ _ _), by rw [HWX.out]; exact dd _ _ _, HPN.out⟩
                  case measure => simp
        · as_aux_lemma =>
          have hin2 : ¬ (q : Int) < (N : Int) := by omega
          have hse : se = late := by
            have h1 := HCH.out
            rw [List.drop_eq_nil_of_le (by rw [HN.out]; omega)] at h1
            have := HSE2.out
            rw [h1] at this
            simpa [chainB] using this.symm
          have HS := Lib.hid hse
          clear hse
          go_wp2_with (fail)
          go_ret
          exact ⟨ret_int HS.out.symm, HK.out.trans HKX.out fun _ _ e => e⟩
end Go.Proofs.YtnajbkccaclkcaaGreat

namespace Go.Proofs.YtnajbkccaclkcaaGreat
open Go Go.RowKit Go.Maps

/-- A map that holds these numbers. -/
def NumsAt (w : World) (b n : Nat) (S : List Int) : Prop := ∃ D : DataW Unit, w.ownsMap Tryz.prog 3 (plainElem Tryz.prog 4) b n D ∧ IsMap D ∧ ∀ i : Int, fitI i → D.atKey (.int .i64 i) (.lit (.bool false)) = .lit (.bool (decide (i ∈ S)))
section
variable {w w' : World} {b n : Nat} {S : List Int}
theorem NumsAt.made (w : World) : NumsAt (w.alloc (.map #[] 0)) w.heap.size 0 [] := ⟨.map [], World.ownsMap_made _ _ _ _, isMap_empty, fun i _ => by
  rw [atKey_of_not_has (by simp [has_eq])]
  simp⟩
set_option maxRecDepth 100000 in
theorem NumsAt.lookup (h : NumsAt w b n S) {i : Int} (h1 : fitI i) : (Instr.lookup 115 (.map (some b)) (.int .i64 i) false).run Tryz.prog w = .ok (.bool (decide (i ∈ S))) w := by
  obtain ⟨D, ho, _, hat⟩ := h
  obtain ⟨v, ps, hrun, hv⟩ := ho.lookup keyInt Tryz.underlying115 (z := .bool false) (by kernel_rfl) (zd := .lit (.bool false)) (zp := []) (plainElem_bool Tryz.underlying4 false) (keyOf_int_mk Tryz.underlying3 h1)
  obtain ⟨x, rfl, hx⟩ := elemB_inv hv
  injection hx with hx _
  rw [hat i h1] at hx
  injection hx with hx
  injection hx with hx
  rw [hrun, hx]
theorem NumsAt.kept {row : Option Nat} (h : NumsAt w b n S) (hg : w.grownBy w' row) (hne : some b ≠ row) : NumsAt w' b n S := by
  obtain ⟨D, ho, h1, h2⟩ := h
  exact ⟨D, ho.kept hg hne, h1, h2⟩
theorem NumsAt.put {D : DataW Unit} (hm : IsMap D) (hat : ∀ i : Int, fitI i → D.atKey (.int .i64 i) (.lit (.bool false)) = .lit (.bool (decide (i ∈ S)))) {i : Int} {w' : World} (ho : w'.ownsMap Tryz.prog 3 (plainElem Tryz.prog 4) b n (D.put (.int .i64 i) (.lit (.bool true)))) : NumsAt w' b n (i :: S) := by
  refine ⟨_, ho, hm.put _ _, fun j g1 => ?_⟩
  by_cases e : j = i
  · subst e
    rw [atKey_put_same hm (show WideAt.IsKeyLit (Lit.int .i64 j) from trivial)]
    simp
  · rw [atKey_put_other (fun h => e (by injection h)), hat j g1]
    simp [e]
theorem NumsAt.congr {S' : List Int} (h : NumsAt w b n S) (hS : ∀ i, i ∈ S ↔ i ∈ S') : NumsAt w b n S' := by
  obtain ⟨D, ho, h1, h2⟩ := h
  refine ⟨D, ho, h1, fun i hi => (h2 i hi).trans ?_⟩
  have : decide (i ∈ S) = decide (i ∈ S') := by rw [decide_eq_decide]; exact hS i
  rw [this]
end
/-- Why the sites and the epoch are none. -/
def sitesE (j e : List Int) (ep : Int) : Int :=
  if (!risFrom 0 j || !risFrom 0 e || decide (ep < 0)) = true then 1
  else if (decide (ep - (j.filter fun n => !decide (n ∈ e)).length < 0) || !decide ((ep - (j.filter fun n => !decide (n ∈ e)).length).tmod 2 = 0) || decide (2 * ((j.filter fun n => decide (n ∈ e)).length : Int) < ep - (j.filter fun n => !decide (n ∈ e)).length)) = true then 6 else 0

set_option maxRecDepth 100000 in
set_option maxHeartbeats 4000000 in
theorem sites_any (m : Im) (w : World) (h : m.At w) (hs : m.Small) (hj : ∀ n ∈ m.joined, fitI n) (he : ∀ n ∈ m.left, fitI n) (hep : m.epoch ≤ 9223372036854775807) : Calls Tryz.prog 30 #[.agg m.c] w (IntPost w (sitesE m.joined m.left m.epoch)) := by
  obtain ⟨v, vA, vc, b, bA, bc, clock, log, lA, lc, nodes, nA, nc, joined, jA, jc, left, eA, ec, epoch⟩ := m
  have hb := Box.new w 28 (Im.c ⟨v, vA, vc, b, bA, bc, clock, log, lA, lc, nodes, nA, nc, joined, jA, jc, left, eA, ec, epoch⟩)
  have hk := (Kept.refl (fun _ => False) w).alloc (.cells (Im.c ⟨v, vA, vc, b, bA, bc, clock, log, lA, lc, nodes, nA, nc, joined, jA, jc, left, eA, ec, epoch⟩) 28)
  unfold Im.c at hb hk ⊢
  have hl1 : joined.length ≤ 1000000 := hs.joined
  have hl2 : left.length ≤ 1000000 := hs.left
  obtain ⟨w1, hw1⟩ : ∃ w1, w.alloc (.cells #[.slice vA v.length vc, .slice bA b.length bc, .int .i64 clock, .slice lA log.length lc, .slice nA nodes.length nc, .slice jA joined.length jc, .slice eA left.length ec, .int .i64 epoch] 28) = w1 := ⟨_, rfl⟩
  rw [hw1] at hb hk
  obtain ⟨g, hg⟩ : ∃ g, w.heap.size = g := ⟨_, rfl⟩
  rw [hg] at hb
  have hcj := h.joined.fresh hk
  have hce := h.left.fresh hk
  simp only at hcj hce hj he hep ⊢
  have z5 : w1.cell? ⟨g, 5, none⟩ = some (.slice jA joined.length jc) := by simpa using hb.cell 5
  have z6 : w1.cell? ⟨g, 6, none⟩ = some (.slice eA left.length ec) := by simpa using hb.cell 6
  have z7 : w1.cell? ⟨g, 7, none⟩ = some (.int .i64 epoch) := by simpa using hb.cell 7
  have HR1 := Lib.hid (rising_any jA joined jc w1 hcj hl1)
  have HR2 := Lib.hid (rising_any eA left ec w1 hce hl2)
  have HCJ := Lib.hid hcj
  have HCE := Lib.hid hce
  have HJ := Lib.hid hj
  have HE := Lib.hid he
  have HK := Lib.hid hk
  have HG := Lib.hid hg
  obtain ⟨r1, hr1⟩ : ∃ r1, risFrom 0 joined = r1 := ⟨_, rfl⟩
  obtain ⟨r2, hr2⟩ : ∃ r2, risFrom 0 left = r2 := ⟨_, rfl⟩
  obtain ⟨se, hse⟩ : ∃ se, sitesE joined left epoch = se := ⟨_, rfl⟩
  rw [hse]
  unfold sitesE at hse
  rw [hr1] at HR1 hse
  rw [hr2] at HR2 hse
  have HSE := Lib.hid hse
  obtain ⟨NJ, hNJ⟩ : ∃ NJ, joined.length = NJ := ⟨_, rfl⟩
  obtain ⟨NE, hNE⟩ : ∃ NE, left.length = NE := ⟨_, rfl⟩
  have HNJ := Lib.hid hNJ
  have HNE := Lib.hid hNE
  rw [hNJ, hNE] at hw1
  rw [hNJ] at z5 HR1 hl1
  rw [hNE] at z6 HR2 hl2
  rw [hNJ, hNE]
  have HW := Lib.hid hw1
  have Z5 := Lib.hid z5
  have Z7 := Lib.hid z7
  clear hse hr1 hr2 hk hw1 hg hb h hs hcj hce hj he hNJ hNE
  go_enter Tryz.func30, Tryz.ntmps30
  go_upto_region 1 with (fail)
  rw [HW.out, HG.out]
  have hcase : (r1 = false ∨ (r1 = true ∧ r2 = false) ∨ (r1 = true ∧ r2 = true ∧ epoch < 0)) ∨ (r1 = true ∧ r2 = true ∧ ¬ epoch < 0) := by
    cases r1 <;> cases r2 <;> simp <;> omega
  rcases hcase with hc | ⟨rfl, rfl, hep0⟩
  · as_aux_lemma =>
    have hse1 : se = 1 := by
      have := HSE.out
      rcases hc with rfl | ⟨rfl, rfl⟩ | ⟨rfl, rfl, h3⟩
      · simpa using this.symm
      · simpa using this.symm
      · simpa [h3] using this.symm
    have HS1 := Lib.hid hse1
    clear hse1
    go_wp2_with (fail)
    refine HR1.out.mono ?_
    rintro r w2 ⟨rfl, rfl⟩
    rcases hc with rfl | ⟨rfl, rfl⟩ | ⟨rfl, rfl, h3⟩
    · go_wp2_with (fail)
      go_ret
      exact ⟨ret_int HS1.out.symm, HK.out⟩
    · go_wp2_with (fail)
      refine HR2.out.mono ?_
      rintro r w2 ⟨rfl, rfl⟩
      go_wp2_with (fail)
      go_ret
      exact ⟨ret_int HS1.out.symm, HK.out⟩
    · go_wp2_with (fail)
      refine HR2.out.mono ?_
      rintro r w2 ⟨rfl, rfl⟩
      go_wp2_with (fail)
      go_ret
      exact ⟨ret_int HS1.out.symm, HK.out⟩
  · as_aux_lemma =>
    go_wp2_with (fail)
    refine HR1.out.mono ?_
    rintro r w2 ⟨rfl, rfl⟩
    go_wp2_with (fail)
    refine HR2.out.mono ?_
    rintro r w3 ⟨rfl, rfl⟩
    have hmm := run_makeMap (P := Tryz.prog) 115 w3
    have hm0 := NumsAt.made w3
    have hkm := (Kept.refl (fun _ => False) w3).alloc (.map #[] 0)
    have y5 := hkm.cellF z5
    have y6 := hkm.cellF z6
    have y7 := hkm.cellF z7
    obtain ⟨w4, hw4⟩ : ∃ w4, w3.alloc (.map #[] 0) = w4 := ⟨_, rfl⟩
    obtain ⟨M, hM⟩ : ∃ M, w3.heap.size = M := ⟨_, rfl⟩
    rw [hw4, hM] at hmm hm0
    rw [hw4] at hkm y5 y6 y7
    have HM0 := Lib.hid hm0
    have HKM := Lib.hid hkm
    have HMM := Lib.hid hM
    have HMW := Lib.hid (show w3.heap.size ≤ M by omega)
    clear hm0 hkm hw4 hM
    go_wp2_with (fail)
    clear z5 z6 z7
    go_loopw [30] (fun i wr => ∃ k : Nat, i = .int .i64 k ∧ k ≤ NE ∧ NumsAt wr M k (left.take k).reverse ∧ Kept (fun _ => False) w3 wr) (fun i _ => NE - (intOf i).toNat)
    case atStart => exact ⟨0, rfl, Nat.zero_le _, HM0.out, HKM.out⟩
    case round =>
      obtain ⟨k, rfl, hk, hmk, hkw⟩ := hrel
      have HKW := Lib.hid hkw
      have HMK := Lib.hid hmk
      clear hmk hkw y5 y6 y7 hmm
      by_cases hlt : k < NE
      · as_aux_lemma =>
        have hin : (k : Int) < (NE : Int) := by omega
        have hkl : k < left.length := by rw [HNE.out]; exact hlt
        obtain ⟨bb, ff, hA, hc⟩ := ints_cell HCE.out (by omega)
        subst hA
        have c1 := HKW.out.cellF (hc k hkl)
        have hst : (left.take (k + 1)).reverse = left[k] :: (left.take k).reverse := by rw [List.take_succ_eq_append_getElem hkl, List.reverse_append]; rfl
        have hfit := HE.out _ (List.getElem_mem hkl)
        obtain ⟨x, hx⟩ : ∃ x, left[k] = x := ⟨_, rfl⟩
        rw [hx] at c1 hst hfit
        have HST := Lib.hid hst
        have HFIT := Lib.hid hfit
        obtain ⟨D, ho, hmap, hat⟩ := HMK.out
        have HO := Lib.hid ho
        have HP := Lib.hid (fun (w' : World) (ho : w'.ownsMap Tryz.prog 3 (plainElem Tryz.prog 4) M (k + 1) (D.put (.int .i64 x) (.lit (.bool true)))) => NumsAt.put hmap hat ho)
        clear hc hx hst hfit ho hmap hat
        go_wp2_with (at_mapUpdate; refine wpList_mapUpdate_own _ rfl _ _ _ 115 rfl 3 4 keyInt Tryz.underlying115 _ M k D rfl HO.out (by unfold maxLen; omega) _ _ _ rfl rfl (keyOf_int_mk Tryz.underlying3 HFIT.out) _ [] (plainElem_bool Tryz.underlying4 true) ?_; intro w5 ho5 hg5; have HO5 := Lib.hid ho5; have HG5 := Lib.hid hg5; clear ho5 hg5)
        go_roundw
        case rel => exact ⟨k + 1, by go_num, by omega, by rw [HST.out]; exact HP.out _ HO5.out, HKW.out.trans (Kept.of_grown HG5.out) fun q hq e => by (have e' : M = q := by injection e); have := HMW.out; omega⟩
        case measure => simp [intOf]; omega
      · have hin : ¬ (k : Int) < (NE : Int) := by omega
        have hml := HMK.out
        rw [List.take_of_length_le (by rw [HNE.out]; omega)] at hml
        have hml2 := hml.congr (S' := left) fun i => List.mem_reverse
        have HLK := Lib.hid (fun (i : Int) (hi : fitI i) => hml2.lookup hi)
        have y5 := HKW.out.cellF Z5.out
        have y7 := HKW.out.cellF Z7.out
        have Y7 := Lib.hid y7
        obtain ⟨w5, hw5⟩ : ∃ w5 : World, w5 = wr := ⟨_, rfl⟩
        subst hw5
        clear hml hml2 HMK y7
        go_wp2_with (fail)
        clear y5
        go_loopw [6, 7, 40] (fun ma mb i wr => ∃ k a b : Nat, ma = .int .i64 a ∧ mb = .int .i64 b ∧ i = .int .i64 k ∧ k ≤ NJ ∧ wr = w5 ∧ a ≤ k ∧ b ≤ k ∧ a = ((joined.take k).filter fun n => !decide (n ∈ left)).length ∧ b = ((joined.take k).filter fun n => decide (n ∈ left)).length) (fun _ _ i _ => NJ - (intOf i).toNat)
        case atStart => exact ⟨0, 0, 0, rfl, rfl, rfl, Nat.zero_le _, rfl, Nat.le_refl _, Nat.le_refl _, rfl, rfl⟩
        case round =>
          obtain ⟨q, a, b, rfl, rfl, rfl, hq, hwr, haq, hbq, ha, hb⟩ := hrel
          subst hwr
          have HA := Lib.hid ha
          have HB := Lib.hid hb
          clear ha hb
          by_cases hlq : q < NJ
          · have hin2 : (q : Int) < (NJ : Int) := by omega
            have hql : q < joined.length := by rw [HNJ.out]; exact hlq
            obtain ⟨bb, ff, hjA, hc⟩ := ints_cell HCJ.out (by omega)
            subst hjA
            have c1 := HKW.out.cellF (hc q hql)
            have hst := List.take_succ_eq_append_getElem hql
            have hfit := HJ.out _ (List.getElem_mem hql)
            obtain ⟨x, hx⟩ : ∃ x, joined[q] = x := ⟨_, rfl⟩
            rw [hx] at c1 hst hfit
            have hlk := HLK.out x hfit
            have HST := Lib.hid hst
            obtain ⟨bx, hbx⟩ : ∃ bx, decide (x ∈ left) = bx := ⟨_, rfl⟩
            rw [hbx] at hlk
            have HBX := Lib.hid hbx
            clear hc hx hst hfit hbx
            cases bx with
            | true =>
              as_aux_lemma =>
              go_wp2_with (fail)
              go_roundw
              case rel => exact ⟨q + 1, a, b + 1, rfl, by go_num, by go_num, by omega, by trivial, by omega, by omega, by rw [HST.out, List.filter_append, List.length_append, ← HA.out]; simp [HBX.out], by rw [HST.out, List.filter_append, List.length_append, ← HB.out]; simp [HBX.out]⟩
              case measure => simp [intOf]; omega
            | false =>
              as_aux_lemma =>
              go_wp2_with (fail)
              go_roundw
              case rel => exact ⟨q + 1, a + 1, b, by go_num, rfl, by go_num, by omega, by trivial, by omega, by omega, by rw [HST.out, List.filter_append, List.length_append, ← HA.out]; simp [HBX.out], by rw [HST.out, List.filter_append, List.length_append, ← HB.out]; simp [HBX.out]⟩
              case measure => simp [intOf]; omega
          · have hin2 : ¬ (q : Int) < (NJ : Int) := by omega
            have ha := HA.out
            have hb := HB.out
            rw [List.take_of_length_le (by rw [HNJ.out]; omega)] at ha hb
            have hse := HSE.out
            simp only [Bool.not_true, Bool.false_or, decide_eq_false (show ¬ epoch < 0 by omega), Bool.false_eq_true, if_false] at hse
            rw [← ha, ← hb] at hse
            have hw1 : IntKind.i64.wrap (epoch - (a : Int)) = epoch - (a : Int) := IntWalk.i64_in _ ⟨by omega, by omega⟩
            have hw2 : IntKind.i64.wrap (2 * (b : Int)) = 2 * (b : Int) := IntWalk.i64_in _ ⟨by omega, by omega⟩
            have y7 := Y7.out
            have HSF := Lib.hid hse
            clear ha hb hse HA HB
            by_cases m1 : epoch - (a : Int) < 0
            · as_aux_lemma =>
              have hs6 : se = 6 := by have := HSF.out; simpa [m1] using this.symm
              have HS6 := Lib.hid hs6
              clear hs6
              go_wp2_with (fail)
              refine (when_yes 6 _).mono ?_
              rintro r w9 ⟨rfl, rfl⟩
              go_wp2_with (fail)
              go_ret
              exact ⟨ret_int HS6.out.symm, HK.out.trans HKW.out fun _ _ e => e⟩
            · by_cases m2 : (epoch - (a : Int)).tmod 2 = 0
              · by_cases m3 : epoch - (a : Int) > 2 * (b : Int)
                · as_aux_lemma =>
                  have hs6 : se = 6 := by have := HSF.out; simpa [m1, m2, show 2 * (b : Int) < epoch - (a : Int) from m3] using this.symm
                  have HS6 := Lib.hid hs6
                  clear hs6
                  go_wp2_with (fail)
                  refine (when_yes 6 _).mono ?_
                  rintro r w9 ⟨rfl, rfl⟩
                  go_wp2_with (fail)
                  go_ret
                  exact ⟨ret_int HS6.out.symm, HK.out.trans HKW.out fun _ _ e => e⟩
                · as_aux_lemma =>
                  have hs6 : se = 0 := by have := HSF.out; simpa [m1, m2, show ¬ 2 * (b : Int) < epoch - (a : Int) from m3] using this.symm
                  have HS6 := Lib.hid hs6
                  clear hs6
                  go_wp2_with (fail)
                  refine (when_no 6 _).mono ?_
                  rintro r w9 ⟨rfl, rfl⟩
                  go_wp2_with (fail)
                  go_ret
                  exact ⟨ret_int HS6.out.symm, HK.out.trans HKW.out fun _ _ e => e⟩
              · as_aux_lemma =>
                have hs6 : se = 6 := by have := HSF.out; simpa [m1, m2] using this.symm
                have HS6 := Lib.hid hs6
                clear hs6
                go_wp2_with (fail)
                · exact absurd ((Int.tmod_eq_emod_of_nonneg (by omega)).trans (by assumption)) m2
                · refine (when_yes 6 _).mono ?_
                  rintro r w9 ⟨rfl, rfl⟩
                  go_wp2_with (fail)
                  go_ret
                  exact ⟨ret_int HS6.out.symm, HK.out.trans HKW.out fun _ _ e => e⟩
end Go.Proofs.YtnajbkccaclkcaaGreat

namespace Go.Proofs.YtnajbkccaclkcaaGreat
open Go Go.RowKit

/-- The numbers of an image are Go's. -/
structure Im.Fit (m : Im) : Prop where
  nodes : ∀ n ∈ m.nodes, n.Fit
  joined : ∀ n ∈ m.joined, fitI n
  left : ∀ n ∈ m.left, fitI n
  ep : m.epoch ≤ 9223372036854775807
/-- Why an image is none. -/
def checkI (m : Im) : Int := firstE [vecE m.v m.b m.clock, logFrom m.clock m.v m.b m.log, nodesE m.clock m.nodes, sitesE m.joined m.left m.epoch]

set_option maxRecDepth 100000 in
set_option maxHeartbeats 4000000 in
theorem Check9_any (m : Im) (w : World) (h : m.At w) (hs : m.Small) (hf : m.Fit) : Calls Tryz.prog 9 #[.agg m.c] w (IntPost w (checkI m)) := by
  have hk := (Kept.refl (fun _ => False) w).alloc (.cells m.c 28)
  have H1 := Lib.hid (fun W (hW : Kept (fun _ => False) w W) => vectors_any m W (h.fresh hW) hs)
  have H2 := Lib.hid (fun W (hW : Kept (fun _ => False) w W) => log_any m W (h.fresh hW) hs)
  have H3 := Lib.hid (fun W (hW : Kept (fun _ => False) w W) => nodes_any m W (h.fresh hW) hs hf.nodes)
  have H4 := Lib.hid (fun W (hW : Kept (fun _ => False) w W) => sites_any m W (h.fresh hW) hs hf.joined hf.left hf.ep)
  unfold checkI
  obtain ⟨e1, he1⟩ : ∃ e1, vecE m.v m.b m.clock = e1 := ⟨_, rfl⟩
  obtain ⟨e2, he2⟩ : ∃ e2, logFrom m.clock m.v m.b m.log = e2 := ⟨_, rfl⟩
  obtain ⟨e3, he3⟩ : ∃ e3, nodesE m.clock m.nodes = e3 := ⟨_, rfl⟩
  obtain ⟨e4, he4⟩ : ∃ e4, sitesE m.joined m.left m.epoch = e4 := ⟨_, rfl⟩
  rw [he1] at H1 ⊢
  rw [he2] at H2 ⊢
  rw [he3] at H3 ⊢
  rw [he4] at H4 ⊢
  clear he1 he2 he3 he4 h hs hf
  obtain ⟨v, vA, vc, b, bA, bc, clock, log, lA, lc, nodes, nA, nc, joined, jA, jc, left, eA, ec, epoch⟩ := m
  unfold Im.c at *
  simp only at *
  go_enter Tryz.func9, Tryz.ntmps9
  go_upto_region 2 with (fail)
  obtain ⟨cs, hcs⟩ : ∃ cs : Array Value, cs = #[.slice vA v.length vc, .slice bA b.length bc, .int .i64 clock, .slice lA log.length lc, .slice nA nodes.length nc, .slice jA joined.length jc, .slice eA left.length ec, .int .i64 epoch] := ⟨_, rfl⟩
  have hb1 := (Box.new w 28 #[.slice vA v.length vc, .slice bA b.length bc, .int .i64 clock, .slice lA log.length lc, .slice nA nodes.length nc, .slice jA joined.length jc, .slice eA left.length ec, .int .i64 epoch]).alloc (.cells #[.func (.func 27) #[] #[], .func (.func 28) #[] #[], .func (.func 29) #[] #[], .func (.func 30) #[] #[]] 33)
  have hb2 := Box.new (w.alloc (.cells #[.slice vA v.length vc, .slice bA b.length bc, .int .i64 clock, .slice lA log.length lc, .slice nA nodes.length nc, .slice jA joined.length jc, .slice eA left.length ec, .int .i64 epoch] 28)) 33 #[.func (.func 27) #[] #[], .func (.func 28) #[] #[], .func (.func 29) #[] #[], .func (.func 30) #[] #[]]
  have hk2 := hk.alloc (.cells #[.func (.func 27) #[] #[], .func (.func 28) #[] #[], .func (.func 29) #[] #[], .func (.func 30) #[] #[]] 33)
  rw [World.size_alloc] at hb2
  generalize (w.alloc (.cells #[.slice vA v.length vc, .slice bA b.length bc, .int .i64 clock, .slice lA log.length lc, .slice nA nodes.length nc, .slice jA joined.length jc, .slice eA left.length ec, .int .i64 epoch] 28)).alloc (.cells #[.func (.func 27) #[] #[], .func (.func 28) #[] #[], .func (.func 29) #[] #[], .func (.func 30) #[] #[]] 33) = w2 at hb1 hb2 hk2 ⊢
  clear hcs cs hk
  obtain ⟨g, hg⟩ : ∃ g, w.heap.size = g := ⟨_, rfl⟩
  rw [hg] at hb1 hb2 ⊢
  have HB1 := Lib.hid hb1
  have HB2 := Lib.hid hb2
  have HK2 := Lib.hid hk2
  clear hb1 hb2 hk2 hg
  go_loopw [8] (fun i wr => ∃ k : Nat, i = .int .i64 k ∧ k ≤ 4 ∧ Kept (fun _ => False) w2 wr ∧ (0 < k → e1 = 0) ∧ (1 < k → e2 = 0) ∧ (2 < k → e3 = 0) ∧ (3 < k → e4 = 0)) (fun i _ => 4 - (intOf i).toNat)
  case atStart => exact ⟨0, rfl, by omega, Kept.refl _ _, by omega, by omega, by omega, by omega⟩
  case round =>
    obtain ⟨k, rfl, hk, hkw, g1, g2, g3, g4⟩ := hrel
    have hc1 := HB1.out.kept hkw id
    have hc2 := HB2.out.kept hkw id
    have aM := Tryz.isAgg28
    have zM := Tryz.sizeOf28
    have p0 : wr.cell? ⟨g, 0, none⟩ = some (.slice vA v.length vc) := by simpa using hc1.cell 0
    have p1 : wr.cell? ⟨g, 1, none⟩ = some (.slice bA b.length bc) := by simpa using hc1.cell 1
    have p2 : wr.cell? ⟨g, 2, none⟩ = some (.int .i64 clock) := by simpa using hc1.cell 2
    have p3 : wr.cell? ⟨g, 3, none⟩ = some (.slice lA log.length lc) := by simpa using hc1.cell 3
    have p4 : wr.cell? ⟨g, 4, none⟩ = some (.slice nA nodes.length nc) := by simpa using hc1.cell 4
    have p5 : wr.cell? ⟨g, 5, none⟩ = some (.slice jA joined.length jc) := by simpa using hc1.cell 5
    have p6 : wr.cell? ⟨g, 6, none⟩ = some (.slice eA left.length ec) := by simpa using hc1.cell 6
    have p7 : wr.cell? ⟨g, 7, none⟩ = some (.int .i64 epoch) := by simpa using hc1.cell 7
    have HKW := Lib.hid hkw
    have HKR := Lib.hid (HK2.out.trans hkw fun _ _ e => e)
    have hcase : k = 0 ∨ k = 1 ∨ k = 2 ∨ k = 3 ∨ k = 4 := by omega
    rcases hcase with rfl | rfl | rfl | rfl | rfl
    · as_aux_lemma =>
      have q : wr.cell? ⟨g + 1, 0, none⟩ = some (.func (.func 27) #[] #[]) := by simpa using hc2.cell 0
      go_wp2_with (fail)
      refine (H1.out _ HKR.out).mono ?_
      unfold IntPost
      rintro r w3 ⟨rfl, hk3⟩
      have HK3 := Lib.hid hk3
      clear hk3 q p0 p1 p2 p3 p4 p5 p6 p7 hc1 hc2
      by_cases h0 : e1 = 0
      · have b1 : (e1 != 0) = false := by simp [h0]
        have H0 := Lib.hid h0
        go_wp2_with (fail)
        go_roundw
        case rel => exact ⟨1, rfl, by omega, HKW.out.trans HK3.out fun _ _ e => e, fun _ => h0, by omega, by omega, by omega⟩
        case measure => simp [intOf]
      · have b1 : (e1 != 0) = true := by simp [h0]
        have b2 : (e1 == 0) = false := by simp [h0]
        have hfe : firstE [e1, e2, e3, e4] = e1 := by simp [firstE, h0]
        have HFE := Lib.hid hfe
        clear hfe h0
        go_wp2_with (fail)
        go_ret
        exact ⟨ret_int HFE.out.symm, HKR.out.trans HK3.out fun _ _ e => e⟩
    · as_aux_lemma =>
      have hz1 : e1 = 0 := g1 (by omega)
      have q : wr.cell? ⟨g + 1, 1, none⟩ = some (.func (.func 28) #[] #[]) := by simpa using hc2.cell 1
      go_wp2_with (fail)
      refine (H2.out _ HKR.out).mono ?_
      unfold IntPost
      rintro r w3 ⟨rfl, hk3⟩
      have HK3 := Lib.hid hk3
      clear hk3 q p0 p1 p2 p3 p4 p5 p6 p7 hc1 hc2
      by_cases h0 : e2 = 0
      · have b1 : (e2 != 0) = false := by simp [h0]
        have H0 := Lib.hid h0
        go_wp2_with (fail)
        go_roundw
        case rel => exact ⟨2, rfl, by omega, HKW.out.trans HK3.out fun _ _ e => e, fun _ => hz1, fun _ => h0, by omega, by omega⟩
        case measure => simp [intOf]
      · have b1 : (e2 != 0) = true := by simp [h0]
        have b2 : (e2 == 0) = false := by simp [h0]
        have hfe : firstE [e1, e2, e3, e4] = e2 := by simp [firstE, hz1, h0]
        have HFE := Lib.hid hfe
        clear hfe h0
        go_wp2_with (fail)
        go_ret
        exact ⟨ret_int HFE.out.symm, HKR.out.trans HK3.out fun _ _ e => e⟩
    · as_aux_lemma =>
      have hz1 : e1 = 0 := g1 (by omega)
      have hz2 : e2 = 0 := g2 (by omega)
      have q : wr.cell? ⟨g + 1, 2, none⟩ = some (.func (.func 29) #[] #[]) := by simpa using hc2.cell 2
      go_wp2_with (fail)
      refine (H3.out _ HKR.out).mono ?_
      unfold IntPost
      rintro r w3 ⟨rfl, hk3⟩
      have HK3 := Lib.hid hk3
      clear hk3 q p0 p1 p2 p3 p4 p5 p6 p7 hc1 hc2
      by_cases h0 : e3 = 0
      · have b1 : (e3 != 0) = false := by simp [h0]
        have H0 := Lib.hid h0
        go_wp2_with (fail)
        go_roundw
        case rel => exact ⟨3, rfl, by omega, HKW.out.trans HK3.out fun _ _ e => e, fun _ => hz1, fun _ => hz2, fun _ => h0, by omega⟩
        case measure => simp [intOf]
      · have b1 : (e3 != 0) = true := by simp [h0]
        have b2 : (e3 == 0) = false := by simp [h0]
        have hfe : firstE [e1, e2, e3, e4] = e3 := by simp [firstE, hz1, hz2, h0]
        have HFE := Lib.hid hfe
        clear hfe h0
        go_wp2_with (fail)
        go_ret
        exact ⟨ret_int HFE.out.symm, HKR.out.trans HK3.out fun _ _ e => e⟩
    · as_aux_lemma =>
      have hz1 : e1 = 0 := g1 (by omega)
      have hz2 : e2 = 0 := g2 (by omega)
      have hz3 : e3 = 0 := g3 (by omega)
      have q : wr.cell? ⟨g + 1, 3, none⟩ = some (.func (.func 30) #[] #[]) := by simpa using hc2.cell 3
      go_wp2_with (fail)
      refine (H4.out _ HKR.out).mono ?_
      unfold IntPost
      rintro r w3 ⟨rfl, hk3⟩
      have HK3 := Lib.hid hk3
      clear hk3 q p0 p1 p2 p3 p4 p5 p6 p7 hc1 hc2
      by_cases h0 : e4 = 0
      · have b1 : (e4 != 0) = false := by simp [h0]
        have H0 := Lib.hid h0
        go_wp2_with (fail)
        go_roundw
        case rel => exact ⟨4, rfl, by omega, HKW.out.trans HK3.out fun _ _ e => e, fun _ => hz1, fun _ => hz2, fun _ => hz3, fun _ => h0⟩
        case measure => simp [intOf]
      · have b1 : (e4 != 0) = true := by simp [h0]
        have b2 : (e4 == 0) = false := by simp [h0]
        have hfe : firstE [e1, e2, e3, e4] = e4 := by simp [firstE, hz1, hz2, hz3, h0]
        have HFE := Lib.hid hfe
        clear hfe h0
        go_wp2_with (fail)
        go_ret
        exact ⟨ret_int HFE.out.symm, HKR.out.trans HK3.out fun _ _ e => e⟩
    · as_aux_lemma =>
      have hfe : firstE [e1, e2, e3, e4] = 0 := by simp [firstE, g1 (by omega), g2 (by omega), g3 (by omega), g4 (by omega)]
      have HFE := Lib.hid hfe
      clear hfe
      go_wp2_with (fail)
      go_ret
      exact ⟨ret_int HFE.out.symm, HKR.out⟩
end Go.Proofs.YtnajbkccaclkcaaGreat
