/- The law's helpers: large, fits. Conditions: the lists lie in memory; at most a million. -/
import Derived.Test.YtkekhnohehhljaaELod
import Derived.Test.YtkekhnohehhljaaEPla
import Derived.BigQuiet
namespace Go.Proofs.Ytkekhnohehhljaa
open Go Go.Shelf Go.RowKit Go.Lib Go.Sort

def tellsB (e : Ev) (x y s t : Int) : Bool := decide (e.kind = 2) && !e.bad && decide (e.src = x) && decide (e.dst = y) && decide (s ≤ e.step) && decide (e.step < t) && decide (s ≤ e.sent) && decide (e.sent < t)
theorem tellsB_iff (e : Ev) (x y s t : Int) : tellsB e x y s t = true ↔ Tells e x y s t := by
  simp only [tellsB, Bool.and_eq_true, decide_eq_true_eq, Bool.not_eq_true', Tells]
  constructor
  · rintro ⟨⟨⟨⟨⟨⟨⟨h1, h2⟩, h3⟩, h4⟩, h5⟩, h6⟩, h7⟩, h8⟩
    exact ⟨h1, h2, h3, h4, h5, h7, h6, h8⟩
  · rintro ⟨h1, h2, h3, h4, h5, h7, h6, h8⟩
    exact ⟨⟨⟨⟨⟨⟨⟨h1, h2⟩, h3⟩, h4⟩, h5⟩, h6⟩, h7⟩, h8⟩
def pairB (es : List Ev) (x y s t : Int) : Bool := decide (x = y) || es.any fun e => tellsB e x y s t
def fitsB (es : List Ev) (ss : List Int) (s t : Int) : Bool := decide (s < t) && ss.all fun x => ss.all fun y => pairB es x y s t
theorem pairB_iff (es : List Ev) (x y s t : Int) : pairB es x y s t = true ↔ (x = y ∨ ∃ e ∈ es, Tells e x y s t) := by
  simp only [pairB, Bool.or_eq_true, decide_eq_true_eq, List.any_eq_true, tellsB_iff]
theorem fitsB_iff (es : List Ev) (ss : List Int) (s t : Int) : fitsB es ss s t = true ↔ Fit es ss s t := by
  simp only [fitsB, Bool.and_eq_true, decide_eq_true_eq, List.all_eq_true, pairB_iff, Fit]
/-- A world that has only grown. -/
def Grn (w w' : World) : Prop := ∃ q os, w' = grow (w.drewN q) os
theorem Grn.refl (w : World) : Grn w w := ⟨0, #[], by rw [grow_empty]; rfl⟩
theorem Grn.kept {S : Nat → Prop} {w w' : World} (h : Grn w w') : Kept S w w' := by obtain ⟨q, os, rfl⟩ := h; exact kept_grown _ _ _
theorem Grn.trans {a b c : World} (h : Grn a b) (h' : Grn b c) : Grn a c := by
  obtain ⟨q, os, rfl⟩ := h
  obtain ⟨q', os', rfl⟩ := h'
  exact ⟨q + q', os ++ os', by simp [grow, World.drewN, Array.append_assoc, Nat.add_assoc] <;> omega⟩
theorem Grn.cell {w w' : World} {p : Addr} {u : Value} (h : Grn w w') (hc : w.cell? p = some u) : w'.cell? p = some u := by
  rw [World.cell?_of_block (w := w) ((h.kept (S := fun _ => False)).block _ (World.block_lt_of_cell? w _ hc) id)]
  exact hc
theorem Grn.drewN {a b : World} (h : Grn a b) (n : Nat) : Grn a (b.drewN n) := h.trans ⟨n, #[], by rw [grow_empty]⟩
theorem setRow_new (W : World) (old cs : Array Value) (T : TypeId) : (W.alloc (.cells old T)).setRow W.heap.size cs = W.alloc (.cells cs T) := by
  unfold World.setRow World.alloc
  congr 1
  refine Array.ext_getElem? fun i => ?_
  rw [Array.getElem?_modify, Array.getElem?_push, Array.getElem?_push]
  by_cases h : i = W.heap.size
  · subst h; simp
  · have h' : ¬ W.heap.size = i := fun e => h e.symm
    simp [h, h']
theorem store_evnew {ops : Array Oper} {rest : List Oper} {o : Oper} {a : Act} {w : World} {Q : Exit → Act → World → Prop} (hgd : o.guard = none) (x y : Operand) (ho : o.op = .store 35 x y) (W0 : World) (cs : Array Value) (hx : a.eval x = .pointer (some ⟨W0.heap.size, 0, none⟩)) (hy : a.eval y = .agg cs) (old : Array Value) (hw : w = W0.alloc (.cells old 35))
    (hs : cs.size = 7) (hold : old.size = 7) (h1 : cs.all (·.oneCell') = true) (h : wpList Try.prog ops Q rest (a.put o.dst undef) (W0.alloc (.cells cs 35))) : wpList Try.prog ops Q (o :: rest) a w := by
  subst hw
  refine wpList_store_row hgd _ x y ho W0.heap.size cs hx hy 35 old (Box.new W0 _ old) (by rw [hs]; exact ev_size) (by rw [hs, hold]) h1 ?_
  rw [setRow_new]
  exact h
theorem fits_no {es : List Ev} {ss : List Int} {s t x y : Int} (hx : x ∈ ss) (hy : y ∈ ss) (h : pairB es x y s t = false) : fitsB es ss s t = false := by
  refine Bool.eq_false_iff.2 fun hf => ?_
  have := (fitsB_iff es ss s t).1 hf
  have h2 := (pairB_iff es x y s t).2 (this.2 x hx y hy)
  rw [h] at h2
  cases h2
theorem large_any (AE AL : Option Addr) (nE cE nL cL : Nat) (w : World) : Calls Try.prog 10 #[.slice AE nE cE, .slice AL nL cL] w fun r w' => r = .returned (.bool (decide (300 < nE) || decide (40 < nL))) ∧ w' = w := by
  by_cases h1 : 300 < nE
  · have h1' : (nE : Int) > 300 := by omega
    rw [decide_eq_true h1, Bool.true_or]
    go_enter Try.func10, Try.ntmps10
    go_wp2_with (fail)
    go_ret
    exact ⟨rfl, rfl⟩
  · have h1' : ¬ (nE : Int) > 300 := by omega
    rw [decide_eq_false h1, Bool.false_or]
    by_cases h2 : 40 < nL
    · have h2' : (nL : Int) > 40 := by omega
      rw [decide_eq_true h2]
      go_enter Try.func10, Try.ntmps10
      go_wp2_with (fail)
      go_ret
      exact ⟨rfl, rfl⟩
    · have h2' : ¬ (nL : Int) > 40 := by omega
      rw [decide_eq_false h2]
      go_enter Try.func10, Try.ntmps10
      go_wp2_with (fail)
      go_ret
      exact ⟨rfl, rfl⟩
theorem ints_cell {w : World} {A : Option Addr} {l : List Int} (h : CellsAt w A (ints l)) (hn : 0 < l.length) : ∃ b f, A = some ⟨b, f, none⟩ ∧ ∀ k (hk : k < l.length), w.cell? ⟨b, f + k, none⟩ = some (.int .i64 l[k]) := by
  obtain ⟨b, f, e, h0⟩ := h.some_ (by rw [ints_len]; exact hn)
  exact ⟨b, f, e, fun k hk => h0 k _ (ints_get l k hk)⟩

set_option maxRecDepth 100000 in
set_option maxHeartbeats 4000000 in
theorem fits_any (AE AL : Option Addr) (es : List Ev) (live : List Int) (cE cL : Nat) (s t : Int) (w : World) (hE : CellsAt w AE (evs es)) (hL : CellsAt w AL (ints live)) (hm : es.length ≤ 1000000) (hn : live.length ≤ 1000000) :
    Calls Try.prog 12 #[.slice AE es.length cE, .slice AL live.length cL, .int .i64 s, .int .i64 t] w fun r w' => r = .returned (.bool (fitsB es live s t)) ∧ ∃ q os, w' = grow (w.drewN q) os := by
  obtain ⟨N, hN⟩ : ∃ N, live.length = N := ⟨_, rfl⟩
  obtain ⟨E, hE'⟩ : ∃ E, es.length = E := ⟨_, rfl⟩
  have HE := Lib.hid hE
  have HL := Lib.hid hL
  rw [hN, hE']
  rw [hE'] at hm
  rw [hN] at hn
  have HN := Lib.hid hN
  have HEE := Lib.hid hE'
  clear hE hL hN hE'
  go_enter Try.func12, Try.ntmps12
  go_wp2_with (fail)
  go_loopw [9] (fun i wr => ∃ k : Nat, i = .int .i64 k ∧ k ≤ N ∧ Grn w wr ∧ ∀ x ∈ live.take k, ∀ y ∈ live, pairB es x y s t = true) (fun i _ => N - (intOf i).toNat)
  case atStart => exact ⟨0, rfl, Nat.zero_le _, Grn.refl _, fun x hx => absurd hx (by simp)⟩
  case round =>
    obtain ⟨k, rfl, hk, hg, hall⟩ := hrel
    have HG := Lib.hid hg
    have HA := Lib.hid hall
    clear hg hall
    by_cases hlt : k < N
    · as_aux_lemma =>
      have hin : (k : Int) < (N : Int) := by omega
      have hkl : k < live.length := by rw [HN.out]; exact hlt
      obtain ⟨b, f, hAL, hc⟩ := ints_cell (HL.out) (by omega)
      subst hAL
      obtain ⟨x, hx⟩ : ∃ x, live[k] = x := ⟨_, rfl⟩
      have HX := Lib.hid hx
      have HC := Lib.hid hc
      have hck := hc k hkl
      rw [hx] at hck
      have HCK := Lib.hid hck
      clear hc hx hck
      go_wp2_with (fail)
      obtain ⟨wo, rfl⟩ : ∃ wo : World, wo = wr := ⟨_, rfl⟩
      go_loopw [10] (fun i wr => ∃ m : Nat, i = .int .i64 m ∧ m ≤ N ∧ Grn w wr ∧ ∀ y ∈ live.take m, pairB es x y s t = true) (fun i _ => N - (intOf i).toNat)
      case atStart => exact ⟨0, rfl, Nat.zero_le _, HG.out, fun x hx => absurd hx (by simp)⟩
      case round =>
        obtain ⟨m, rfl, hm', hg, hall⟩ := hrel
        have HG2 := Lib.hid hg
        have HA2 := Lib.hid hall
        clear hg hall
        by_cases hlm : m < N
        · as_aux_lemma =>
          have hin2 : (m : Int) < (N : Int) := by omega
          have hml : m < live.length := by rw [HN.out]; exact hlm
          obtain ⟨y, hy⟩ : ∃ y, live[m] = y := ⟨_, rfl⟩
          have HY := Lib.hid hy
          have hcm := HC.out m hml
          rw [hy] at hcm
          have HCM := Lib.hid hcm
          have x1 := HG2.out.cell HCK.out
          have x2 := HG2.out.cell hcm
          clear hcm hy
          go_upto_region 7 with (fail)
          go_quiet (fail)
          have HG3 := Lib.hid (HG2.out.drewN nq)
          generalize wr.drewN nq = w2 at HG3 ⊢
          clear x1 x2
          go_wp2_with (fail)
          obtain ⟨wp, rfl⟩ : ∃ wp : World, wp = w2 := ⟨_, rfl⟩
          go_loopw [11, 12] (fun v i wr => ∃ (n : Nat) (fd : Bool), v = .bool fd ∧ i = .int .i64 n ∧ n ≤ E ∧ Grn w wr ∧ fd = (decide (x = y) || (es.take n).any fun e => tellsB e x y s t)) (fun _ i _ => E - (intOf i).toNat)
          case atStart => exact ⟨0, (x == y), rfl, rfl, Nat.zero_le _, HG3.out, by rw [List.take_zero]; simp; first | rfl | exact (Bool.beq_eq_decide_eq _ _)⟩
          case round =>
            obtain ⟨n, fd, rfl, rfl, hn', hg, hfd⟩ := hrel
            have HG4 := Lib.hid hg
            have HFD := Lib.hid hfd
            clear hg hfd
            by_cases hln : n < E
            · as_aux_lemma =>
              have hin3 : (n : Int) < (E : Int) := by omega
              have hnl : n < es.length := by rw [HEE.out]; exact hln
              obtain ⟨b', f', hAE, hce⟩ := HE.out.some_ (by rw [evs_len]; omega)
              subst hAE
              have hr := ev_range (w := wr) (fun j u hj => HG4.out.cell (hce j u hj)) n hnl
              obtain ⟨e, he⟩ : ∃ e, es[n] = e := ⟨_, rfl⟩
              have HEV := Lib.hid he
              rw [he] at hr
              have HR := Lib.hid hr
              have HG5 := Lib.hid (show Grn w (wr.alloc (.cells #[.int .i64 e.step, .int .i64 e.kind, .int .i64 e.copy, .int .i64 e.src, .int .i64 e.dst, .int .i64 e.sent, .bool e.bad] 35)) from HG4.out.trans ⟨0, #[_], by rw [alloc_eq_grow]; rfl⟩)
              have HB5 := Lib.hid (Box.new wr 35 #[.int .i64 e.step, .int .i64 e.kind, .int .i64 e.copy, .int .i64 e.src, .int .i64 e.dst, .int .i64 e.sent, .bool e.bad])
              clear hr he hce
              go_upto_region 12 with (first | refine load_ev rfl _ rfl b' (f' + n * 7) rfl e HR.out ?_ | (refine store_evnew rfl _ _ rfl wr _ rfl rfl evZ rfl rfl rfl e.one ?_; refine Hid.out ?_))
              refine Lib.hid ?_
              obtain ⟨D, hD⟩ : ∃ D, wr.heap.size = D := ⟨_, rfl⟩
              rw [hD] at HB5 ⊢
              have HD := Lib.hid hD
              generalize wr.alloc (.cells #[.int .i64 e.step, .int .i64 e.kind, .int .i64 e.copy, .int .i64 e.src, .int .i64 e.dst, .int .i64 e.sent, .bool e.bad] 35) = w5 at HG5 HB5 ⊢
              have hb8 := HB5.out
              have x1 := HG5.out.cell HCK.out
              have x2 := HG5.out.cell HCM.out
              have y0 := hb8.cell 0
              have y1 := hb8.cell 1
              have y3 := hb8.cell 3
              have y4 := hb8.cell 4
              have y5 := hb8.cell 5
              have y6 := hb8.cell 6
              clear hD hb8 HR
              go_upto_region 12 with (fail)
              obtain ⟨bb, hbb⟩ : ∃ bb, tellsB e x y s t = bb := ⟨_, rfl⟩
              have HBR := Lib.hid hbb
              obtain ⟨e0, ek, ec, es', ed, et, eb⟩ := e
              simp only [tellsB] at hbb
              simp only [List.getElem?_toArray, List.getElem?_cons_zero, List.getElem?_cons_succ] at y0 y1 y3 y4 y5 y6
              have HBB := Lib.hid hbb
              clear hbb
              go_cut [94] (fun v wx => v = .bool bb ∧ ∃ q, wx = w5.drewN q)
              case first =>
                by_cases q1 : ek = 2
                · have bq1 : (ek == 2) = true := by rw [beq_iff_eq]; exact q1
                  have Hq1 := Lib.hid q1
                  clear q1
                  cases eb with
                  | true =>
                    as_aux_lemma =>
                    obtain rfl : false = bb := by rw [← HBB.out]; simp [Hq1.out]
                    go_quiet (fail)
                    go_wp2_with (fail)
                    go_meet
                    case rel => exact ⟨rfl, _, rfl⟩
                  | false =>
                    by_cases q3 : es' = x
                    · have bq3 : (es' == x) = true := by rw [beq_iff_eq]; exact q3
                      have Hq3 := Lib.hid q3
                      clear q3
                      by_cases q4 : ed = y
                      · have bq4 : (ed == y) = true := by rw [beq_iff_eq]; exact q4
                        have Hq4 := Lib.hid q4
                        clear q4
                        by_cases q5 : s ≤ e0
                        · by_cases q6 : e0 < t
                          · by_cases q7 : s ≤ et
                            · by_cases q8 : et < t
                              · as_aux_lemma =>
                                obtain rfl : true = bb := by rw [← HBB.out]; simp [Hq1.out, Hq3.out, Hq4.out, q5, q6, q7, q8]
                                go_quiet (fail)
                                go_wp2_with (fail)
                                go_meet
                                case rel => exact ⟨rfl, _, rfl⟩
                              · as_aux_lemma =>
                                obtain rfl : false = bb := by rw [← HBB.out]; simp [Hq1.out, Hq3.out, Hq4.out, q5, q6, q7, q8]
                                go_quiet (fail)
                                go_wp2_with (fail)
                                go_meet
                                case rel => exact ⟨rfl, _, rfl⟩
                            · as_aux_lemma =>
                              obtain rfl : false = bb := by rw [← HBB.out]; simp [Hq1.out, Hq3.out, Hq4.out, q5, q6, q7]
                              go_quiet (fail)
                              go_wp2_with (fail)
                              go_meet
                              case rel => exact ⟨rfl, _, rfl⟩
                          · as_aux_lemma =>
                            obtain rfl : false = bb := by rw [← HBB.out]; simp [Hq1.out, Hq3.out, Hq4.out, q5, q6]
                            go_quiet (fail)
                            go_wp2_with (fail)
                            go_meet
                            case rel => exact ⟨rfl, _, rfl⟩
                        · as_aux_lemma =>
                          obtain rfl : false = bb := by rw [← HBB.out]; simp [Hq1.out, Hq3.out, Hq4.out, q5]
                          go_quiet (fail)
                          go_wp2_with (fail)
                          go_meet
                          case rel => exact ⟨rfl, _, rfl⟩
                      · have bq4 : (ed == y) = false := by rw [beq_eq_false_iff_ne]; exact q4
                        have Hq4 := Lib.hid q4
                        clear q4
                        as_aux_lemma =>
                        obtain rfl : false = bb := by rw [← HBB.out]; simp [Hq1.out, Hq3.out, Hq4.out]
                        go_quiet (fail)
                        go_wp2_with (fail)
                        go_meet
                        case rel => exact ⟨rfl, _, rfl⟩
                    · have bq3 : (es' == x) = false := by rw [beq_eq_false_iff_ne]; exact q3
                      have Hq3 := Lib.hid q3
                      clear q3
                      as_aux_lemma =>
                      obtain rfl : false = bb := by rw [← HBB.out]; simp [Hq1.out, Hq3.out]
                      go_quiet (fail)
                      go_wp2_with (fail)
                      go_meet
                      case rel => exact ⟨rfl, _, rfl⟩
                · have bq1 : (ek == 2) = false := by rw [beq_eq_false_iff_ne]; exact q1
                  have Hq1 := Lib.hid q1
                  clear q1
                  as_aux_lemma =>
                  obtain rfl : false = bb := by rw [← HBB.out]; simp [Hq1.out]
                  go_quiet (fail)
                  go_wp2_with (fail)
                  go_meet
                  case rel => exact ⟨rfl, _, rfl⟩
              case rest =>
                obtain ⟨rfl, q, hww⟩ := hcut
                have HG6 := Lib.hid (show Grn w wc from hww ▸ HG5.out.drewN q)
                have hst : ((es.take (n + 1)).any fun e => tellsB e x y s t) = ((es.take n).any (fun e => tellsB e x y s t) || bb) := by
                  rw [List.take_succ_eq_append_getElem hnl, List.any_append, HEV.out, ← HBR.out]
                  simp
                have HST := Lib.hid hst
                clear hst hww x1 x2 y0 y1 y3 y4 y5 y6 HBB
                cases bb with
                | true =>
                  go_wp2_with (fail)
                  go_roundw
                  case rel => exact ⟨n + 1, true, rfl, by go_num, by omega, HG6.out, by rw [HST.out]; simp⟩
                  case measure => simp [intOf]; omega
                | false =>
                  go_wp2_with (fail)
                  go_roundw
                  case rel => exact ⟨n + 1, fd, rfl, by go_num, by omega, HG6.out, by rw [HST.out, Bool.or_false]; exact HFD.out⟩
                  case measure => simp [intOf]; omega
            · as_aux_lemma =>
              have hin3 : ¬ (n : Int) < (E : Int) := by omega
              have hp : fd = pairB es x y s t := by rw [HFD.out, List.take_of_length_le (by rw [HEE.out]; omega)]; rfl
              have HP := Lib.hid hp
              clear hp
              cases fd with
              | true =>
                go_wp2_with (fail)
                go_roundw
                case rel => exact ⟨m + 1, by go_num, by omega, HG4.out, fun z hz => by
                  rw [List.take_succ_eq_append_getElem hml, List.mem_append, List.mem_singleton] at hz
                  rcases hz with hz | hz
                  · exact HA2.out z hz
                  · rw [hz, HY.out]; exact HP.out.symm⟩
                case measure => simp [intOf]; omega
              | false =>
                go_wp2_with (fail)
                go_ret
                refine ⟨ret_bool (fits_no (x := x) (y := y) ?_ ?_ HP.out.symm).symm, HG4.out⟩
                · rw [← HX.out]; exact List.getElem_mem _
                · rw [← HY.out]; exact List.getElem_mem _
        · as_aux_lemma =>
          have hin2 : ¬ (m : Int) < (N : Int) := by omega
          have ha := HA2.out
          rw [List.take_of_length_le (by rw [HN.out]; omega)] at ha
          have HA3 := Lib.hid ha
          clear ha
          go_wp2_with (fail)
          go_roundw
          case rel => exact ⟨k + 1, by go_num, by omega, HG2.out, fun z hz => by
            rw [List.take_succ_eq_append_getElem hkl, List.mem_append, List.mem_singleton] at hz
            rcases hz with hz | hz
            · exact HA.out z hz
            · rw [hz, HX.out]; exact HA3.out⟩
          case measure => simp [intOf]; omega
    · as_aux_lemma =>
      have hin : ¬ (k : Int) < (N : Int) := by omega
      have ha := HA.out
      rw [List.take_of_length_le (by rw [HN.out]; omega)] at ha
      have HA3 := Lib.hid ha
      clear ha
      go_wp2_with (fail)
      go_ret
      refine ⟨ret_bool ?_, HG.out⟩
      unfold fitsB
      rw [List.all_eq_true.2 fun x hx => List.all_eq_true.2 fun y hy => HA3.out x hx y hy, Bool.and_true]
end Go.Proofs.Ytkekhnohehhljaa
