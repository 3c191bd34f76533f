/- The walk of a Front's Hear. Conditions: the Front and the list lie in memory. -/
import Derived.Test.YthlejmpeigfdgaaFHear
namespace Go.Proofs.Ythlejmpeigfdgaa
open Go Go.RowKit

theorem getF_uniq {s : List Fp} (h : FsOk s) {m : Int} {x : Fp} (hg : getF s m = some x) : ∀ y ∈ s, y.site = m → y = x := fun y hy hm => by
  obtain ⟨hx, hxm⟩ := getF_mem hg
  obtain ⟨i, hi, rfl⟩ := List.getElem_of_mem hy
  obtain ⟨j, hj, rfl⟩ := List.getElem_of_mem hx
  have hp := List.pairwise_iff_getElem.1 h.nodup
  rcases Nat.lt_trichotomy i j with e | e | e
  · exact absurd (hm.trans hxm.symm) (hp i j hi hj e)
  · subst e; rfl
  · exact absurd (hxm.trans hm.symm) (hp j i hj hi e)
theorem FrIn.look {w : World} {p n q b : Nat} {F : Nat → Prop} {s : List Fp} {es : List Fe} {D : DataW Value} (h : FrIn w p F s es n q b D) (m : Int) :
    (es.any (fun x => x.c.is m) = false ∧ getF s m = none ∧ ∀ v ps, rowElem v = some (D.atKey (.int .i64 m) (.held (.agg zRow)), ps) → v = .agg zRow) ∨ (es.any (fun x => x.c.is m) = true ∧ ∃ x ∈ es, getF s m = some x.c ∧ x.c.site = m ∧ ∀ v ps, rowElem v = some (D.atKey (.int .i64 m) (.held (.agg zRow)), ps) → v = .agg #[x.aV, x.bV]) := by
  cases ha : es.any (fun x => x.c.is m) with
  | false =>
    refine .inl ⟨rfl, h.at_.get_no ha, fun v ps hv => ?_⟩
    rcases look_row h.at_ h.is hv with ⟨_, _, e⟩ | ⟨hh, _⟩
    · exact e
    · rw [h.is.has, ha] at hh; cases hh
  | true =>
    obtain ⟨x, hx, hg, hn⟩ := h.at_.get_of ha
    refine .inr ⟨rfl, x, hx, hg, hn, fun v ps hv => ?_⟩
    rcases look_row h.at_ h.is hv with ⟨hh, _⟩ | ⟨_, y, hy, hgy, _, e⟩
    · rw [h.is.has, ha] at hh; cases hh
    · have := h.is.at_ x hx (.held (.agg zRow))
      rw [hn] at this
      rw [this] at hv
      exact rowElem_inv hv
theorem getF_add {s : List Fp} {m : Int} {v : List Dt} (h : getF s m = none) : hearF s m v = s ++ [⟨m, joinD [] v, []⟩] := by unfold hearF; rw [h]
theorem getF_turn {s : List Fp} {m : Int} {v : List Dt} {x : Fp} (h : getF s m = some x) : hearF s m v = putF s m fun y => { y with a := joinD y.a v } := by unfold hearF; rw [h]
set_option maxRecDepth 100000 in
set_option maxHeartbeats 12800000 in
theorem FHear_any (p n : Nat) (F : Nat → Prop) (s : List Fp) (es : List Fe) (w : World) (h : FrAt w p F s es n) (hn : n < 900000) (m : Int) (hm : (Lit.int .i64 m).wf = true) (A : Option Addr) (v : List Dt) (c : Nat) (hv : ∀ W, Kept F w W → DotsAt W A v) (hl : v.length ≤ 1000000) :
    Calls Try.prog 17 #[.pointer (some ⟨p, 0, none⟩), .int .i64 m, .slice A v.length c] w (fun r w' => r = .returned (.int .i64 (hearE m v)) ∧ FrPost w p F (hear s m v) (n + 1) w') := by
  have hmf : ∀ (fn : Fn) (first cap : Array Value) (w : World), (Instr.makeFunc fn first cap).run Try.prog w = .ok (.func fn first cap) w := fun _ _ _ _ => rfl
  have hka : Kept (fun _ => False) w (w.alloc (.cells #[.slice A v.length c] 31)) := (Kept.refl _ _).alloc _
  have HK0 := Lib.hid hka
  have HZ := Lib.hid (h.fresh hka)
  have HH := Lib.hid (Box.new w 31 #[.slice A v.length c])
  have HV := Lib.hid hv
  have HFL := Lib.hid h.lt
  have HW0 := Lib.hid h
  have HNO := Lib.hid (show hearE m v ≠ 0 → FrPost w p F (hear s m v) (n + 1) = FrPost w p F s (n + 1) from fun e => by unfold hear; rw [if_neg e])
  have HYES := Lib.hid (show hearE m v = 0 → FrPost w p F (hear s m v) (n + 1) = FrPost w p F (hearF s m v) (n + 1) from fun e => by unfold hear; rw [if_pos e])
  have HSTAY := Lib.hid (show ∀ W, Kept (fun _ => False) w W → FrPost w p F s (n + 1) W from fun W hk => by
    obtain ⟨F', es', n', h1, h2, h3, h4⟩ := h.stay hk
    exact ⟨F', es', n', by omega, h2, h3, h4⟩)
  clear h hka hv
  by_cases h1 : m < 1
  · as_aux_lemma =>
    have HE := Lib.hid (show hearE m v = 1 from if_neg (by omega))
    rw [HNO.out (by rw [HE.out]; decide), HE.out]
    have d1 : decide (m < 1) = true := decide_eq_true h1
    clear h1
    go_enter Try.func17, Try.ntmps17
    go_wp2_with (fail)
    go_ret
    exact ⟨rfl, HSTAY.out _ HK0.out⟩
  by_cases h2 : 16 < m
  · as_aux_lemma =>
    have HE := Lib.hid (show hearE m v = 1 from if_neg (by omega))
    rw [HNO.out (by rw [HE.out]; decide), HE.out]
    have d1 : decide (m < 1) = false := decide_eq_false h1
    have d2 : decide (16 < m) = true := decide_eq_true h2
    clear h1 h2
    go_enter Try.func17, Try.ntmps17
    go_wp2_with (fail)
    go_ret
    exact ⟨rfl, HSTAY.out _ HK0.out⟩
  have d1 : decide (m < 1) = false := decide_eq_false h1
  have d2 : decide (16 < m) = false := decide_eq_false h2
  have HM16 := Lib.hid (show 1 ≤ m ∧ m ≤ 16 by omega)
  have HE := Lib.hid (show hearE m v = checkV v from if_pos (by omega))
  rw [HE.out]
  have hck := Check_any A v c
  obtain ⟨e, hee⟩ : ∃ e, checkV v = e := ⟨_, rfl⟩
  rw [hee] at hck ⊢
  rw [hee] at HE
  clear hee
  by_cases he : e = 0
  case neg =>
    as_aux_lemma =>
    rw [HNO.out (by rw [HE.out]; exact he)]
    have hb : (e != 0) = true := by simp [he]
    have HNE := Lib.hid he
    clear he h1 h2
    go_enter Try.func17, Try.ntmps17
    go_upto_region 1 with (fail)
    generalize w.alloc (.cells #[.slice A v.length c] 31) = w0 at HK0 HZ HH ⊢
    have x0 : w0.cell? ⟨w.heap.size, 0, none⟩ = some (.slice A v.length c) := (HH.out.cell 0).trans rfl
    go_wp2_with (fail)
    refine (hck w0 (HV.out w0 (HK0.out.more fun _ _ e => e.elim)) (by omega)).mono ?_
    unfold IntPost
    rintro r w1 ⟨rfl, hk⟩
    have HK1 := Lib.hid (HK0.out.trans hk fun _ _ e => e)
    clear hk
    go_wp2_with (fail)
    go_ret
    exact ⟨rfl, HSTAY.out _ HK1.out⟩
  subst he
  rw [HYES.out HE.out]
  clear h1 h2
  go_enter Try.func17, Try.ntmps17
  go_upto_region 1 with (fail)
  generalize w.alloc (.cells #[.slice A v.length c] 31) = w0 at HK0 HZ HH ⊢
  obtain ⟨H, hH⟩ : ∃ H, w.heap.size = H := ⟨_, rfl⟩
  have HWH := Lib.hid hH
  rw [hH] at HH ⊢
  clear hH
  have x0 : w0.cell? ⟨H, 0, none⟩ = some (.slice A v.length c) := (HH.out.cell 0).trans rfl
  go_wp2_with (fail)
  refine (hck w0 (HV.out w0 (HK0.out.more fun _ _ e => e.elim)) (by omega)).mono ?_
  unfold IntPost
  rintro r w1 ⟨rfl, hk⟩
  have HK1 := Lib.hid (HK0.out.trans hk fun _ _ e => e)
  have HZ1 := Lib.hid (HZ.out.fresh hk)
  have HH1 := Lib.hid (HH.out.kept hk id)
  clear hk x0 hck HZ HH HK0
  have hmm := run_makeMap (P := Try.prog) 66 w1
  have hx : ∃ pv, w1.cell? ⟨p, 0, none⟩ = some pv ∧ ((es = [] ∧ pv = .pointer none) ∨ ∃ q b D, FrIn w1 p F s es n q b D ∧ pv = .pointer (some ⟨q, 0, none⟩)) := by
    rcases HZ1.out.box with ⟨e, hb⟩ | ⟨q, b, D, hb, hq, hFq, hFb, hmap, hD⟩
    · exact ⟨_, (hb.cell 0).trans rfl, .inl ⟨e, rfl⟩⟩
    · exact ⟨_, (hb.cell 0).trans rfl, .inr ⟨q, b, D, ⟨HZ1.out.tie, hb, hq, hmap, hD, HZ1.out.fp, hFq, hFb, HZ1.out.ats, HZ1.out.lt, HZ1.out.ok⟩, rfl⟩⟩
  obtain ⟨pv, x0, hpv⟩ := hx
  have HPV := Lib.hid hpv
  clear hpv
  obtain ⟨bb, hbb⟩ : ∃ bb : Bool, (bb = true ↔ pv = .pointer none) := by
    rcases HPV.out with ⟨_, rfl⟩ | ⟨q, b, D, _, rfl⟩
    · exact ⟨true, by simp⟩
    · exact ⟨false, by simp⟩
  have HBB := Lib.hid hbb
  clear hbb
  go_upto_region 6 with (fail)
  go_cut [27] (fun u wx => u = .bool bb ∧ wx = w1)
  case first =>
    rcases HPV.out with ⟨_, rfl⟩ | ⟨q, b, D, _, rfl⟩
    · obtain rfl : bb = true := HBB.out.2 rfl
      go_wp2_with (fail)
      go_meet
      case rel => exact ⟨rfl, rfl⟩
    · obtain rfl : bb = false := by
        cases bb with
        | false => rfl
        | true => have := HBB.out.1 rfl; cases this
      go_wp2_with (fail)
      go_meet
      case rel => exact ⟨rfl, rfl⟩
  case rest =>
  obtain ⟨rfl, hww⟩ := hcut
  rw [hww]
  clear hww
  go_upto_if 27 with (fail)
  go_cut [6] (fun u wx => u = .int .i64 0 ∧ ∃ F' q b D n', FrIn wx p F' s es n' q b D ∧ n' ≤ n ∧ (∀ k, F' k → F k ∨ H < k) ∧ Kept F w wx ∧ Box wx H 31 #[.slice A v.length c])
  case first =>
    as_aux_lemma =>
    rcases HPV.out with ⟨rfl, rfl⟩ | ⟨q, b, D, hfi, rfl⟩
    · obtain rfl : bb = true := HBB.out.2 rfl
      have hbox : Box w1 p 38 #[.pointer none] := by
        rcases HZ1.out.box with ⟨e, hb⟩ | ⟨q, b, D, hb, _⟩
        · exact hb
        · have := (hb.cell 0).symm.trans x0
          cases this
      have f0 := hbox.frozen 0
      have HBX := Lib.hid hbox
      clear hbox
      have hka : Kept (fun _ => False) w1 (w1.alloc (.map #[] 0)) := (Kept.refl _ _).alloc _
      have hkb : Kept (fun _ => False) (w1.alloc (.map #[] 0)) ((w1.alloc (.map #[] 0)).alloc (.cells #[.map (some w1.heap.size)] 70)) := (Kept.refl _ _).alloc _
      have hkab := hka.trans hkb fun _ _ e => e
      have hbp := HBX.out.kept hkab id
      have HM2 := Lib.hid (ownsMapF_kept (show (w1.alloc (.map #[] 0)).ownsMap Try.prog 3 rowElem w1.heap.size 0 (.map []) from World.ownsMap_made _ _ _ _) hkb id)
      have HQ2 := Lib.hid ((Box.new (w1.alloc (.map #[] 0)) 70 #[.map (some w1.heap.size)]).at_eq (show _ = w1.heap.size + 1 by simp))
      have HH2 := Lib.hid (HH1.out.kept hkab id)
      have HK2 := Lib.hid (HK1.out.trans hkab fun _ _ e => e)
      have HSW := Lib.hid (show H < w1.heap.size from HH1.out.lt)
      have HFP := Lib.hid HZ1.out.fp
      have xa : ((w1.alloc (.map #[] 0)).alloc (.cells #[.map (some w1.heap.size)] 70)).cell? ⟨p, 0, none⟩ = some (.pointer none) := (hbp.cell 0).trans rfl
      have fa := hbp.frozen 0
      have HBP := Lib.hid hbp
      clear hka hkb hkab hbp
      go_wp2_with (fail)
      generalize (w1.alloc (.map #[] 0)).alloc (.cells #[.map (some w1.heap.size)] 70) = w2 at HM2 HQ2 HH2 HK2 HBP ⊢
      obtain ⟨b, hb⟩ : ∃ b, w1.heap.size = b := ⟨_, rfl⟩
      rw [hb] at HM2 HQ2 HSW ⊢
      clear hb xa fa
      have hpH : p < H := by have := HFL.out p HFP.out; have := HWH.out; omega
      have hks : Kept (fun k => k = p) w2 (w2.setCell ⟨p, 0, none⟩ (.pointer (some ⟨b + 1, 0, none⟩))) := Kept.at (Kept.refl _ _) 0 _ (.inl rfl)
      have hsb := HSW.out
      have hb1 := HQ2.out.lt
      have hfi : FrIn (w2.setCell ⟨p, 0, none⟩ (.pointer (some ⟨b + 1, 0, none⟩))) p (fun k => F k ∨ k = b ∨ k = b + 1) s [] 0 (b + 1) b (.map []) :=
        ⟨HW0.out.tie, HBP.out.set 0 _, HQ2.out.kept hks (by omega), ownsMapF_kept HM2.out hks (by omega), FMapIs.nil, .inl HFP.out, .inr (.inr rfl), .inr (.inl rfl), fun x hx => absurd hx (by simp), fun k e => by
          have hsz := hks.size
          rcases e with e | e | e
          · have := HFL.out k e; have := HWH.out; omega
          · omega
          · omega, HW0.out.ok⟩
      have HFI := Lib.hid hfi
      have HKS := Lib.hid ((HK2.out.more (T := F) fun _ _ e => e.elim).trans hks fun k _ e => by rw [e]; exact HFP.out)
      have HHS := Lib.hid (HH2.out.kept hks (by omega))
      clear hfi hks
      go_meet
      case rel =>
        exact ⟨rfl, _, _, _, _, 0, HFI.out, Nat.zero_le _, fun k e => e.imp id fun e => by omega, HKS.out, HHS.out⟩
    · obtain rfl : bb = false := by
        cases bb with
        | false => rfl
        | true => have := HBB.out.1 rfl; cases this
      have HFI := Lib.hid hfi
      clear hfi
      go_wp2_with (fail)
      go_meet
      case rel => exact ⟨rfl, F, q, b, D, n, HFI.out, Nat.le_refl _, fun k e => .inl e, HK1.out.more fun _ _ e => e.elim, HH1.out⟩
  case rest =>
    as_aux_lemma =>
    obtain ⟨rfl, F', q, b, D, n', hfi, hn', hF', hkk, hbx⟩ := hcut
    obtain ⟨w3, rfl⟩ : ∃ w3 : World, w3 = wc := ⟨_, rfl⟩
    have HFI := Lib.hid hfi
    have HF2 := Lib.hid hF'
    have HK3 := Lib.hid hkk
    have HBH := Lib.hid hbx
    have x1 : w3.cell? ⟨p, 0, none⟩ = some (.pointer (some ⟨q, 0, none⟩)) := (hfi.bp.cell 0).trans rfl
    have x2 : w3.cell? ⟨q, 0, none⟩ = some (.map (some b)) := (hfi.bq.cell 0).trans rfl
    have HHS := Lib.hid (show H ≤ w3.heap.size from Nat.le_of_lt hbx.lt)
    have hlook := hfi.look m
    clear hfi hF' hkk hbx x0 hmm HPV HBB HZ1 HH1 HK1
    rcases hlook with ⟨hany, hg, hv0⟩ | ⟨hany, x, hxm, hg, hsite, hv0⟩
    · as_aux_lemma =>
      have HG := Lib.hid hg
      have HANY := Lib.hid hany
      have hby := FHear1_any none none A 0 0 c ([] : List Dt) ([] : List Dt) v H w3 DotsAt.nil (HV.out w3 HK3.out) HBH.out (by simp) hl
      have HT := Lib.hid (FTurned_any 38 #[.pointer (some ⟨H, 0, none⟩)] w3 (enters_of Try.func38 (by kernel_rfl) rfl) b n' D m hm HFI.out.map (by omega) (.agg zRow) hv0
        (fun u W => ∃ A' c', u = .agg #[.slice A' (joinD ([] : List Dt) v).length c', .slice none ([] : List Dt).length 0] ∧ W.ownsRow w3.heap.size 56 2 (.slice A' (joinD ([] : List Dt) v).length c') (joinD ([] : List Dt) v).length (dots (joinD ([] : List Dt) v)))
        (hby.mono fun r W hr => by
          obtain ⟨A', c', h1, h2, h3⟩ := hr
          exact ⟨_, h1, ⟨A', c', rfl, h2⟩, h3⟩))
      clear hby hv0 hg hany
      go_wp2_with (fail)
      refine HT.out.mono ?_
      rintro r w5 ⟨⟨u0, rfl⟩, _, w4, ⟨A', c', rfl, ho⟩, hk4, hm5, hk5⟩
      have hput := HFI.out.put (s' := hearF s m v) (es' := es ++ [⟨⟨m, joinD [] v, []⟩, A', c', none, 0⟩]) (x := ⟨⟨m, joinD ([] : List Dt) v, ([] : List Dt)⟩, A', c', none, 0⟩) hk4 hk5 hm5 (HFI.out.is.add fun y hy e => by have := List.any_eq_false.1 HANY.out y hy; simp [Fp.is, e] at this)
        (by rw [getF_add HG.out, List.map_append, HFI.out.tie]; rfl) (HFI.out.ok.hearF HM16.out v) (own_base ho (Nat.zero_le _)) (World.ownsRow_nil _ _ _ _) (fun k e => .inr (ho.lt k e).1) (fun k e => by cases e) (fun y hy => (List.mem_append.1 hy).elim .inr fun h => .inl (List.mem_singleton.1 h))
      have HP := Lib.hid hput.1
      have HKP := Lib.hid hput.2
      clear hput ho hk4 hm5 hk5 HT x1 x2
      go_wp2_with (fail)
      go_ret
      refine ⟨rfl, _, _, n' + 1, by omega, HP.out.at_, fun k e => ?_, HK3.out.trans HKP.out fun k hk e => ?_⟩
      · rcases e.1 with e | e
        · exact (HF2.out k e).imp id fun e => by have := HWH.out; omega
        · exact .inr (by have := HHS.out; have := HWH.out; omega)
      · exact (HF2.out k e).elim id fun e => by have := HWH.out; omega
    · as_aux_lemma =>
      have HXM := Lib.hid hxm
      have HG := Lib.hid hg
      have HANY := Lib.hid hany
      have hby := FHear1_any x.aA x.bA A x.aC x.bC c x.c.a x.c.b v H w3 (DotsAt.of_own (HFI.out.ats x HXM.out).a) (HV.out w3 HK3.out) HBH.out (by have := (HFI.out.ok.len x.c (by rw [← HFI.out.tie]; exact List.mem_map_of_mem HXM.out)).1; omega) hl
      have HT := Lib.hid (FTurned_any 38 #[.pointer (some ⟨H, 0, none⟩)] w3 (enters_of Try.func38 (by kernel_rfl) rfl) b n' D m hm HFI.out.map (by omega) (.agg #[x.aV, x.bV]) hv0
        (fun u W => ∃ A' c', u = .agg #[.slice A' (joinD x.c.a v).length c', .slice x.bA x.c.b.length x.bC] ∧ W.ownsRow w3.heap.size 56 2 (.slice A' (joinD x.c.a v).length c') (joinD x.c.a v).length (dots (joinD x.c.a v)))
        (hby.mono fun r W hr => by
          obtain ⟨A', c', h1, h2, h3⟩ := hr
          exact ⟨_, h1, ⟨A', c', rfl, h2⟩, h3⟩))
      clear hby hv0 hg hany hxm
      go_wp2_with (fail)
      refine HT.out.mono ?_
      rintro r w5 ⟨⟨u0, rfl⟩, _, w4, ⟨A', c', rfl, ho⟩, hk4, hm5, hk5⟩
      have hput := HFI.out.put (s' := hearF s m v) (es' := es.map fun y => if y.c.is m = true then ⟨⟨m, joinD x.c.a v, x.c.b⟩, A', c', x.bA, x.bC⟩ else y) (x := ⟨⟨m, joinD x.c.a v, x.c.b⟩, A', c', x.bA, x.bC⟩) hk4 hk5 hm5 (HFI.out.is.turn (x := ⟨⟨m, joinD x.c.a v, x.c.b⟩, A', c', x.bA, x.bC⟩) HANY.out)
        (by
          rw [getF_turn HG.out, ← HFI.out.tie]
          unfold putF
          rw [List.map_map, List.map_map]
          refine List.map_congr_left fun y hy => ?_
          show (if y.c.is m = true then (⟨⟨m, joinD x.c.a v, x.c.b⟩, A', c', x.bA, x.bC⟩ : Fe) else y).c = if y.c.is m = true then _ else y.c
          split
          · rename_i e
            have e1 := getF_uniq HFI.out.ok HG.out y.c (by rw [← HFI.out.tie]; exact List.mem_map_of_mem hy) (by simpa [Fp.is] using e)
            show (⟨m, joinD x.c.a v, x.c.b⟩ : Fp) = ⟨y.c.site, joinD y.c.a v, y.c.b⟩
            rw [e1, (getF_mem HG.out).2]
          · rfl) (HFI.out.ok.hearF HM16.out v) (own_base ho (Nat.zero_le _)) ((hk4.own (HFI.out.ats x HXM.out).b fun _ _ => id)) (fun k e => .inr (ho.lt k e).1) (fun k e => .inl ((HFI.out.ats x HXM.out).Fb k e)) (fun y hy => by
          obtain ⟨z, hz, rfl⟩ := List.mem_map.1 hy
          split
          · exact .inl rfl
          · exact .inr hz)
      have HP := Lib.hid hput.1
      have HKP := Lib.hid hput.2
      clear hput ho hk4 hm5 hk5 HT x1 x2
      go_wp2_with (fail)
      go_ret
      refine ⟨rfl, _, _, n' + 1, by omega, HP.out.at_, fun k e => ?_, HK3.out.trans HKP.out fun k hk e => ?_⟩
      · rcases e.1 with e | e
        · exact (HF2.out k e).imp id fun e => by have := HWH.out; omega
        · exact .inr (by have := HHS.out; have := HWH.out; omega)
      · exact (HF2.out k e).elim id fun e => by have := HWH.out; omega
end Go.Proofs.Ythlejmpeigfdgaa
