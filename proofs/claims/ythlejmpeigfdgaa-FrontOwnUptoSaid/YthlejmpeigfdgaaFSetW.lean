/- The walk of a Front's Settle, whole. Conditions: the Front and the list lie in memory. -/
import Derived.Test.YthlejmpeigfdgaaFSet
namespace Go.Proofs.Ythlejmpeigfdgaa
open Go Go.RowKit Go.Maps Go.Sort Go.Shelf

/-- The rows of these sites are settled. -/
def settleK (own : List Dt) (ks : List Int) (s : List Fp) : List Fp := s.map fun x => if ks.contains x.site = true then x.settled own else x
theorem settleK_nil (own : List Dt) (s : List Fp) : settleK own [] s = s := by simp [settleK]
theorem settled_twice (own : List Dt) (x : Fp) : (x.settled own).settled own = x.settled own := by
  unfold Fp.settled
  by_cases h : coversR (says own) (says x.a) = true
  · rw [if_pos h]; simp [h]
  · rw [if_neg h, if_neg h]
theorem settleK_snoc (own : List Dt) (ks : List Int) (m : Int) (s : List Fp) : settleK own (ks ++ [m]) s = (settleK own ks s).map fun x => if x.is m = true then x.settled own else x := by
  unfold settleK
  rw [List.map_map]
  refine List.map_congr_left fun x _ => ?_
  show _ = if (if ks.contains x.site = true then x.settled own else x).is m = true then _ else _
  have hs : (if ks.contains x.site = true then x.settled own else x).site = x.site := by split; exact x.settled_site own; rfl
  have hc : (ks ++ [m]).contains x.site = (ks.contains x.site || decide (x.site = m)) := by
    rw [Bool.eq_iff_iff]
    simp
  by_cases hm : x.site = m
  · have h1 : (if ks.contains x.site = true then x.settled own else x).is m = true := by unfold Fp.is; rw [hs, hm]; simp
    rw [if_pos h1, hc, decide_eq_true hm, Bool.or_true, if_pos rfl]
    show x.settled own = (if ks.contains x.site = true then x.settled own else x : Fp).settled own
    split
    · exact (settled_twice own x).symm
    · rfl
  · have h1 : ¬ (if ks.contains x.site = true then x.settled own else x).is m = true := by unfold Fp.is; rw [hs]; simp [hm]
    rw [if_neg h1, hc, decide_eq_false hm, Bool.or_false]
theorem settleK_all (own : List Dt) (ks : List Int) (s : List Fp) (h : ∀ x ∈ s, x.site ∈ ks) : settleK own ks s = s.map (Fp.settled own) := List.map_congr_left fun x hx => by rw [if_pos (by simpa using h x hx)]
theorem settleK_ok {s : List Fp} (h : FsOk s) (own : List Dt) (ks : List Int) : FsOk (settleK own ks s) :=
  h.map (fun x => by split; exact x.settled_site own; rfl) (fun x hx => by split; (unfold Fp.settled; split; exact ⟨hx.1, hx.1⟩; exact hx); exact hx)
theorem settleK_sites (own : List Dt) (ks : List Int) (s : List Fp) : (settleK own ks s).map (·.site) = s.map (·.site) := by
  unfold settleK
  rw [List.map_map]
  exact List.map_congr_left fun x _ => by show (if _ then _ else x : Fp).site = x.site; split; exact x.settled_site own; rfl
/-- A row settled, with its lists. -/
def Fe.settled (own : List Dt) (x : Fe) : Fe := if coversR (says own) (says x.c.a) = true then ⟨{ x.c with b := x.c.a }, x.aA, x.aC, x.aA, x.aC⟩ else x
theorem Fe.settled_c (own : List Dt) (x : Fe) : (x.settled own).c = x.c.settled own := by unfold Fe.settled Fp.settled; split <;> rfl
theorem Fe.settled_v (own : List Dt) (x : Fe) : (x.settled own).v = .agg #[x.aV, if coversR (says own) (says x.c.a) = true then x.aV else x.bV] := by unfold Fe.settled; split <;> rfl
set_option maxRecDepth 100000 in
set_option maxHeartbeats 12800000 in
theorem FSettle_any (p n : Nat) (F : Nat → Prop) (s : List Fp) (es : List Fe) (w : World) (h : FrAt w p F s es n) (hn : n < 900000) (A : Option Addr) (v : List Dt) (c : Nat) (hv : ∀ W, Kept F w W → DotsAt W A v) (hl : v.length ≤ 1000000) :
    Calls Try.prog 15 #[.pointer (some ⟨p, 0, none⟩), .slice A v.length c] w (fun r w' => (∃ u, r = .returned u) ∧ FrPost w p F (settle s v) (n + 17) w') := by
  have hmf : ∀ (fn : Fn) (first cap : Array Value) (w : World), (Instr.makeFunc fn first cap).run Try.prog w = .ok (.func fn first cap) w := fun _ _ _ _ => rfl
  have hka : Kept (fun _ => False) w (w.alloc (.cells #[.slice A v.length c] 31)) := (Kept.refl _ _).alloc _
  have HK0 := Lib.hid hka
  have HZ := Lib.hid (h.fresh hka)
  have HH := Lib.hid (Box.new w 31 #[.slice A v.length c])
  have HV := Lib.hid hv
  have HFL := Lib.hid h.lt
  have HSTAY := Lib.hid (show ∀ W, Kept (fun _ => False) w W → FrPost w p F s (n + 17) W from fun W hk => by
    obtain ⟨F', es', n', h1, h2, h3, h4⟩ := h.stay hk
    exact ⟨F', es', n', by omega, h2, h3, h4⟩)
  have hck := Check_any A v c
  have HSE := Lib.hid (show checkV v ≠ 0 → settle s v = s from fun e => by unfold settle; rw [if_neg e])
  have HSY := Lib.hid (show checkV v = 0 → settle s v = s.map (Fp.settled v) from fun e => by unfold settle; rw [if_pos e])
  obtain ⟨e, hee⟩ : ∃ e, checkV v = e := ⟨_, rfl⟩
  rw [hee] at HSE HSY
  simp only [hee] at hck
  obtain ⟨t, ht⟩ : ∃ t, settle s v = t := ⟨_, rfl⟩
  rw [ht] at HSE HSY ⊢
  have HT0 := Lib.hid (show es = [] → t = s from fun e => by
    rw [← ht, ← h.tie, e]
    unfold settle
    split <;> rfl)
  have hbx := (h.fresh hka).box
  have HFSITE := Lib.hid h.ok.site
  have HS0 := Lib.hid h.ok
  clear h hka hv hee ht
  go_enter Try.func15, Try.ntmps15
  go_upto_region 1 with (fail)
  generalize w.alloc (.cells #[.slice A v.length c] 31) = w0 at HK0 HZ HH hbx ⊢
  obtain ⟨H, hH⟩ : ∃ H, w.heap.size = H := ⟨_, rfl⟩
  have HWH := Lib.hid hH
  rw [hH] at HH ⊢
  clear hH
  have x0 : w0.cell? ⟨H, 0, none⟩ = some (.slice A v.length c) := (HH.out.cell 0).trans rfl
  rcases hbx with ⟨hes, hb⟩ | ⟨q, b, D, hb, hq, hFq, hFb, hmap, hD⟩
  · as_aux_lemma =>
    have hts := HT0.out hes
    have x1 : w0.cell? ⟨p, 0, none⟩ = some (.pointer none) := (hb.cell 0).trans rfl
    have HTS := Lib.hid hts
    clear hb hes hts
    go_wp2_with (fail)
    refine bodyPost_ret (results_none rfl _ _ _) rfl ?_
    exact ⟨⟨_, rfl⟩, by rw [HTS.out]; exact HSTAY.out _ HK0.out⟩
  have HFI := Lib.hid (show FrIn w0 p F s es n q b D from ⟨HZ.out.tie, hb, hq, hmap, hD, HZ.out.fp, hFq, hFb, HZ.out.ats, HZ.out.lt, HZ.out.ok⟩)
  have x1 : w0.cell? ⟨p, 0, none⟩ = some (.pointer (some ⟨q, 0, none⟩)) := (hb.cell 0).trans rfl
  clear hb hq hFq hFb hmap hD HZ HT0
  by_cases he : e = 0
  case neg =>
    as_aux_lemma =>
    have hbe : (e != 0) = true := by simp [he]
    have HTS := Lib.hid (HSE.out he)
    clear he
    go_wp2_with (fail)
    refine (hck w0 (HV.out w0 (HK0.out.more fun _ _ e => e.elim)) (by omega)).mono ?_
    unfold IntPost
    rintro r w1 ⟨rfl, hk⟩
    have HK1 := Lib.hid (HK0.out.trans hk fun _ _ e => e)
    clear hk
    go_wp2_with (fail)
    refine bodyPost_ret (results_none rfl _ _ _) rfl ?_
    exact ⟨⟨_, rfl⟩, by rw [HTS.out]; exact HSTAY.out _ HK1.out⟩
  subst he
  have HTS := Lib.hid (HSY.out rfl)
  go_wp2_with (fail)
  refine (hck w0 (HV.out w0 (HK0.out.more fun _ _ e => e.elim)) (by omega)).mono ?_
  unfold IntPost
  rintro r w1 ⟨rfl, hk⟩
  have HK1 := Lib.hid (HK0.out.trans hk fun _ _ e => e)
  have HF1 := Lib.hid (show FrIn w1 p F s es n q b D from ⟨HFI.out.tie, HFI.out.bp.kept hk id, HFI.out.bq.kept hk id, ownsMapF_kept HFI.out.map hk id, HFI.out.is, HFI.out.fp, HFI.out.fq, HFI.out.fb, fun x hx => (HFI.out.ats x hx).kept hk fun _ _ => id, fun k e => Nat.lt_of_lt_of_le (HFI.out.lt k e) hk.size, HFI.out.ok⟩)
  have HH1 := Lib.hid (HH.out.kept hk id)
  have y1 : w1.cell? ⟨p, 0, none⟩ = some (.pointer (some ⟨q, 0, none⟩)) := (HF1.out.bp.cell 0).trans rfl
  have y2 : w1.cell? ⟨q, 0, none⟩ = some (.map (some b)) := (HF1.out.bq.cell 0).trans rfl
  clear hk x0 x1 hck HFI HH HK0 HSE HSY
  go_wp2_with (fail)
  refine (Keys_any (some b) w1).mono ?_
  rintro r w2 ⟨rfl, e2⟩
  have hso := Sorted_any b n D rowElem w1 HF1.out.map (by have := HF1.out.map.size_le; unfold maxLen; omega) (by have := HF1.out.map.size_le; omega)
  have hwk : Kept (fun _ => False) w1 w2 := by rw [e2]; exact (Kept.refl _ _).alloc _
  rw [← e2] at hso
  have HSO := Lib.hid hso
  have HWK := Lib.hid hwk
  clear e2 hso hwk
  go_wp2_with (fail)
  refine HSO.out.mono ?_
  rintro r w3 ⟨kv, ss, rfl, hperm, hrow, -, hbel⟩
  obtain ⟨ks, hks⟩ : ∃ ks, (ss.mergeSort fun x y => decide (x ≤ y)) = ks := ⟨_, rfl⟩
  have hkp := keys_sites HF1.out hperm
  rw [hks] at hrow hkp
  have hkl : ks.length = ss.length := by rw [← hks, (List.mergeSort_perm _ _).length_eq]
  have hk3 : Kept (fun _ => False) w2 w3 := Kept.of_below hbel fun k h1 h2 => by omega
  have hk13 := HWK.out.trans hk3 fun _ _ e => e
  have HF3 := Lib.hid (show FrIn w3 p F s es n q b D from ⟨HF1.out.tie, HF1.out.bp.kept hk13 id, HF1.out.bq.kept hk13 id, ownsMapF_kept HF1.out.map hk13 id, HF1.out.is, HF1.out.fp, HF1.out.fq, HF1.out.fb, fun x hx => (HF1.out.ats x hx).kept hk13 fun _ _ => id, fun k e => Nat.lt_of_lt_of_le (HF1.out.lt k e) hk13.size, HF1.out.ok⟩)
  have HH3 := Lib.hid (HH1.out.kept hk13 id)
  have HK3 := Lib.hid (HK1.out.trans hk13 fun _ _ e => e)
  have hsl : ks.length ≤ 17 := by have := hkp.length_eq; rw [List.length_map] at this; have := HF1.out.ok.count; omega
  rw [← hkl] at hrow
  obtain ⟨KA, kc, rfl⟩ := own_shape hrow
  have HROW := Lib.hid hrow
  have HKP := Lib.hid hkp
  have HWS := Lib.hid (show H < w2.heap.size from Nat.lt_of_lt_of_le HH1.out.lt HWK.out.size)
  clear hperm hrow hbel hks hkp hkl hk3 hk13 HSO HF1 HH1 HK1 HWK y1 y2
  obtain ⟨T, hT⟩ : ∃ T, w3.heap.size = T := ⟨_, rfl⟩
  have HTT := Lib.hid hT
  clear hT
  have HROWT := Lib.hid (show ∀ k, (Value.slice KA ks.length kc).ownBlock = some k → H < k ∧ k < T from fun k e => by have := HROW.out.lt k e; have := HWS.out; have := HTT.out; omega)
  obtain ⟨kb, hkb⟩ : ∃ kb, w2.heap.size = kb := ⟨_, rfl⟩
  rw [hkb] at HROW
  clear hkb
  go_wp2_with (fail)
  go_loopw [30] (fun i wr => ∃ (k : Nat) (F' : Nat → Prop) (es' : List Fe) (n' : Nat) (D' : DataW Value), i = .int .i64 k ∧ k ≤ ks.length ∧ n' ≤ n + k ∧ FrIn wr p F' (settleK v (ks.take k) s) es' n' q b D' ∧ (∀ j, F' j → F j ∨ T ≤ j) ∧ Kept F w3 wr) (fun i _ => ks.length - (intOf i).toNat)
  case atStart => exact ⟨0, F, es, n, D, rfl, Nat.zero_le _, Nat.le_refl _, by rw [List.take_zero, settleK_nil]; exact HF3.out, fun j e => .inl e, Kept.refl _ _⟩
  case round =>
    obtain ⟨k, F', es', n', D', rfl, hk, hn', hfi, hF', hkk⟩ := hrel
    have HFI := Lib.hid hfi
    have HF2 := Lib.hid hF'
    have HKK := Lib.hid hkk
    have hnoT : ∀ j, F j → j < H := fun j e => by have := HFL.out j e; have := HWH.out; omega
    have HHR := Lib.hid (HH3.out.kept hkk fun e => by have := hnoT H e; omega)
    have HROWR := Lib.hid (hkk.own HROW.out fun j e e2 => by have := hnoT j e2; have := (HROWT.out j e).1; omega)
    clear hfi hF' hkk HF3
    by_cases hlt : k < ks.length
    · as_aux_lemma =>
      obtain ⟨gk, e1, -, hcell, -⟩ := own_cells HROWR.out (by omega)
      subst e1
      obtain ⟨m, hm⟩ : ∃ m, ks[k] = m := ⟨_, rfl⟩
      have x0 : wr.cell? ⟨gk, k, none⟩ = some (.int .i64 m) := hcell k _ (by rw [← hm]; simp [encZ, hlt])
      have x1 : wr.cell? ⟨p, 0, none⟩ = some (.pointer (some ⟨q, 0, none⟩)) := (HFI.out.bp.cell 0).trans rfl
      have x2 : wr.cell? ⟨q, 0, none⟩ = some (.map (some b)) := (HFI.out.bq.cell 0).trans rfl
      have hms : m ∈ s.map (·.site) := HKP.out.mem_iff.1 (by rw [← hm]; exact List.getElem_mem hlt)
      have hm16 : 1 ≤ m ∧ m ≤ 16 := by
        obtain ⟨y, hy, rfl⟩ := List.mem_map.1 hms
        exact HFSITE.out y hy
      have hwf : (Lit.int .i64 m).wf = true := by
        simp only [Lit.wf, Bool.and_eq_true, decide_eq_true_eq]
        exact ⟨by show (-9223372036854775808 : Int) ≤ m; omega, by show m ≤ 9223372036854775807; omega⟩
      have hms' : m ∈ (settleK v (ks.take k) s).map (·.site) := by rw [settleK_sites]; exact hms
      rcases HFI.out.look m with ⟨hany, hg, -⟩ | ⟨hany, x, hxm, hg, hsite, hv0⟩
      · obtain ⟨y, hy, hys⟩ := List.mem_map.1 hms'
        exact absurd hys (getF_none hg y hy)
      have HXM := Lib.hid hxm
      have HG := Lib.hid hg
      have HANY := Lib.hid hany
      have hal : x.c.a.length ≤ 17 := (HFI.out.ok.len x.c (by rw [← HFI.out.tie]; exact List.mem_map_of_mem hxm)).1
      have hby := FSettle1_any x.aA x.bA A x.aC x.bC c x.c.a x.c.b v H wr (DotsAt.of_own (HFI.out.ats x hxm).a) (HV.out wr ((HK3.out.more fun _ _ e => e.elim).trans HKK.out fun _ _ e => e)) HHR.out (by omega) hl
      have hxv : Value.agg #[x.aV, if coversR (says v) (says x.c.a) = true then x.aV else x.bV] = (x.settled v).v := (x.settled_v v).symm
      have HT := Lib.hid (FTurned_any 34 #[.pointer (some ⟨H, 0, none⟩)] wr (enters_of Try.func34 (by kernel_rfl) rfl) b n' D' m hwf HFI.out.map (by omega) (.agg #[x.aV, x.bV]) hv0
        (fun u _ => u = (x.settled v).v)
        (hby.mono fun r W hr => ⟨_, hr.1, hxv, hr.2⟩))
      have hi0 : (0 : Int) ≤ (k : Int) := by omega
      have hin : (k : Int) < (ks.length : Int) := by omega
      have HNX := Lib.hid (show settleK v (ks.take (k + 1)) s = (settleK v (ks.take k) s).map fun y => if y.is m = true then y.settled v else y by rw [List.take_succ_eq_append_getElem hlt, hm]; exact settleK_snoc v _ m s)
      clear hby hv0 hg hany hcell hms hms' hm hxv
      go_wp2_with (fail)
      refine HT.out.mono ?_
      rintro r w5 ⟨⟨u0, rfl⟩, _, w4, rfl, hk4, hm5, hk5⟩
      have hxs : (x.settled v).c.site = m := by rw [Fe.settled_c, Fp.settled_site]; exact hsite
      have hat := (HFI.out.ats x HXM.out).kept hk4 fun _ _ => id
      have hput := HFI.out.put (s' := settleK v (ks.take (k + 1)) s) (es' := es'.map fun y => if y.c.is m = true then x.settled v else y) (x := x.settled v) hk4 hk5 (by rw [hxs]; exact hm5)
        (by have := HFI.out.is.turn (x := x.settled v) (by rw [hxs]; exact HANY.out); rwa [hxs] at this ⊢)
        (by
          rw [HNX.out, ← HFI.out.tie, List.map_map, List.map_map]
          refine List.map_congr_left fun y hy => ?_
          show (if y.c.is m = true then x.settled v else y).c = if y.c.is m = true then y.c.settled v else y.c
          split
          · rename_i e
            rw [Fe.settled_c, getF_uniq HFI.out.ok HG.out y.c (by rw [← HFI.out.tie]; exact List.mem_map_of_mem hy) (by simpa [Fp.is] using e)]
          · rfl)
        (settleK_ok HS0.out v _)
        (by unfold Fe.settled; split; exact hat.a; exact hat.a) (by unfold Fe.settled; split; exact hat.a; exact hat.b)
        (by unfold Fe.settled; split; exact fun k e => .inl (hat.Fa k e); exact fun k e => .inl (hat.Fa k e)) (by unfold Fe.settled; split; exact fun k e => .inl (hat.Fa k e); exact fun k e => .inl (hat.Fb k e))
        (fun y hy => by
          obtain ⟨z, hz, rfl⟩ := List.mem_map.1 hy
          split
          · exact .inl rfl
          · exact .inr hz)
      have HP := Lib.hid hput.1
      have HKP2 := Lib.hid hput.2
      have HSZ := Lib.hid (show T ≤ wr.heap.size by have := HTT.out; have := HKK.out.size; omega)
      clear hput hk4 hm5 hk5 HT x0 x1 x2 hat
      go_wp2_with (fail)
      go_roundw
      case rel =>
        refine ⟨k + 1, _, _, n' + 1, _, by go_num, by omega, by omega, HP.out, fun j e => ?_, HKK.out.trans HKP2.out fun j hj e => ?_⟩
        · rcases e.1 with e | e
          · exact HF2.out j e
          · exact .inr (by have := HSZ.out; omega)
        · exact (HF2.out j e).elim id fun e => by have := HTT.out; omega
      case measure => simp [intOf]; omega
    · obtain rfl : k = ks.length := by omega
      have HALL := Lib.hid (show settleK v (ks.take ks.length) s = t by
        rw [List.take_length, HTS.out]
        exact settleK_all v ks s fun y hy => HKP.out.mem_iff.2 (List.mem_map_of_mem hy))
      go_wp2_with (fail)
      go_end0
      refine ⟨⟨_, rfl⟩, F', es', n', by omega, by have := HFI.out.at_; rwa [HALL.out] at this, fun j e => (HF2.out j e).imp id fun e => ?_, (HK3.out.more fun _ _ e => e.elim).trans HKK.out fun _ _ e => e⟩
      have := HTT.out
      have := HK3.out.size
      omega
end Go.Proofs.Ythlejmpeigfdgaa
