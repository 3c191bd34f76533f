/- The walk of the law VectorTells: it returns true, whatever the two lists, the site and the Dot. Conditions: the Dots lie in memory as DotsAt says. -/
import Derived.Test.YtlefbnnlcacheaaVAdds
namespace Go.Proofs.Ytlefbnnlcacheaa
open Go.RowKit

/-- Lists and a Dot's block. -/
def HaveD (L : List (Option Addr × List Dt)) (d : Dt) (w0 w : World) : Prop := Have L w0 w ∧ Box w w0.heap.size 25 (dotV d)
section
variable {L : List (Option Addr × List Dt)} {d : Dt} {w0 w w' : World} {A : Option Addr} {l : List Dt}
theorem HaveD.fresh (h : HaveD L d w0 w) (hk : Kept (fun _ => False) w w') : HaveD L d w0 w' := ⟨h.1.fresh hk, h.2.kept hk id⟩
theorem HaveD.drew (h : HaveD L d w0 w) : HaveD L d w0 w.drew := h.fresh (Kept.refl _ _).drew
theorem HaveD.add (h : HaveD L d w0 w) (hd : DotsAt w A l) : HaveD ((A, l) :: L) d w0 w := ⟨h.1.add hd, h.2⟩
theorem HaveD.nth (h : HaveD L d w0 w) (i : Nat) (hi : L[i]? = some (A, l)) : DotsAt w A l := h.1.nth i hi
theorem HaveD.cells (h : HaveD L d w0 w) : w.cell? ⟨w0.heap.size, 0, none⟩ = some (.int .i64 d.site) ∧ w.cell? ⟨w0.heap.size, 1, none⟩ = some (.int .i64 d.seq) :=
  ⟨by simpa [dotV] using h.2.cell 0, by simpa [dotV] using h.2.cell 1⟩
theorem HaveD.S (h : HaveD L d w0 w) : w.cell? ⟨w0.heap.size, 0, none⟩ = some (.int .i64 d.site) ∧ w.cell? ⟨w0.heap.size, 1, none⟩ = some (.int .i64 d.seq) ∧ Hid (HaveD L d w0 w) := ⟨h.cells.1, h.cells.2, Lib.hid h⟩
theorem HaveD.ofS (h : w.cell? ⟨w0.heap.size, 0, none⟩ = some (.int .i64 d.site) ∧ w.cell? ⟨w0.heap.size, 1, none⟩ = some (.int .i64 d.seq) ∧ Hid (HaveD L d w0 w)) : HaveD L d w0 w := h.2.2.out
end
theorem RoomPost.at {w w' : World} {l : List Dt} {e : Ending} (h : RoomPost w l e w') : ∃ A c, e = .returned (.slice A l.length c) ∧ DotsAt w' A l ∧ DotsAt w' A (l ++ [mark]) ∧ l.length + 1 ≤ c ∧ Kept (fun _ => False) w w' := by
  obtain ⟨A, c, he, ho, hk⟩ := h
  have hd : DotsAt w' A (l ++ [mark]) := by
    have := DotsAt.of_own (l := l ++ [mark]) (n := (l ++ [mark]).length) (by rw [List.length_append]; exact ho)
    exact this
  refine ⟨A, c, he, fun k hk => ?_, hd, (own_cap ho).1, hk⟩
  obtain ⟨ad, e, x0, x1⟩ := hd k (by simp; omega)
  rw [List.getElem_append_left hk] at x0 x1
  exact ⟨ad, e, x0, x1⟩
theorem AddPost.at {w w' : World} {l : List Dt} {n : Int} {e : Ending} (h : AddPost w l n e w') : ∃ A c, e = .returned (.tuple #[.slice A l.length c, .int .i64 n]) ∧ DotsAt w' A l ∧ Kept (fun _ => False) w w' := by
  obtain ⟨A, c, he, ho, hk⟩ := h
  exact ⟨A, c, he, DotsAt.of_own ho, hk⟩

set_option maxRecDepth 100000 in
set_option maxHeartbeats 12800000 in
theorem Tells_walk (A B : Option Addr) (la lb : List Dt) (cA cB : Nat) (site : Int) (d : Dt) (w : World) (hA : DotsAt w A la) (hB : DotsAt w B lb) (nA : A = none → cA = 0) (nB : B = none → cB = 0) :
    Calls Try.prog 3 #[.slice A la.length cA, .slice B lb.length cB, .int .i64 site, .agg #[.int .i64 d.site, .int .i64 d.seq]] w (KnownEnd w) := by
  have hwide : 4000 < la.length ∨ (la.length ≤ 4000 ∧ 4000 < lb.length) ∨ (la.length ≤ 4000 ∧ lb.length ≤ 4000) := by omega
  obtain ⟨dsite, dseq⟩ := d
  rcases hwide with h1 | ⟨h1, h2⟩ | ⟨h1, h2⟩
  · go_enter Try.func3, Try.ntmps3
    go_wp2_with (fail)
    refine (known_any _).mono ?_
    rintro e w1 ⟨rfl, hk⟩
    have HK := Lib.hid (((Kept.refl (fun _ => False) w).alloc _).trans hk fun _ _ e => e)
    clear hk
    go_wp2
    go_ret
    exact ⟨rfl, HK.out⟩
  · go_enter Try.func3, Try.ntmps3
    go_wp2_with (fail)
    refine (known_any _).mono ?_
    rintro e w1 ⟨rfl, hk⟩
    have HK := Lib.hid (((Kept.refl (fun _ => False) w).alloc _).trans hk fun _ _ e => e)
    clear hk
    go_wp2
    go_ret
    exact ⟨rfl, HK.out⟩
  · have lA : la.length ≤ 4611686018427387904 := by omega
    have lB : lb.length ≤ 4611686018427387904 := by omega
    have HNA := Lib.hid nA
    have HNB := Lib.hid nB
    have HZ := Lib.hid (show HaveD [(A, la), (B, lb)] ⟨dsite, dseq⟩ w (w.alloc (.cells #[.int .i64 dsite, .int .i64 dseq] 25)) from by
      have hk := (Kept.refl (fun _ => False) w).alloc (.cells #[.int .i64 dsite, .int .i64 dseq] 25)
      refine ⟨⟨fun p hp => ?_, hk⟩, Box.new w _ _⟩
      simp only [List.mem_cons, List.not_mem_nil, or_false] at hp
      rcases hp with rfl | rfl
      · exact hA.fresh hk
      · exact hB.fresh hk)
    clear hA hB nA nB
    obtain ⟨cv, hcv⟩ : ∃ v, checkV la = v := ⟨_, rfl⟩
    have CV := Lib.hid hcv
    clear hcv
    obtain ⟨gv, hgv⟩ : ∃ v, getV la site = v := ⟨_, rfl⟩
    have GV := Lib.hid hgv
    clear hgv
    obtain ⟨bv, hbv⟩ : ∃ v, hasV la ⟨dsite, dseq⟩ = v := ⟨_, rfl⟩
    have BV := Lib.hid hbv
    clear hbv
    obtain ⟨sv, hsv⟩ : ∃ v, sumR (says la) 17 = v := ⟨_, rfl⟩
    have SV := Lib.hid hsv
    clear hsv
    obtain ⟨ev, hev⟩ : ∃ v, addE la ⟨dsite, dseq⟩ = v := ⟨_, rfl⟩
    have EV := Lib.hid hev
    clear hev
    obtain ⟨xv, hxv⟩ : ∃ v, coversR (says la) (says lb) = v := ⟨_, rfl⟩
    have XV := Lib.hid hxv
    clear hxv
    obtain ⟨yv, hyv⟩ : ∃ v, coversR (says lb) (says la) = v := ⟨_, rfl⟩
    have YV := Lib.hid hyv
    clear hyv
    have LV := Lib.hid (show (addV la ⟨dsite, dseq⟩).length ≤ 4611686018427387904 from by
      unfold addV
      split
      · exact Nat.le_trans (vecTo_len _ 17) (by decide)
      · decide)
    generalize hrv : addV la ⟨dsite, dseq⟩ = rv at LV
    have RV := Lib.hid hrv
    clear hrv
    have MV := Lib.hid (show (vec (maxR (says la) (says lb))).length ≤ 4611686018427387904 from Nat.le_trans (vecTo_len _ 17) (by decide))
    have NV := Lib.hid (show (vec (minR (says la) (says lb))).length ≤ 4611686018427387904 from Nat.le_trans (vecTo_len _ 17) (by decide))
    go_enter Try.func3, Try.ntmps3
    go_wp2_with (fail)
    refine (room_any A la cA _ (HZ.out.nth 0 rfl) HNA.out (by omega)).mono ?_
    rintro e w1 hf
    obtain ⟨X, cX, rfl, hd1, hd2, hXc, hk⟩ := hf.at
    clear hf
    have HZ' := Lib.hid (show HaveD [(X, la ++ [mark]), (X, la), (A, la), (B, lb)] ⟨dsite, dseq⟩ w w1 from ((HZ.out.fresh hk).add hd1).add hd2)
    clear hk HZ hd1 hd2
    have HZ := HZ'
    clear HZ'
    go_wp2_with (fail)
    refine (room_any B lb cB _ (HZ.out.nth 3 rfl) HNB.out (by omega)).mono ?_
    rintro e w2 hf
    obtain ⟨Y, cY, rfl, hd1, hd2, hYc, hk⟩ := hf.at
    clear hf
    have HZ' := Lib.hid (show HaveD [(Y, lb ++ [mark]), (Y, lb), (X, la ++ [mark]), (X, la), (A, la), (B, lb)] ⟨dsite, dseq⟩ w w2 from ((HZ.out.fresh hk).add hd1).add hd2)
    clear hk HZ hd1 hd2
    have HZ := HZ'
    clear HZ'
    obtain ⟨x0, x1⟩ := HZ.out.cells
    simp only at x0 x1
    go_wp2_with (fail)
    refine (Add_any X la _ ⟨dsite, dseq⟩ _ (HZ.out.nth 3 rfl) lA).mono ?_
    rw [RV.out, EV.out]
    rintro e w3 hf
    obtain ⟨C, cC, rfl, hd1, hk⟩ := hf.at
    clear hf
    clear x0 x1
    have HZ' := Lib.hid (show HaveD [(C, rv), (Y, lb ++ [mark]), (Y, lb), (X, la ++ [mark]), (X, la), (A, la), (B, lb)] ⟨dsite, dseq⟩ w w3 from (HZ.out.fresh hk).add hd1)
    clear hk HZ hd1
    have HZ := HZ'
    clear HZ'
    obtain ⟨x0, x1⟩ := HZ.out.cells
    simp only at x0 x1
    go_wp2_with (fail)
    refine (RAdd_any A la _ ⟨dsite, dseq⟩ _ (HZ.out.nth 5 rfl) lA).mono ?_
    rw [RV.out, EV.out]
    rintro e w4 hf
    obtain ⟨V, cV, rfl, hd1, hk⟩ := hf.at
    clear hf
    clear x0 x1
    have HZ' := Lib.hid (show HaveD [(V, rv), (C, rv), (Y, lb ++ [mark]), (Y, lb), (X, la ++ [mark]), (X, la), (A, la), (B, lb)] ⟨dsite, dseq⟩ w w4 from (HZ.out.fresh hk).add hd1)
    clear hk HZ hd1
    have HZ := HZ'
    clear HZ'
    obtain ⟨x0, x1⟩ := HZ.out.cells
    simp only at x0 x1
    go_wp2_with (fail)
    go_region_held3 (fun w' => w'.cell? ⟨w.heap.size, 0, none⟩ = some (.int .i64 dsite) ∧ w'.cell? ⟨w.heap.size, 1, none⟩ = some (.int .i64 dseq) ∧ Hid (HaveD [(V, rv), (C, rv), (Y, lb ++ [mark]), (Y, lb), (X, la ++ [mark]), (X, la), (A, la), (B, lb)] ⟨dsite, dseq⟩ w w'))
      (first | exact HaveD.S (Hid.out (by assumption)) | exact HaveD.S (HaveD.drew (Hid.out (by assumption))))
      (first
        | (go_at_call 13; (with_reducible refine (Check_any X la cX _ ?_ lA).mono ?_); (exact HaveD.nth (HaveD.ofS (L := [(V, rv), (C, rv), (Y, lb ++ [mark]), (Y, lb), (X, la ++ [mark]), (X, la), (A, la), (B, lb)]) (d := ⟨dsite, dseq⟩) (w0 := w) (by assumption)) 5 rfl); rw [CV.out]; rintro e w5 ⟨rfl, hk⟩; have HZ1 := Lib.hid (HaveD.fresh (HaveD.ofS (L := [(V, rv), (C, rv), (Y, lb ++ [mark]), (Y, lb), (X, la ++ [mark]), (X, la), (A, la), (B, lb)]) (d := ⟨dsite, dseq⟩) (w0 := w) (by assumption)) hk); clear hk)
        | (go_at_call 14; (with_reducible refine (RCheck_any A la cA _ ?_ lA).mono ?_); (exact HaveD.nth (HaveD.ofS (L := [(V, rv), (C, rv), (Y, lb ++ [mark]), (Y, lb), (X, la ++ [mark]), (X, la), (A, la), (B, lb)]) (d := ⟨dsite, dseq⟩) (w0 := w) (by assumption)) 6 rfl); rw [CV.out]; rintro e w6 ⟨rfl, hk⟩; have HZ1 := Lib.hid (HaveD.fresh (HaveD.ofS (L := [(V, rv), (C, rv), (Y, lb ++ [mark]), (Y, lb), (X, la ++ [mark]), (X, la), (A, la), (B, lb)]) (d := ⟨dsite, dseq⟩) (w0 := w) (by assumption)) hk); clear hk)
        | (go_at_call 15; (with_reducible refine (Get_any X la cX site _ ?_ lA).mono ?_); (exact HaveD.nth (HaveD.ofS (L := [(V, rv), (C, rv), (Y, lb ++ [mark]), (Y, lb), (X, la ++ [mark]), (X, la), (A, la), (B, lb)]) (d := ⟨dsite, dseq⟩) (w0 := w) (by assumption)) 5 rfl); rw [GV.out]; rintro e w7 ⟨rfl, hk⟩; have HZ1 := Lib.hid (HaveD.fresh (HaveD.ofS (L := [(V, rv), (C, rv), (Y, lb ++ [mark]), (Y, lb), (X, la ++ [mark]), (X, la), (A, la), (B, lb)]) (d := ⟨dsite, dseq⟩) (w0 := w) (by assumption)) hk); clear hk)
        | (go_at_call 16; (with_reducible refine (RGet_any A la cA site _ ?_ lA).mono ?_); (exact HaveD.nth (HaveD.ofS (L := [(V, rv), (C, rv), (Y, lb ++ [mark]), (Y, lb), (X, la ++ [mark]), (X, la), (A, la), (B, lb)]) (d := ⟨dsite, dseq⟩) (w0 := w) (by assumption)) 6 rfl); rw [GV.out]; rintro e w8 ⟨rfl, hk⟩; have HZ1 := Lib.hid (HaveD.fresh (HaveD.ofS (L := [(V, rv), (C, rv), (Y, lb ++ [mark]), (Y, lb), (X, la ++ [mark]), (X, la), (A, la), (B, lb)]) (d := ⟨dsite, dseq⟩) (w0 := w) (by assumption)) hk); clear hk)
        | (go_at_call 17; (with_reducible refine (Has_any X la cX ⟨dsite, dseq⟩ _ ?_ lA).mono ?_); (exact HaveD.nth (HaveD.ofS (L := [(V, rv), (C, rv), (Y, lb ++ [mark]), (Y, lb), (X, la ++ [mark]), (X, la), (A, la), (B, lb)]) (d := ⟨dsite, dseq⟩) (w0 := w) (by assumption)) 5 rfl); rw [BV.out]; rintro e w9 ⟨rfl, hk⟩; have HZ1 := Lib.hid (HaveD.fresh (HaveD.ofS (L := [(V, rv), (C, rv), (Y, lb ++ [mark]), (Y, lb), (X, la ++ [mark]), (X, la), (A, la), (B, lb)]) (d := ⟨dsite, dseq⟩) (w0 := w) (by assumption)) hk); clear hk)
        | (go_at_call 18; (with_reducible refine (RHas_any A la cA ⟨dsite, dseq⟩ _ ?_ lA).mono ?_); (exact HaveD.nth (HaveD.ofS (L := [(V, rv), (C, rv), (Y, lb ++ [mark]), (Y, lb), (X, la ++ [mark]), (X, la), (A, la), (B, lb)]) (d := ⟨dsite, dseq⟩) (w0 := w) (by assumption)) 6 rfl); rw [BV.out]; rintro e w10 ⟨rfl, hk⟩; have HZ1 := Lib.hid (HaveD.fresh (HaveD.ofS (L := [(V, rv), (C, rv), (Y, lb ++ [mark]), (Y, lb), (X, la ++ [mark]), (X, la), (A, la), (B, lb)]) (d := ⟨dsite, dseq⟩) (w0 := w) (by assumption)) hk); clear hk)
        | (go_at_call 19; (with_reducible refine (Sum_any X la cX _ ?_ lA).mono ?_); (exact HaveD.nth (HaveD.ofS (L := [(V, rv), (C, rv), (Y, lb ++ [mark]), (Y, lb), (X, la ++ [mark]), (X, la), (A, la), (B, lb)]) (d := ⟨dsite, dseq⟩) (w0 := w) (by assumption)) 5 rfl); rw [SV.out]; rintro e w11 ⟨rfl, hk⟩; have HZ1 := Lib.hid (HaveD.fresh (HaveD.ofS (L := [(V, rv), (C, rv), (Y, lb ++ [mark]), (Y, lb), (X, la ++ [mark]), (X, la), (A, la), (B, lb)]) (d := ⟨dsite, dseq⟩) (w0 := w) (by assumption)) hk); clear hk)
        | (go_at_call 20; (with_reducible refine (RSum_any A la cA _ ?_ lA).mono ?_); (exact HaveD.nth (HaveD.ofS (L := [(V, rv), (C, rv), (Y, lb ++ [mark]), (Y, lb), (X, la ++ [mark]), (X, la), (A, la), (B, lb)]) (d := ⟨dsite, dseq⟩) (w0 := w) (by assumption)) 6 rfl); rw [SV.out]; rintro e w12 ⟨rfl, hk⟩; have HZ1 := Lib.hid (HaveD.fresh (HaveD.ofS (L := [(V, rv), (C, rv), (Y, lb ++ [mark]), (Y, lb), (X, la ++ [mark]), (X, la), (A, la), (B, lb)]) (d := ⟨dsite, dseq⟩) (w0 := w) (by assumption)) hk); clear hk)
        | (go_at_call 21; (with_reducible refine (Same_any C V rv rv cC cV _ ?_ ?_ LV.out).mono ?_); (exact HaveD.nth (HaveD.ofS (L := [(V, rv), (C, rv), (Y, lb ++ [mark]), (Y, lb), (X, la ++ [mark]), (X, la), (A, la), (B, lb)]) (d := ⟨dsite, dseq⟩) (w0 := w) (by assumption)) 1 rfl); (exact HaveD.nth (HaveD.ofS (L := [(V, rv), (C, rv), (Y, lb ++ [mark]), (Y, lb), (X, la ++ [mark]), (X, la), (A, la), (B, lb)]) (d := ⟨dsite, dseq⟩) (w0 := w) (by assumption)) 0 rfl); rw [decide_eq_true rfl]; rintro e w13 ⟨rfl, hk⟩; have HZ1 := Lib.hid (HaveD.fresh (HaveD.ofS (L := [(V, rv), (C, rv), (Y, lb ++ [mark]), (Y, lb), (X, la ++ [mark]), (X, la), (A, la), (B, lb)]) (d := ⟨dsite, dseq⟩) (w0 := w) (by assumption)) hk); clear hk))
    have HY := Lib.hid (HaveD.ofS (L := [(V, rv), (C, rv), (Y, lb ++ [mark]), (Y, lb), (X, la ++ [mark]), (X, la), (A, la), (B, lb)]) (d := ⟨dsite, dseq⟩) (w0 := w) (by assumption))
    clear HZ x0 x1
    have HZ := HY
    clear HY
    as_aux_lemma =>
      clear HNA HNB
      go_wp2_with (fail)
      refine (Covers_any X Y la lb cX cY _ (HZ.out.nth 5 rfl) (HZ.out.nth 3 rfl) lA lB).mono ?_
      rw [XV.out]
      rintro e w14 ⟨rfl, hk⟩
      have HZ' := Lib.hid (show HaveD [(V, rv), (C, rv), (Y, lb ++ [mark]), (Y, lb), (X, la ++ [mark]), (X, la), (A, la), (B, lb)] ⟨dsite, dseq⟩ w w14 from HZ.out.fresh hk)
      clear hk HZ
      have HZ := HZ'
      clear HZ'
      go_wp2_with (fail)
      refine (RCovers_any A B la lb cA cB _ (HZ.out.nth 6 rfl) (HZ.out.nth 7 rfl) lA lB).mono ?_
      rw [XV.out]
      rintro e w15 ⟨rfl, hk⟩
      have HZ' := Lib.hid (show HaveD [(V, rv), (C, rv), (Y, lb ++ [mark]), (Y, lb), (X, la ++ [mark]), (X, la), (A, la), (B, lb)] ⟨dsite, dseq⟩ w w15 from HZ.out.fresh hk)
      clear hk HZ
      have HZ := HZ'
      clear HZ'
      go_wp2_with (fail)
      refine (Covers_any Y X lb la cY cX _ (HZ.out.nth 3 rfl) (HZ.out.nth 5 rfl) lB lA).mono ?_
      rw [YV.out]
      rintro e w16 ⟨rfl, hk⟩
      have HZ' := Lib.hid (show HaveD [(V, rv), (C, rv), (Y, lb ++ [mark]), (Y, lb), (X, la ++ [mark]), (X, la), (A, la), (B, lb)] ⟨dsite, dseq⟩ w w16 from HZ.out.fresh hk)
      clear hk HZ
      have HZ := HZ'
      clear HZ'
      go_wp2_with (fail)
      refine (RCovers_any B A lb la cB cA _ (HZ.out.nth 7 rfl) (HZ.out.nth 6 rfl) lB lA).mono ?_
      rw [YV.out]
      rintro e w17 ⟨rfl, hk⟩
      have HZ' := Lib.hid (show HaveD [(V, rv), (C, rv), (Y, lb ++ [mark]), (Y, lb), (X, la ++ [mark]), (X, la), (A, la), (B, lb)] ⟨dsite, dseq⟩ w w17 from HZ.out.fresh hk)
      clear hk HZ
      have HZ := HZ'
      clear HZ'
      go_wp2_with (fail)
      refine (Merge_any X Y la lb cX cY _ (HZ.out.nth 5 rfl) (HZ.out.nth 3 rfl) lA lB).mono ?_
      rintro e w18 hf
      obtain ⟨M1, cM1, rfl, hd1, hk⟩ := hf.at
      clear hf
      have HZ' := Lib.hid (show HaveD [(M1, vec (maxR (says la) (says lb))), (V, rv), (C, rv), (Y, lb ++ [mark]), (Y, lb), (X, la ++ [mark]), (X, la), (A, la), (B, lb)] ⟨dsite, dseq⟩ w w18 from (HZ.out.fresh hk).add hd1)
      clear hk HZ hd1
      have HZ := HZ'
      clear HZ'
      go_wp2_with (fail)
      refine (RMerge_any A B la lb cA cB _ (HZ.out.nth 7 rfl) (HZ.out.nth 8 rfl) lA lB).mono ?_
      rintro e w19 hf
      obtain ⟨M2, cM2, rfl, hd1, hk⟩ := hf.at
      clear hf
      have HZ' := Lib.hid (show HaveD [(M2, vec (maxR (says la) (says lb))), (M1, vec (maxR (says la) (says lb))), (V, rv), (C, rv), (Y, lb ++ [mark]), (Y, lb), (X, la ++ [mark]), (X, la), (A, la), (B, lb)] ⟨dsite, dseq⟩ w w19 from (HZ.out.fresh hk).add hd1)
      clear hk HZ hd1
      have HZ := HZ'
      clear HZ'
      go_wp2_with (fail)
      refine (Same_any M1 M2 _ _ cM1 cM2 _ (HZ.out.nth 1 rfl) (HZ.out.nth 0 rfl) MV.out).mono ?_
      rw [decide_eq_true rfl]
      rintro e w20 ⟨rfl, hk⟩
      have HZ' := Lib.hid (show HaveD [(M2, vec (maxR (says la) (says lb))), (M1, vec (maxR (says la) (says lb))), (V, rv), (C, rv), (Y, lb ++ [mark]), (Y, lb), (X, la ++ [mark]), (X, la), (A, la), (B, lb)] ⟨dsite, dseq⟩ w w20 from HZ.out.fresh hk)
      clear hk HZ
      have HZ := HZ'
      clear HZ'
      go_wp2_with (fail)
      refine (Least_any X Y la lb cX cY _ (HZ.out.nth 7 rfl) (HZ.out.nth 5 rfl) lA lB).mono ?_
      rintro e w21 hf
      obtain ⟨N1, cN1, rfl, hd1, hk⟩ := hf.at
      clear hf
      have HZ' := Lib.hid (show HaveD [(N1, vec (minR (says la) (says lb))), (M2, vec (maxR (says la) (says lb))), (M1, vec (maxR (says la) (says lb))), (V, rv), (C, rv), (Y, lb ++ [mark]), (Y, lb), (X, la ++ [mark]), (X, la), (A, la), (B, lb)] ⟨dsite, dseq⟩ w w21 from (HZ.out.fresh hk).add hd1)
      clear hk HZ hd1
      have HZ := HZ'
      clear HZ'
      go_wp2_with (fail)
      refine (RLeast_any A B la lb cA cB _ (HZ.out.nth 9 rfl) (HZ.out.nth 10 rfl) lA lB).mono ?_
      rintro e w22 hf
      obtain ⟨N2, cN2, rfl, hd1, hk⟩ := hf.at
      clear hf
      have HZ' := Lib.hid (show HaveD [(N2, vec (minR (says la) (says lb))), (N1, vec (minR (says la) (says lb))), (M2, vec (maxR (says la) (says lb))), (M1, vec (maxR (says la) (says lb))), (V, rv), (C, rv), (Y, lb ++ [mark]), (Y, lb), (X, la ++ [mark]), (X, la), (A, la), (B, lb)] ⟨dsite, dseq⟩ w w22 from (HZ.out.fresh hk).add hd1)
      clear hk HZ hd1
      have HZ := HZ'
      clear HZ'
      go_wp2_with (fail)
      refine (Same_any N1 N2 _ _ cN1 cN2 _ (HZ.out.nth 1 rfl) (HZ.out.nth 0 rfl) NV.out).mono ?_
      rw [decide_eq_true rfl]
      rintro e w23 ⟨rfl, hk⟩
      have HZ' := Lib.hid (show HaveD [(N2, vec (minR (says la) (says lb))), (N1, vec (minR (says la) (says lb))), (M2, vec (maxR (says la) (says lb))), (M1, vec (maxR (says la) (says lb))), (V, rv), (C, rv), (Y, lb ++ [mark]), (Y, lb), (X, la ++ [mark]), (X, la), (A, la), (B, lb)] ⟨dsite, dseq⟩ w w23 from HZ.out.fresh hk)
      clear hk HZ
      have HZ := HZ'
      clear HZ'
      go_wp2_with (fail)
      refine (stands_any X A la la cX cA _ (HZ.out.nth 8 rfl) (HZ.out.nth 10 rfl) hXc (by omega)).mono ?_
      rw [decide_eq_true rfl]
      rintro e w24 ⟨rfl, hk⟩
      have HZ' := Lib.hid (show HaveD [(N2, vec (minR (says la) (says lb))), (N1, vec (minR (says la) (says lb))), (M2, vec (maxR (says la) (says lb))), (M1, vec (maxR (says la) (says lb))), (V, rv), (C, rv), (Y, lb ++ [mark]), (Y, lb), (X, la ++ [mark]), (X, la), (A, la), (B, lb)] ⟨dsite, dseq⟩ w w24 from HZ.out.fresh hk)
      clear hk HZ
      have HZ := HZ'
      clear HZ'
      go_wp2_with (fail)
      refine (stands_any Y B lb lb cY cB _ (HZ.out.nth 6 rfl) (HZ.out.nth 11 rfl) hYc (by omega)).mono ?_
      rw [decide_eq_true rfl]
      rintro e w25 ⟨rfl, hk⟩
      have HZ' := Lib.hid (show HaveD [(N2, vec (minR (says la) (says lb))), (N1, vec (minR (says la) (says lb))), (M2, vec (maxR (says la) (says lb))), (M1, vec (maxR (says la) (says lb))), (V, rv), (C, rv), (Y, lb ++ [mark]), (Y, lb), (X, la ++ [mark]), (X, la), (A, la), (B, lb)] ⟨dsite, dseq⟩ w w25 from HZ.out.fresh hk)
      clear hk HZ
      have HZ := HZ'
      clear HZ'
      go_wp2_with (fail)
      refine (known_any _).mono ?_
      rintro e w26 ⟨rfl, hk⟩
      have HF := Lib.hid (HZ.out.fresh hk)
      clear hk HZ
      go_wp2
      go_ret
      exact ⟨rfl, HF.out.1.2⟩
end Go.Proofs.Ytlefbnnlcacheaa
