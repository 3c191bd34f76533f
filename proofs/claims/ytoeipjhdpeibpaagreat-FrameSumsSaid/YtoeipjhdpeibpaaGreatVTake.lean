/- The walk of Take. Conditions: the Reader lies in memory as RdAt says. -/
import Derived.Test.YtoeipjhdpeibpaaGreatVPut
import Derived.Test.YtoeipjhdpeibpaaGreatSRd
namespace Go.Proofs.YtoeipjhdpeibpaaGreat
open Go.RowKit

def takeLoop : Nat → Int → List Dt → Rd → Int × List Dt × Rd
  | 0, _, acc, s => (0, acc, s)
  | k + 1, last, acc, s =>
    if s.nx.e ≠ 0 then (s.nx.e, [], s.nx)
    else if siteB s.val = false ∨ (s.val : Int) ≤ last then (6, [], s.nx)
    else if s.nx.nx.e ≠ 0 then (s.nx.nx.e, [], s.nx.nx)
    else if s.nx.val < 1 ∨ 2147483647 < s.nx.val then (6, [], s.nx.nx)
    else takeLoop k s.val (acc ++ [⟨s.val, s.nx.val⟩]) s.nx.nx
def takeV (s : Rd) : Int × List Dt × Rd := if s.nx.e ≠ 0 then (s.nx.e, [], s.nx) else if 16 < s.val then (6, [], s.nx) else takeLoop s.val 0 [] s.nx

def TakePost (w : World) (d g : Nat) (x : Int × List Dt × Rd) (r : Ending) (w' : World) : Prop :=
  ∃ A c, r = .returned (.tuple #[.slice A x.2.1.length c, .int .i64 x.1]) ∧ w'.ownsRow w.heap.size 55 2 (.slice A x.2.1.length c) x.2.1.length (dots x.2.1) ∧ Kept (fun k => k = g) w w' ∧ RdAt w' d g x.2.2
theorem tl1 {k : Nat} {last : Int} {acc : List Dt} {s : Rd} (h : s.nx.e ≠ 0) : takeLoop (k + 1) last acc s = (s.nx.e, [], s.nx) := by rw [takeLoop, if_pos h]
theorem tl2 {k : Nat} {last : Int} {acc : List Dt} {s : Rd} (h : s.nx.e = 0) (h2 : siteB s.val = false ∨ (s.val : Int) ≤ last) : takeLoop (k + 1) last acc s = (6, [], s.nx) := by rw [takeLoop, if_neg (fun e => e h), if_pos h2]
theorem tl3 {k : Nat} {last : Int} {acc : List Dt} {s : Rd} (h : s.nx.e = 0) (h2 : ¬ (siteB s.val = false ∨ (s.val : Int) ≤ last)) (h3 : s.nx.nx.e ≠ 0) : takeLoop (k + 1) last acc s = (s.nx.nx.e, [], s.nx.nx) := by rw [takeLoop, if_neg (fun e => e h), if_neg h2, if_pos h3]
theorem tl4 {k : Nat} {last : Int} {acc : List Dt} {s : Rd} (h : s.nx.e = 0) (h2 : ¬ (siteB s.val = false ∨ (s.val : Int) ≤ last)) (h3 : s.nx.nx.e = 0) (h4 : s.nx.val < 1 ∨ 2147483647 < s.nx.val) : takeLoop (k + 1) last acc s = (6, [], s.nx.nx) := by rw [takeLoop, if_neg (fun e => e h), if_neg h2, if_neg (fun e => e h3), if_pos h4]
theorem tl5 {k : Nat} {last : Int} {acc : List Dt} {s : Rd} (h : s.nx.e = 0) (h2 : ¬ (siteB s.val = false ∨ (s.val : Int) ≤ last)) (h3 : s.nx.nx.e = 0) (h4 : ¬ (s.nx.val < 1 ∨ 2147483647 < s.nx.val)) : takeLoop (k + 1) last acc s = takeLoop k s.val (acc ++ [⟨s.val, s.nx.val⟩]) s.nx.nx := by rw [takeLoop, if_neg (fun e => e h), if_neg h2, if_neg (fun e => e h3), if_neg h4]
theorem TakePost.no {w w' : World} {d g : Nat} {x : Int × List Dt × Rd} {r : Ending} {e : Int} {s : Rd} (hx : x = (e, [], s)) (hr : r = .returned (.tuple #[.slice none 0 0, .int .i64 e])) (hk : Kept (fun k => k = g) w w') (hs : RdAt w' d g s) : TakePost w d g x r w' := by
  subst hx
  exact ⟨none, 0, hr, World.ownsRow_nil _ _ _ _, hk, hs⟩

set_option maxRecDepth 100000 in
set_option maxHeartbeats 3200000 in
theorem Take_any (d g : Nat) (s : Rd) (w : World) (h : RdAt w d g s) :
    Calls Tryz.prog 55 #[.pointer (some ⟨g, 0, none⟩)] w (TakePost w d g (takeV s)) := by
  obtain ⟨i0, hi, hz0, hz1, hz2⟩ := info_parts info_dot
  obtain ⟨x, hx⟩ : ∃ x, takeV s = x := ⟨_, rfl⟩
  have H := Lib.hid h
  have hgl : g < w.heap.size := h.at_.lt
  have hdl : d < w.heap.size := h.at_.dlt
  have HX1 := Lib.hid (show s.nx.e ≠ 0 → x = (s.nx.e, [], s.nx) from fun h => by rw [← hx]; exact if_pos h)
  have HX2 := Lib.hid (show s.nx.e = 0 → 16 < s.val → x = (6, [], s.nx) from fun h h' => by rw [← hx, takeV, if_neg (fun h'' => h'' h), if_pos h'])
  have HX3 := Lib.hid (show s.nx.e = 0 → ¬ 16 < s.val → takeLoop s.val 0 [] s.nx = x from fun h h' => by rw [← hx, takeV, if_neg (fun h'' => h'' h), if_neg h'])
  rw [hx]
  clear hx h
  go_enter Tryz.func55, Tryz.ntmps55
  go_wp2_with (fail)
  refine (RNum_any d g s _ H.out).mono ?_
  rintro r w1 ⟨rfl, hk, hr⟩
  have HK := Lib.hid hk
  have HR := Lib.hid hr
  clear hk hr H
  go_wp2_with (fail)
  refine (RErrs_any d g _ _ HR.out).mono ?_
  rintro r w2 ⟨rfl, rfl⟩
  generalize s.nx = s1 at HX1 HX2 HX3 HR ⊢
  generalize s.val = n at HX2 HX3 ⊢
  by_cases he : s1.e = 0
  · have HX2' := Lib.hid (HX2.out he)
    have HX3' := Lib.hid (HX3.out he)
    rw [he]
    clear HX1 HX2 HX3
    by_cases hn : 16 < n
    · have HXX := Lib.hid (HX2'.out hn)
      go_wp2
      go_ret2
      exact TakePost.no HXX.out rfl HK.out HR.out
    · have HXX := Lib.hid (HX3'.out hn)
      clear HX2' HX3' he
      go_wp2_with (fail)
      go_loopw [6, 7, 22] (fun v t i wr => ∃ (k : Nat) (last : Int) (acc : List Dt) (s' : Rd), i = .int .i64 k ∧ k ≤ n ∧ t = .int .i64 last ∧ acc.length = k ∧ wr.ownsRow w.heap.size 55 2 v acc.length (dots acc) ∧ takeLoop (n - k) last acc s' = x ∧ RdAt wr d g s' ∧ Kept (fun k => k = g) w wr) (fun _ _ i _ => n - (intOf i).toNat)
      case atStart => exact ⟨0, 0, [], s1, rfl, Nat.zero_le _, rfl, rfl, World.ownsRow_nil _ _ _ _, HXX.out, HR.out, HK.out⟩
      case round =>
        clear HR HK HXX
        obtain ⟨k, last, acc, s', rfl, hk, rfl, hacc, hown, htl, hrd, hkp⟩ := hrel
        by_cases hlt : k < n
        · obtain ⟨A, cc, rfl⟩ := own_form hown
          have HO := Lib.hid hown
          have HT := Lib.hid (show takeLoop (n - (k + 1) + 1) last acc s' = x by rw [← htl]; congr 1; omega)
          have HR := Lib.hid hrd
          have HK := Lib.hid hkp
          have HA := Lib.hid hacc
          have haccl : acc.length ≤ 16 := by omega
          clear hown htl hrd hkp hacc
          go_wp2_with (fail)
          refine (RNum_any d g s' _ HR.out).mono ?_
          rintro r w3 ⟨rfl, hk3, hr3⟩
          have HK3 := Lib.hid (HK.out.trans hk3 fun _ _ e => e)
          have HR3 := Lib.hid hr3
          have HO3 := Lib.hid (hk3.own HO.out fun j e hj => by have := (HO.out.lt j e).1; omega)
          clear hk3 hr3 HO HK HR
          go_wp2_with (fail)
          refine (RErrs_any d g _ _ HR3.out).mono ?_
          rintro r w2 ⟨rfl, rfl⟩
          have HT1 := Lib.hid (show s'.nx.e ≠ 0 → x = (s'.nx.e, [], s'.nx) from fun h => by rw [← HT.out, tl1 h])
          have HT2 := Lib.hid (show s'.nx.e = 0 → siteB s'.val = false ∨ (s'.val : Int) ≤ last → x = (6, [], s'.nx) from fun h h' => by rw [← HT.out, tl2 h h'])
          have HT3 := Lib.hid (show s'.nx.e = 0 → ¬ (siteB s'.val = false ∨ (s'.val : Int) ≤ last) → s'.nx.nx.e ≠ 0 → x = (s'.nx.nx.e, [], s'.nx.nx) from fun h h' h'' => by rw [← HT.out, tl3 h h' h''])
          have HT4 := Lib.hid (show s'.nx.e = 0 → ¬ (siteB s'.val = false ∨ (s'.val : Int) ≤ last) → s'.nx.nx.e = 0 → s'.nx.val < 1 ∨ 2147483647 < s'.nx.val → x = (6, [], s'.nx.nx) from fun h h' h'' h4 => by rw [← HT.out, tl4 h h' h'' h4])
          have HT5 := Lib.hid (show s'.nx.e = 0 → ¬ (siteB s'.val = false ∨ (s'.val : Int) ≤ last) → s'.nx.nx.e = 0 → ¬ (s'.nx.val < 1 ∨ 2147483647 < s'.nx.val) → takeLoop (n - (k + 1)) s'.val (acc ++ [⟨s'.val, s'.nx.val⟩]) s'.nx.nx = x from fun h h' h'' h4 => by rw [← HT.out, tl5 h h' h'' h4])
          clear HT
          generalize s'.nx = s2 at HT1 HT2 HT3 HT4 HT5 HR3 ⊢
          generalize s'.val = st at HT2 HT3 HT4 HT5 ⊢
          by_cases he : s2.e = 0
          · have HE := Lib.hid he
            rw [he]
            clear HT1 he
            cases hs : siteB (st : Int) with
            | false =>
              have HXX := Lib.hid (HT2.out HE.out (.inl hs))
              have HS := Lib.hid hs
              clear HT2 HT3 HT4 HT5 hs
              go_wp2_with (fail)
              refine (isSite_is _ false _ HS.out).mono ?_
              rintro e w1 ⟨rfl, rfl⟩
              go_wp2
              go_ret2
              exact TakePost.no HXX.out rfl HK3.out HR3.out
            | true =>
              have HS := Lib.hid hs
              by_cases hla : (st : Int) ≤ last
              · have HXX := Lib.hid (HT2.out HE.out (.inr hla))
                clear HT2 HT3 HT4 HT5 hs
                go_wp2_with (fail)
                refine (isSite_is _ true _ HS.out).mono ?_
                rintro e w1 ⟨rfl, rfl⟩
                go_wp2
                go_ret2
                exact TakePost.no HXX.out rfl HK3.out HR3.out
              · have hno : ¬ (siteB (st : Int) = false ∨ (st : Int) ≤ last) := fun h => h.elim (fun h => by rw [hs] at h; cases h) hla
                have HT3' := Lib.hid (HT3.out HE.out hno)
                have HT4' := Lib.hid (HT4.out HE.out hno)
                have HT5' := Lib.hid (HT5.out HE.out hno)
                clear HT2 HT3 HT4 HT5 hs hno
                go_wp2_with (fail)
                refine (isSite_is _ true _ HS.out).mono ?_
                rintro e w1 ⟨rfl, rfl⟩
                go_wp2_with (fail)
                refine (RNum_any d g s2 _ HR3.out).mono ?_
                rintro r w4 ⟨rfl, hk4, hr4⟩
                have HK4 := Lib.hid (HK3.out.trans hk4 fun _ _ e => e)
                have HR4 := Lib.hid hr4
                have HO4 := Lib.hid (hk4.own HO3.out fun j e hj => by have := (HO3.out.lt j e).1; omega)
                clear hk4 hr4 HO3 HK3 HR3
                go_wp2_with (fail)
                refine (RErrs_any d g _ _ HR4.out).mono ?_
                rintro r w2 ⟨rfl, rfl⟩
                generalize s2.nx = s3 at HT3' HT4' HT5' HR4 ⊢
                generalize s2.val = sq at HT4' HT5' ⊢
                by_cases he : s3.e = 0
                · have HT4 := Lib.hid (HT4'.out he)
                  have HT5 := Lib.hid (HT5'.out he)
                  rw [he]
                  clear HT3' HT4' HT5' he
                  by_cases hq : sq < 1 ∨ 2147483647 < sq
                  · have HXX := Lib.hid (HT4.out hq)
                    have hq' : (sq : Int) < 1 ∨ (¬ (sq : Int) < 1 ∧ (2147483647 : Int) < sq) := by omega
                    clear HT4 HT5 hq
                    rcases hq' with hq | ⟨hq, hq2⟩
                    all_goals
                      go_wp2
                      go_ret2
                      exact TakePost.no HXX.out rfl HK4.out HR4.out
                  · have HXX := Lib.hid (HT5.out hq)
                    have hq1 : ¬ (sq : Int) < 1 := by omega
                    have hq2 : ¬ (2147483647 : Int) < sq := by omega
                    clear HT4 HT5 hq
                    go_wp2_with (at_builtin; refine wpList_append_own_at _ rfl (.tmp 52) (.tmp 56) 32 rfl w.heap.size 55 i0 _ 2 16 Tryz.underlying32 hi hz0 hz1 hz2 rfl (by decide) _ _ (dots acc) rfl (HO4.out.alloc _) ⟨w4.heap.size, 0, none⟩ 1 1 [.int .i64 (st : Int), .int .i64 (sq : Int)] rfl rfl ?c1 ?c2 ?c3 ?c4 ?c5 ?_)
                    case c1 => exact news_dot _ _ _ _ _ rfl
                    case c2 => exact one_dot _ _
                    case c3 => unfold maxLen; omega
                    case c4 => omega
                    case c5 => have := HK4.out.size; simp; omega
                    intro v' w5 hown1 hg1 _ hat
                    have HO5 := Lib.hid hown1
                    have HK5 := Lib.hid ((HK4.out.alloc _).grown hg1 fun j hj e => by have := (HO4.out.lt j e).1; omega)
                    have HR5 := Lib.hid ((HR4.out.fresh ((Kept.refl _ w4).alloc _)).kept (S := fun j => Value.ownBlock (.slice A acc.length cc) = some j) ⟨hg1.os, hg1.tape, hg1.output, hg1.size, fun j hj e => hg1.block j hj (fun h => e h.symm)⟩ (fun e => by have := (HO4.out.lt g e).1; omega) fun e => by have := (HO4.out.lt _ e).1; omega)
                    clear hown1 hg1 hat
                    go_wp2
                    go_roundw
                    case rel => exact ⟨k + 1, st, acc ++ [⟨st, sq⟩], s3, by go_num, by omega, rfl, by simp [HA.out], by rw [dots_app, List.length_append]; exact HO5.out, HXX.out, HR5.out, HK5.out⟩
                    case measure => simp [intOf]; omega
                · have HXX := Lib.hid (HT3'.out he)
                  have e1 : (s3.e != 0) = true := by simp [he]
                  have e2 : (s3.e == 0) = false := by simp [he]
                  generalize s3.e = ee at e1 e2 HXX ⊢
                  clear HT3' HT4' HT5' he
                  go_wp2
                  go_ret2
                  exact TakePost.no HXX.out rfl HK4.out HR4.out
          · have HXX := Lib.hid (HT1.out he)
            have e1 : (s2.e != 0) = true := by simp [he]
            have e2 : (s2.e == 0) = false := by simp [he]
            generalize s2.e = ee at e1 e2 HXX ⊢
            clear HT1 HT2 HT3 HT4 HT5 he
            go_wp2
            go_ret2
            exact TakePost.no HXX.out rfl HK3.out HR3.out
        · obtain rfl : k = n := by omega
          obtain ⟨A, cc, rfl⟩ := own_form hown
          have HF := Lib.hid (show TakePost w d g x (.returned (.tuple #[.slice A acc.length cc, .int .i64 0])) wr by
            rw [Nat.sub_self, takeLoop] at htl
            rw [← htl]
            exact ⟨A, cc, rfl, hown, hkp, hrd⟩)
          clear hown htl hrd hkp hacc
          go_wp2
          go_ret2
          exact HF.out
  · have HXX := Lib.hid (HX1.out he)
    have e1 : (s1.e != 0) = true := by simp [he]
    have e2 : (s1.e == 0) = false := by simp [he]
    generalize s1.e = ee at e1 e2 HXX ⊢
    clear HX1 HX2 HX3 he
    go_wp2
    go_ret2
    exact TakePost.no HXX.out rfl HK.out HR.out
end Go.Proofs.YtoeipjhdpeibpaaGreat
