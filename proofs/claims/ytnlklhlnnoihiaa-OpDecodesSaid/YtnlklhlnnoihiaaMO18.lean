/- The walk of Take. Conditions: the Reader lies in memory as RdAt says. · The plain law of rows: order, the greater and the lesser of two, the sum; what a vector of a row says. No program in sight. · The plain law of numbers and vectors taken again from their bytes. No program in sight but for the words of the Reader's state. · The walk of stamp.Writer.Text. Conditions: the Writer lies in memory; nothing is longer than a million. -/
import Derived.Test.YtnlklhlnnoihiaaMO17
import Derived.Test.YtnlklhlnnoihiaaMO1
import Derived.Test.YtnlklhlnnoihiaaMO5
import Derived.Lib.AppendStr
namespace Go.Proofs.Ytnlklhlnnoihiaa
open Go.RowKit

def takeLoop : Nat → Int → List Dt → Rd → Int × List Dt × Rd
  | 0, _, acc, s => (0, acc, s)
  | k + 1, last, acc, s =>
    if s.nx.e ≠ 0 then (s.nx.e, [], s.nx)
    else if siteB s.val = false ∨ (s.val : Int) ≤ last then (6, [], s.nx)
    else if s.nx.nx.e ≠ 0 then (s.nx.nx.e, [], s.nx.nx)
    else if s.nx.val < 1 ∨ 2147483647 < s.nx.val then (6, [], s.nx.nx)
    else takeLoop k s.val (acc ++ [⟨s.val, s.nx.val⟩]) s.nx.nx
def takeV (s : Rd) : Int × List Dt × Rd := if s.nx.e ≠ 0 then (s.nx.e, [], s.nx) else if 16 < s.val then (6, [], s.nx) else takeLoop s.val 0 [] s.nx

def TakePost (w : World) (d g : Nat) (x : Int × List Dt × Rd) (r : Ending) (w' : World) : Prop :=
  ∃ A c, r = .returned (.tuple #[.slice A x.2.1.length c, .int .i64 x.1]) ∧ w'.ownsRow w.heap.size 23 2 (.slice A x.2.1.length c) x.2.1.length (dots x.2.1) ∧ Kept (fun k => k = g) w w' ∧ RdAt w' d g x.2.2
theorem tl1 {k : Nat} {last : Int} {acc : List Dt} {s : Rd} (h : s.nx.e ≠ 0) : takeLoop (k + 1) last acc s = (s.nx.e, [], s.nx) := by rw [takeLoop, if_pos h]
theorem tl2 {k : Nat} {last : Int} {acc : List Dt} {s : Rd} (h : s.nx.e = 0) (h2 : siteB s.val = false ∨ (s.val : Int) ≤ last) : takeLoop (k + 1) last acc s = (6, [], s.nx) := by rw [takeLoop, if_neg (fun e => e h), if_pos h2]
theorem tl3 {k : Nat} {last : Int} {acc : List Dt} {s : Rd} (h : s.nx.e = 0) (h2 : ¬ (siteB s.val = false ∨ (s.val : Int) ≤ last)) (h3 : s.nx.nx.e ≠ 0) : takeLoop (k + 1) last acc s = (s.nx.nx.e, [], s.nx.nx) := by rw [takeLoop, if_neg (fun e => e h), if_neg h2, if_pos h3]
theorem tl4 {k : Nat} {last : Int} {acc : List Dt} {s : Rd} (h : s.nx.e = 0) (h2 : ¬ (siteB s.val = false ∨ (s.val : Int) ≤ last)) (h3 : s.nx.nx.e = 0) (h4 : s.nx.val < 1 ∨ 2147483647 < s.nx.val) : takeLoop (k + 1) last acc s = (6, [], s.nx.nx) := by rw [takeLoop, if_neg (fun e => e h), if_neg h2, if_neg (fun e => e h3), if_pos h4]
theorem tl5 {k : Nat} {last : Int} {acc : List Dt} {s : Rd} (h : s.nx.e = 0) (h2 : ¬ (siteB s.val = false ∨ (s.val : Int) ≤ last)) (h3 : s.nx.nx.e = 0) (h4 : ¬ (s.nx.val < 1 ∨ 2147483647 < s.nx.val)) : takeLoop (k + 1) last acc s = takeLoop k s.val (acc ++ [⟨s.val, s.nx.val⟩]) s.nx.nx := by rw [takeLoop, if_neg (fun e => e h), if_neg h2, if_neg (fun e => e h3), if_neg h4]
theorem TakePost.no {w w' : World} {d g : Nat} {x : Int × List Dt × Rd} {r : Ending} {e : Int} {s : Rd} (hx : x = (e, [], s)) (hr : r = .returned (.tuple #[.slice none 0 0, .int .i64 e])) (hk : Kept (fun k => k = g) w w') (hs : RdAt w' d g s) : TakePost w d g x r w' := by
  subst hx
  exact ⟨none, 0, hr, World.ownsRow_nil _ _ _ _, hk, hs⟩

set_option maxRecDepth 100000 in
set_option maxHeartbeats 3200000 in
theorem Take_any (d g : Nat) (s : Rd) (w : World) (h : RdAt w d g s) :
    Calls Try.prog 58 #[.pointer (some ⟨g, 0, none⟩)] w (TakePost w d g (takeV s)) := by
  obtain ⟨i0, hi, hz0, hz1, hz2⟩ := info_parts info_dot
  obtain ⟨x, hx⟩ : ∃ x, takeV s = x := ⟨_, rfl⟩
  have H := Lib.hid h
  have hgl : g < w.heap.size := h.at_.lt
  have hdl : d < w.heap.size := h.at_.dlt
  have HX1 := Lib.hid (show s.nx.e ≠ 0 → x = (s.nx.e, [], s.nx) from fun h => by rw [← hx]; exact if_pos h)
  have HX2 := Lib.hid (show s.nx.e = 0 → 16 < s.val → x = (6, [], s.nx) from fun h h' => by rw [← hx, takeV, if_neg (fun h'' => h'' h), if_pos h'])
  have HX3 := Lib.hid (show s.nx.e = 0 → ¬ 16 < s.val → takeLoop s.val 0 [] s.nx = x from fun h h' => by rw [← hx, takeV, if_neg (fun h'' => h'' h), if_neg h'])
  rw [hx]
  clear hx h
  go_enter Try.func58, Try.ntmps58
  go_wp2_with (fail)
  refine (RNum_any d g s _ H.out).mono ?_
  rintro r w1 ⟨rfl, hk, hr⟩
  have HK := Lib.hid hk
  have HR := Lib.hid hr
  clear hk hr H
  go_wp2_with (fail)
  refine (RErrs_any d g _ _ HR.out).mono ?_
  rintro r w2 ⟨rfl, rfl⟩
  generalize s.nx = s1 at HX1 HX2 HX3 HR ⊢
  generalize s.val = n at HX2 HX3 ⊢
  by_cases he : s1.e = 0
  · have HX2' := Lib.hid (HX2.out he)
    have HX3' := Lib.hid (HX3.out he)
    rw [he]
    clear HX1 HX2 HX3
    by_cases hn : 16 < n
    · have HXX := Lib.hid (HX2'.out hn)
      go_wp2
      go_ret2
      exact TakePost.no HXX.out rfl HK.out HR.out
    · have HXX := Lib.hid (HX3'.out hn)
      clear HX2' HX3' he
      go_wp2_with (fail)
      go_loopw [6, 7, 22] (fun v t i wr => ∃ (k : Nat) (last : Int) (acc : List Dt) (s' : Rd), i = .int .i64 k ∧ k ≤ n ∧ t = .int .i64 last ∧ acc.length = k ∧ wr.ownsRow w.heap.size 23 2 v acc.length (dots acc) ∧ takeLoop (n - k) last acc s' = x ∧ RdAt wr d g s' ∧ Kept (fun k => k = g) w wr) (fun _ _ i _ => n - (intOf i).toNat)
      case atStart => exact ⟨0, 0, [], s1, rfl, Nat.zero_le _, rfl, rfl, World.ownsRow_nil _ _ _ _, HXX.out, HR.out, HK.out⟩
      case round =>
        clear HR HK HXX
        obtain ⟨k, last, acc, s', rfl, hk, rfl, hacc, hown, htl, hrd, hkp⟩ := hrel
        by_cases hlt : k < n
        · obtain ⟨A, cc, rfl⟩ := own_form hown
          have HO := Lib.hid hown
          have HT := Lib.hid (show takeLoop (n - (k + 1) + 1) last acc s' = x by rw [← htl]; congr 1; omega)
          have HR := Lib.hid hrd
          have HK := Lib.hid hkp
          have HA := Lib.hid hacc
          have haccl : acc.length ≤ 16 := by omega
          clear hown htl hrd hkp hacc
          go_wp2_with (fail)
          refine (RNum_any d g s' _ HR.out).mono ?_
          rintro r w3 ⟨rfl, hk3, hr3⟩
          have HK3 := Lib.hid (HK.out.trans hk3 fun _ _ e => e)
          have HR3 := Lib.hid hr3
          have HO3 := Lib.hid (hk3.own HO.out fun j e hj => by have := (HO.out.lt j e).1; omega)
          clear hk3 hr3 HO HK HR
          go_wp2_with (fail)
          refine (RErrs_any d g _ _ HR3.out).mono ?_
          rintro r w2 ⟨rfl, rfl⟩
          have HT1 := Lib.hid (show s'.nx.e ≠ 0 → x = (s'.nx.e, [], s'.nx) from fun h => by rw [← HT.out, tl1 h])
          have HT2 := Lib.hid (show s'.nx.e = 0 → siteB s'.val = false ∨ (s'.val : Int) ≤ last → x = (6, [], s'.nx) from fun h h' => by rw [← HT.out, tl2 h h'])
          have HT3 := Lib.hid (show s'.nx.e = 0 → ¬ (siteB s'.val = false ∨ (s'.val : Int) ≤ last) → s'.nx.nx.e ≠ 0 → x = (s'.nx.nx.e, [], s'.nx.nx) from fun h h' h'' => by rw [← HT.out, tl3 h h' h''])
          have HT4 := Lib.hid (show s'.nx.e = 0 → ¬ (siteB s'.val = false ∨ (s'.val : Int) ≤ last) → s'.nx.nx.e = 0 → s'.nx.val < 1 ∨ 2147483647 < s'.nx.val → x = (6, [], s'.nx.nx) from fun h h' h'' h4 => by rw [← HT.out, tl4 h h' h'' h4])
          have HT5 := Lib.hid (show s'.nx.e = 0 → ¬ (siteB s'.val = false ∨ (s'.val : Int) ≤ last) → s'.nx.nx.e = 0 → ¬ (s'.nx.val < 1 ∨ 2147483647 < s'.nx.val) → takeLoop (n - (k + 1)) s'.val (acc ++ [⟨s'.val, s'.nx.val⟩]) s'.nx.nx = x from fun h h' h'' h4 => by rw [← HT.out, tl5 h h' h'' h4])
          clear HT
          generalize s'.nx = s2 at HT1 HT2 HT3 HT4 HT5 HR3 ⊢
          generalize s'.val = st at HT2 HT3 HT4 HT5 ⊢
          by_cases he : s2.e = 0
          · have HE := Lib.hid he
            rw [he]
            clear HT1 he
            cases hs : siteB (st : Int) with
            | false =>
              have HXX := Lib.hid (HT2.out HE.out (.inl hs))
              have HS := Lib.hid hs
              clear HT2 HT3 HT4 HT5 hs
              go_wp2_with (fail)
              refine (isSite_is _ false _ HS.out).mono ?_
              rintro e w1 ⟨rfl, rfl⟩
              go_wp2
              go_ret2
              exact TakePost.no HXX.out rfl HK3.out HR3.out
            | true =>
              have HS := Lib.hid hs
              by_cases hla : (st : Int) ≤ last
              · have HXX := Lib.hid (HT2.out HE.out (.inr hla))
                clear HT2 HT3 HT4 HT5 hs
                go_wp2_with (fail)
                refine (isSite_is _ true _ HS.out).mono ?_
                rintro e w1 ⟨rfl, rfl⟩
                go_wp2
                go_ret2
                exact TakePost.no HXX.out rfl HK3.out HR3.out
              · have hno : ¬ (siteB (st : Int) = false ∨ (st : Int) ≤ last) := fun h => h.elim (fun h => by rw [hs] at h; cases h) hla
                have HT3' := Lib.hid (HT3.out HE.out hno)
                have HT4' := Lib.hid (HT4.out HE.out hno)
                have HT5' := Lib.hid (HT5.out HE.out hno)
                clear HT2 HT3 HT4 HT5 hs hno
                go_wp2_with (fail)
                refine (isSite_is _ true _ HS.out).mono ?_
                rintro e w1 ⟨rfl, rfl⟩
                go_wp2_with (fail)
                refine (RNum_any d g s2 _ HR3.out).mono ?_
                rintro r w4 ⟨rfl, hk4, hr4⟩
                have HK4 := Lib.hid (HK3.out.trans hk4 fun _ _ e => e)
                have HR4 := Lib.hid hr4
                have HO4 := Lib.hid (hk4.own HO3.out fun j e hj => by have := (HO3.out.lt j e).1; omega)
                clear hk4 hr4 HO3 HK3 HR3
                go_wp2_with (fail)
                refine (RErrs_any d g _ _ HR4.out).mono ?_
                rintro r w2 ⟨rfl, rfl⟩
                generalize s2.nx = s3 at HT3' HT4' HT5' HR4 ⊢
                generalize s2.val = sq at HT4' HT5' ⊢
                by_cases he : s3.e = 0
                · have HT4 := Lib.hid (HT4'.out he)
                  have HT5 := Lib.hid (HT5'.out he)
                  rw [he]
                  clear HT3' HT4' HT5' he
                  by_cases hq : sq < 1 ∨ 2147483647 < sq
                  · have HXX := Lib.hid (HT4.out hq)
                    have hq' : (sq : Int) < 1 ∨ (¬ (sq : Int) < 1 ∧ (2147483647 : Int) < sq) := by omega
                    clear HT4 HT5 hq
                    rcases hq' with hq | ⟨hq, hq2⟩
                    all_goals
                      go_wp2
                      go_ret2
                      exact TakePost.no HXX.out rfl HK4.out HR4.out
                  · have HXX := Lib.hid (HT5.out hq)
                    have hq1 : ¬ (sq : Int) < 1 := by omega
                    have hq2 : ¬ (2147483647 : Int) < sq := by omega
                    clear HT4 HT5 hq
                    go_wp2_with (at_builtin; refine wpList_append_own_at _ rfl (.tmp 52) (.tmp 56) 25 rfl w.heap.size 23 i0 _ 2 16 Try.underlying25 hi hz0 hz1 hz2 rfl (by decide) _ _ (dots acc) rfl (HO4.out.alloc _) ⟨w4.heap.size, 0, none⟩ 1 1 [.int .i64 (st : Int), .int .i64 (sq : Int)] rfl rfl ?c1 ?c2 ?c3 ?c4 ?c5 ?_)
                    case c1 => exact news_dot _ _ _ _ _ rfl
                    case c2 => exact one_dot _ _
                    case c3 => unfold maxLen; omega
                    case c4 => omega
                    case c5 => have := HK4.out.size; simp; omega
                    intro v' w5 hown1 hg1 _ hat
                    have HO5 := Lib.hid hown1
                    have HK5 := Lib.hid ((HK4.out.alloc _).grown hg1 fun j hj e => by have := (HO4.out.lt j e).1; omega)
                    have HR5 := Lib.hid ((HR4.out.fresh ((Kept.refl _ w4).alloc _)).kept (S := fun j => Value.ownBlock (.slice A acc.length cc) = some j) ⟨hg1.os, hg1.tape, hg1.output, hg1.size, fun j hj e => hg1.block j hj (fun h => e h.symm)⟩ (fun e => by have := (HO4.out.lt g e).1; omega) fun e => by have := (HO4.out.lt _ e).1; omega)
                    clear hown1 hg1 hat
                    go_wp2
                    go_roundw
                    case rel => exact ⟨k + 1, st, acc ++ [⟨st, sq⟩], s3, by go_num, by omega, rfl, by simp [HA.out], by rw [dots_app, List.length_append]; exact HO5.out, HXX.out, HR5.out, HK5.out⟩
                    case measure => simp [intOf]; omega
                · have HXX := Lib.hid (HT3'.out he)
                  have e1 : (s3.e != 0) = true := by simp [he]
                  have e2 : (s3.e == 0) = false := by simp [he]
                  generalize s3.e = ee at e1 e2 HXX ⊢
                  clear HT3' HT4' HT5' he
                  go_wp2
                  go_ret2
                  exact TakePost.no HXX.out rfl HK4.out HR4.out
          · have HXX := Lib.hid (HT1.out he)
            have e1 : (s2.e != 0) = true := by simp [he]
            have e2 : (s2.e == 0) = false := by simp [he]
            generalize s2.e = ee at e1 e2 HXX ⊢
            clear HT1 HT2 HT3 HT4 HT5 he
            go_wp2
            go_ret2
            exact TakePost.no HXX.out rfl HK3.out HR3.out
        · obtain rfl : k = n := by omega
          obtain ⟨A, cc, rfl⟩ := own_form hown
          have HF := Lib.hid (show TakePost w d g x (.returned (.tuple #[.slice A acc.length cc, .int .i64 0])) wr by
            rw [Nat.sub_self, takeLoop] at htl
            rw [← htl]
            exact ⟨A, cc, rfl, hown, hkp, hrd⟩)
          clear hown htl hrd hkp hacc
          go_wp2
          go_ret2
          exact HF.out
  · have HXX := Lib.hid (HX1.out he)
    have e1 : (s1.e != 0) = true := by simp [he]
    have e2 : (s1.e == 0) = false := by simp [he]
    generalize s1.e = ee at e1 e2 HXX ⊢
    clear HX1 HX2 HX3 he
    go_wp2
    go_ret2
    exact TakePost.no HXX.out rfl HK.out HR.out
end Go.Proofs.Ytnlklhlnnoihiaa

namespace Go.Proofs.Ytnlklhlnnoihiaa

theorem rg_max (r s : List Int) {i : Nat} (hi : i < 17) : rg (maxR r s) i = max (rg r i) (rg s i) := by unfold maxR; rw [zipR_rg _ _ _ _ _ hi, if_pos hi]
theorem rg_min (r s : List Int) {i : Nat} (hi : i < 17) : rg (minR r s) i = min (rg r i) (rg s i) := by unfold minR; rw [zipR_rg _ _ _ _ _ hi, if_pos hi]
theorem rg_row0 (i : Nat) : rg row0 i = 0 := by
  unfold rg row0
  rw [List.getElem?_replicate]
  split <;> simp
theorem covers_iff (r s : List Int) : coversR r s = true ↔ ∀ i, i < 17 → rg s i ≤ rg r i := by
  unfold coversR
  rw [List.all_eq_true]
  constructor
  · intro h i hi
    have := h i (List.mem_range.2 hi)
    simpa using this
  · intro h i hi
    simpa using h i (List.mem_range.1 hi)
theorem lay_ok {r : List Int} {d : Dt} (h : okDot d = true) : lay r d = r.set d.site.toNat (max (rg r d.site.toNat) d.seq) := if_pos h
theorem rg_lay {r : List Int} (hr : r.length = 17) (d : Dt) (i : Nat) : rg (lay r d) i = if okDot d = true ∧ (i : Int) = d.site then max (rg r i) d.seq else rg r i := by
  unfold lay
  by_cases h : okDot d = true
  · have hd : 1 ≤ d.site ∧ d.site ≤ 16 ∧ 1 ≤ d.seq ∧ d.seq ≤ 2147483647 := by simpa [okDot] using h
    rw [if_pos h, rg_set _ _ _ _ (by omega)]
    by_cases hi : i = d.site.toNat
    · subst hi
      rw [if_pos rfl, if_pos ⟨h, by omega⟩]
    · rw [if_neg hi, if_neg (by rintro ⟨_, e⟩; omega)]
  · rw [if_neg h, if_neg (fun e => h e.1)]
theorem fold_vecTo {r : List Int} (hr : Row r) (k : Nat) (hk : k ≤ 17) : ((vecTo r k).foldl lay row0).length = 17 ∧ ∀ i, i < 17 → rg ((vecTo r k).foldl lay row0) i = if i < k then rg r i else 0 := by
  induction k with
  | zero => exact ⟨rfl, fun i _ => by rw [if_neg (by omega)]; exact rg_row0 i⟩
  | succ k ih =>
    obtain ⟨hl, ih⟩ := ih (by omega)
    unfold vecTo
    have h0 := hr.zero
    have hb := hr.bd k
    by_cases hp : 0 < rg r k
    · have hk1 : 1 ≤ k := by
        rcases Nat.eq_zero_or_pos k with rfl | h
        · omega
        · exact h
      have hok : okDot ⟨k, rg r k⟩ = true := by simp [okDot]; omega
      rw [if_pos hp, List.foldl_append]
      refine ⟨by simp [lay_ok hok, hl], fun i hi => ?_⟩
      show rg (lay _ _) i = _
      rw [rg_lay hl, ih i hi]
      by_cases hik : i = k
      · subst hik
        rw [if_pos ⟨hok, rfl⟩, if_neg (by omega), if_pos (by omega)]
        show max 0 (rg r i) = _
        omega
      · rw [if_neg (by rintro ⟨_, e⟩; simp at e; omega)]
        by_cases h1 : i < k
        · rw [if_pos h1, if_pos (by omega)]
        · rw [if_neg h1, if_neg (by omega)]
    · rw [if_neg hp]
      refine ⟨hl, fun i hi => ?_⟩
      rw [ih i hi]
      by_cases h1 : i < k
      · rw [if_pos h1, if_pos (by omega)]
      · rw [if_neg h1]
        by_cases h2 : i = k
        · subst h2
          rw [if_pos (by omega)]
          omega
        · rw [if_neg (by omega)]
theorem says_vec {r : List Int} (hr : Row r) : says (vec r) = r := by
  obtain ⟨hl, h⟩ := fold_vecTo hr 17 (Nat.le_refl _)
  exact row_ext hl hr.len fun i hi => by
    have := h i hi
    rw [if_pos hi] at this
    exact this
theorem vec_inj {r s : List Int} (hr : Row r) (hs : Row s) (h : vec r = vec s) : r = s := by rw [← says_vec hr, h, says_vec hs]

theorem check_snoc (d : Dt) (hd : okDot d = true) : ∀ (l : List Dt) (last : Int), last < d.site → (∀ e ∈ l, e.site < d.site) → checkFrom last l = 0 → checkFrom last (l ++ [d]) = 0 := by
  have hd' : 1 ≤ d.site ∧ d.site ≤ 16 ∧ 1 ≤ d.seq ∧ d.seq ≤ 2147483647 := by simpa [okDot] using hd
  have hs : siteB d.site = true := by simp [siteB]; omega
  intro l
  induction l with
  | nil =>
    intro last hl _ _
    simp only [List.nil_append, checkFrom]
    rw [if_neg (by simp [hs]), if_neg (by omega), if_neg (by omega)]
  | cons e l ih =>
    intro last hl he hc
    simp only [List.cons_append, checkFrom] at hc ⊢
    by_cases h1 : siteB e.site = false
    · rw [if_pos h1] at hc; simp at hc
    · rw [if_neg h1] at hc ⊢
      by_cases h2 : e.seq < 1 ∨ 2147483647 < e.seq
      · rw [if_pos h2] at hc; simp at hc
      · rw [if_neg h2] at hc ⊢
        by_cases h3 : e.site ≤ last
        · rw [if_pos h3] at hc; simp at hc
        · rw [if_neg h3] at hc ⊢
          exact ih e.site (he e (by simp)) (fun x hx => he x (by simp [hx])) hc
theorem vecTo_lt (r : List Int) (k : Nat) : ∀ e ∈ vecTo r k, e.site < k := by
  induction k with
  | zero => intro e he; simp [vecTo] at he
  | succ k ih =>
    intro e he
    unfold vecTo at he
    split at he
    · rcases List.mem_append.1 he with he | he
      · have := ih e he; omega
      · simp at he
        subst he
        simp
        omega
    · have := ih e he; omega
theorem check_vecTo {r : List Int} (hr : Row r) (k : Nat) (hk : k ≤ 17) : checkFrom 0 (vecTo r k) = 0 := by
  induction k with
  | zero => rfl
  | succ k ih =>
    have ih := ih (by omega)
    unfold vecTo
    have h0 := hr.zero
    have hb := hr.bd k
    by_cases hp : 0 < rg r k
    · have hk1 : 1 ≤ k := by
        rcases Nat.eq_zero_or_pos k with rfl | h
        · omega
        · exact h
      rw [if_pos hp]
      exact check_snoc ⟨k, rg r k⟩ (by simp [okDot]; omega) _ 0 (by simp; omega) (fun e he => vecTo_lt r k e he) ih
    · rw [if_neg hp]
      exact ih
theorem check_vec {r : List Int} (hr : Row r) : checkV (vec r) = 0 := check_vecTo hr 17 (Nat.le_refl _)

section
variable {a b c : List Int} (ha : Row a) (hb : Row b) (hc : Row c)
include ha in
theorem max_row0 : maxR a row0 = a := row_ext (zipR_len ..) ha.len fun i hi => by
  rw [rg_max _ _ hi, rg_row0]
  have := ha.bd i
  omega
theorem cov_max_l : coversR (maxR a b) a = true := (covers_iff _ _).2 fun i hi => by rw [rg_max _ _ hi]; omega
theorem cov_max_r : coversR (maxR a b) b = true := (covers_iff _ _).2 fun i hi => by rw [rg_max _ _ hi]; omega
theorem cov_min_l : coversR a (minR a b) = true := (covers_iff _ _).2 fun i hi => by rw [rg_min _ _ hi]; omega
theorem cov_min_r : coversR b (minR a b) = true := (covers_iff _ _).2 fun i hi => by rw [rg_min _ _ hi]; omega
theorem cov_refl : coversR a a = true := (covers_iff _ _).2 fun _ _ => Int.le_refl _
theorem cov_of_max : coversR c (maxR a b) = (coversR c a && coversR c b) := by
  rw [Bool.eq_iff_iff, Bool.and_eq_true, covers_iff, covers_iff, covers_iff]
  constructor
  · intro h
    exact ⟨fun i hi => by have := h i hi; rw [rg_max _ _ hi] at this; omega, fun i hi => by have := h i hi; rw [rg_max _ _ hi] at this; omega⟩
  · rintro ⟨h, h'⟩ i hi
    have := h i hi; have := h' i hi
    rw [rg_max _ _ hi]; omega
theorem min_of_cov : coversR (minR a b) c = (coversR a c && coversR b c) := by
  rw [Bool.eq_iff_iff, Bool.and_eq_true, covers_iff, covers_iff, covers_iff]
  constructor
  · intro h
    exact ⟨fun i hi => by have := h i hi; rw [rg_min _ _ hi] at this; omega, fun i hi => by have := h i hi; rw [rg_min _ _ hi] at this; omega⟩
  · rintro ⟨h, h'⟩ i hi
    have := h i hi; have := h' i hi
    rw [rg_min _ _ hi]; omega
theorem cov_trans (h : coversR a b = true) (h' : coversR b c = true) : coversR a c = true := by
  rw [covers_iff] at *
  intro i hi
  have := h i hi; have := h' i hi
  omega
include ha hb in
theorem cov_anti (h : coversR a b = true) (h' : coversR b a = true) : a = b := by
  rw [covers_iff] at *
  exact row_ext ha.len hb.len fun i hi => by have := h i hi; have := h' i hi; omega
theorem max_comm' : maxR a b = maxR b a := row_ext (zipR_len ..) (zipR_len ..) fun i hi => by rw [rg_max _ _ hi, rg_max _ _ hi]; omega
theorem min_comm' : minR a b = minR b a := row_ext (zipR_len ..) (zipR_len ..) fun i hi => by rw [rg_min _ _ hi, rg_min _ _ hi]; omega
theorem max_assoc' : maxR (maxR a b) c = maxR a (maxR b c) := row_ext (zipR_len ..) (zipR_len ..) fun i hi => by simp only [rg_max _ _ hi]; omega
theorem min_assoc' : minR (minR a b) c = minR a (minR b c) := row_ext (zipR_len ..) (zipR_len ..) fun i hi => by simp only [rg_min _ _ hi]; omega
theorem max_min' : maxR (minR a b) c = minR (maxR a c) (maxR b c) := row_ext (zipR_len ..) (zipR_len ..) fun i hi => by simp only [rg_min _ _ hi, rg_max _ _ hi]; omega
theorem min_max' : minR (maxR a b) c = maxR (minR a c) (minR b c) := row_ext (zipR_len ..) (zipR_len ..) fun i hi => by simp only [rg_min _ _ hi, rg_max _ _ hi]; omega
theorem sum_lat (k : Nat) (hk : k ≤ 17) : sumR (maxR a b) k + sumR (minR a b) k = sumR a k + sumR b k := by
  induction k with
  | zero => rfl
  | succ k ih =>
    have := ih (by omega)
    simp only [sumR, rg_max _ _ (show k < 17 by omega), rg_min _ _ (show k < 17 by omega)]
    omega
include ha hb in
theorem cov_same : coversR a b = decide (vec (maxR a b) = vec (maxR a row0)) := by
  rw [covers_max ha.len, Bool.eq_iff_iff, decide_eq_true_iff, decide_eq_true_iff, max_row0 ha]
  exact ⟨fun h => by rw [h], fun h => vec_inj (ha.maxR hb) ha h⟩
end
end Go.Proofs.Ytnlklhlnnoihiaa

namespace Go.Proofs.Ytnlklhlnnoihiaa

theorem take_enc (v : Nat) : ∀ (n acc : Nat) (t : List Int), n + (enc v).length ≤ 9 → (n = 0 ∨ 0 < v) → takeFrom n acc (enc v ++ t) = (0, acc + v * 128 ^ n, n + (enc v).length) := by
  induction v using Nat.strongRecOn with
  | ind v ih =>
    intro n acc t hn h0
    by_cases h : v < 128
    · rw [enc_small h]
      rw [List.singleton_append, take_end (by omega) (by omega)]
      simp
    · rw [enc_big h] at hn ⊢
      have hp := enc_pos (v / 128)
      simp only [List.length_cons] at hn
      rw [List.cons_append, take_more' (by omega) (by omega), ih (v / 128) (by omega) (n + 1) _ t (by omega) (.inr (by omega))]
      have e1 : ((((v % 128 + 128 : Nat) : Int) - 128).toNat) = v % 128 := by omega
      have e2 : v = v % 128 + v / 128 * 128 := by omega
      rw [e1]
      simp only [Prod.mk.injEq, true_and, List.length_cons]
      refine ⟨?_, by omega⟩
      have e3 : v * 128 ^ n = v % 128 * 128 ^ n + v / 128 * 128 ^ (n + 1) := by
        rw [Nat.pow_succ]
        conv => lhs; rw [e2]
        rw [Nat.add_mul, Nat.mul_assoc (v / 128), Nat.mul_comm 128 (128 ^ n)]
      omega
theorem Rd.num {x : Nat} (hx : x ≤ 9223372036854775807) (t : List Int) : (⟨enc x ++ t, 0⟩ : Rd).val = x ∧ (⟨enc x ++ t, 0⟩ : Rd).nx = ⟨t, 0⟩ := by
  have h := take_enc x 0 0 t (by have := enc_len9 x hx; omega) (.inl rfl)
  simp only [Rd.val, Rd.nx, h, if_true]
  simp
/-- the bytes of numbers -/
def encs (m : List Nat) : List Int := m.flatMap enc
theorem encs_cons (x : Nat) (m : List Nat) : encs (x :: m) = enc x ++ encs m := by simp [encs]
theorem takeLoop_encs (V : List Dt) : ∀ (last : Int) (acc : List Dt) (t : List Int), checkFrom last V = 0 → takeLoop V.length last acc ⟨encs (dotNums V) ++ t, 0⟩ = (0, acc ++ V, ⟨t, 0⟩) := by
  induction V with
  | nil => intro last acc t _; simp [takeLoop, dotNums, encs]
  | cons d V ih =>
    intro last acc t hc
    simp only [checkFrom] at hc
    by_cases h1 : siteB d.site = false
    · rw [if_pos h1] at hc; simp at hc
    · rw [if_neg h1] at hc
      by_cases h2 : d.seq < 1 ∨ 2147483647 < d.seq
      · rw [if_pos h2] at hc; simp at hc
      · rw [if_neg h2] at hc
        by_cases h3 : d.site ≤ last
        · rw [if_pos h3] at hc; simp at hc
        · rw [if_neg h3] at hc
          have hs : 1 ≤ d.site ∧ d.site ≤ 16 := by
            have : siteB d.site = true := by simpa using h1
            simpa [siteB] using this
          obtain ⟨site, seq⟩ := d
          simp only at h1 h2 h3 hc hs
          obtain ⟨st, rfl⟩ : ∃ n : Nat, site = n := ⟨site.toNat, by omega⟩
          obtain ⟨sq, rfl⟩ : ∃ n : Nat, seq = n := ⟨seq.toNat, by omega⟩
          have e : encs (dotNums (⟨st, sq⟩ :: V)) ++ t = enc st ++ (enc sq ++ (encs (dotNums V) ++ t)) := by
            simp [dotNums, encs]
          rw [e]
          have n1 := Rd.num (x := st) (by omega) (enc sq ++ (encs (dotNums V) ++ t))
          have n2 := Rd.num (x := sq) (by omega) (encs (dotNums V) ++ t)
          simp only [List.length_cons, takeLoop, n1.1, n1.2, n2.1, n2.2]
          rw [if_neg (by simp), if_neg (by simp only [h1]; simp; omega), if_neg (by simp), if_neg (by omega), ih _ _ _ hc]
          simp
theorem takeV_encs {V : List Dt} (h : checkV V = 0) (hl : V.length ≤ 16) (t : List Int) : takeV ⟨encs (vnums V) ++ t, 0⟩ = (0, V, ⟨t, 0⟩) := by
  have e : encs (vnums V) ++ t = enc V.length ++ (encs (dotNums V) ++ t) := by simp [vnums, encs]
  rw [e]
  have n1 := Rd.num (x := V.length) (by omega) (encs (dotNums V) ++ t)
  simp only [takeV, n1.1, n1.2]
  rw [if_neg (by simp), if_neg (by omega), takeLoop_encs V 0 [] t h]
  simp
theorem vec_len {r : List Int} (h : Row r) : (vec r).length ≤ 16 := by
  have : ∀ k, k ≤ 16 → (vecTo r (k + 1)).length ≤ k := by
    intro k
    induction k with
    | zero => intro _; rw [vecTo_one h]; simp
    | succ k ih =>
      intro hk
      have := ih (by omega)
      unfold vecTo
      split
      · simp; omega
      · omega
  exact this 16 (Nat.le_refl _)
theorem isByte_app {l m : List Int} (h : isByte l) (h' : isByte m) : isByte (l ++ m) := fun b hb => (List.mem_append.1 hb).elim (h b) (h' b)
theorem encs_byte (m : List Nat) : isByte (encs m) := by
  intro b hb
  simp only [encs, List.mem_flatMap] at hb
  obtain ⟨x, _, hb⟩ := hb
  exact enc_byte x b hb
end Go.Proofs.Ytnlklhlnnoihiaa

namespace Go.Proofs.Ytnlklhlnnoihiaa
open Go Go.RowKit

/-- A text's bytes. -/
def tb (s : ByteArray) : List Int := s.data.toList.map fun b => (b.toNat : Int)
theorem tb_len (s : ByteArray) : (tb s).length = s.size := by unfold tb; rw [List.length_map, Array.length_toList]; rfl
theorem tb_byte (s : ByteArray) : isByte (tb s) := fun b hb => by
  obtain ⟨x, _, rfl⟩ := List.mem_map.1 hb
  have := x.toNat_lt
  omega
theorem bys_tb (s : ByteArray) : bys (tb s) = Lib.strCells s := by
  unfold bys tb Lib.strCells
  rw [List.map_map]
  rfl
/-- What lies behind when these bytes are laid. -/
def layB (l : List Int) (e : Int) (m : List Int) : List Int := if e ≠ 0 then l else l ++ m
theorem layB_puts (l : List Int) (e : Int) (m : List Nat) : puts l e m = layB l e (encs m) := rfl
theorem layB_app (l : List Int) (e : Int) (m n : List Int) : layB (layB l e m) e n = layB l e (m ++ n) := by
  unfold layB
  split
  · rfl
  · rw [List.append_assoc]
theorem layB_nil (l : List Int) (e : Int) : layB l e [] = l := by unfold layB; split <;> simp
theorem layB_len (l : List Int) (e : Int) (m : List Int) : (layB l e m).length ≤ l.length + m.length := by
  unfold layB
  split
  · omega
  · rw [List.length_append]; omega
theorem layB_num (l : List Int) (e : Int) (x : Nat) : wrB l e (x : Int) = layB l e (enc x) ∧ wrE e (x : Int) = e := by
  have := puts_num l e [] x
  rw [puts_nil] at this
  refine ⟨?_, this.2⟩
  rw [this.1]
  unfold puts layB
  simp
section
variable {P : Program} {w : World} {t u e : TypeId} {i : TypeInfo} {ops : Array Oper} {rest : List Oper} {o : Oper} {a : Act} {Q : Exit → Act → World → Prop}
/-- Where a text's bytes may lie behind the append. -/
theorem string_goes (base : Nat) (ty : TypeId) (ht : P.underlying t = some (.slice e)) (hu : P.underlying u = some .string) (hi : P.info? e = some i) (hz : i.zero = some (.int .u8 0)) (hsize : i.size = 1) (hby : i.bytes = 1)
    (v : Value) (n : Nat) (xs : List Value) (hown : w.ownsRow base e 1 v n xs) (s : ByteArray) (h63 : n + s.size ≤ maxLen) (hbytes : n + s.size ≤ 140737488355328) (hbase : base ≤ w.heap.size) :
    ∃ v' w', (Builtin.append_ #[t, u] ty #[v, .string s]).run P w = .ok v' w' ∧ w'.ownsRow base e 1 v' (n + s.size) (xs ++ Lib.strCells s) ∧ w.grownBy w' v.ownBlock ∧ Goes w v v' := by
  obtain ⟨v', w', hr, h1, h2, -⟩ := Lib.run_append_own_string (P := P) w base t u ty e i ht hu hi hz hsize hby v n xs hown s h63 hbytes hbase
  refine ⟨v', w', hr, h1, h2, ?_⟩
  have hxl : xs.length = n := by simpa using hown.1
  rcases hown.2 with ⟨rfl, rfl⟩ | ⟨g, cap, cur, rfl, hbg, hg, hnc, hcm, hcs, htake⟩
  · have hx : xs = [] := List.eq_nil_of_length_eq_zero hxl
    subst hx
    obtain ⟨v2, w2, hr2, h21, -, -⟩ := Lib.run_append_own_string (P := P) w w.heap.size t u ty e i ht hu hi hz hsize hby (.slice none 0 0) 0 [] (World.ownsRow_nil _ _ _ _) s h63 hbytes (Nat.le_refl _)
    rw [hr] at hr2
    injection hr2 with hv hw
    subst hv hw
    exact fun k hk => .inr (h21.lt k hk).1
  · by_cases hroom : n + s.size ≤ cap
    · have hcs' : cur.size = cap := by simpa using hcs
      have hr2 := Lib.run_append_room_string (P := P) w t u ty e i ht hu hi hsize g n cap cur hg s hroom (by omega)
      rw [hr] at hr2
      injection hr2 with hv hw
      subst hv
      exact fun k hk => .inl hk
    · have holds : ∀ j u, xs[j]? = some u → w.cell? ((⟨g, 0, none⟩ : Addr).add j) = some u := hown.cells (g := g) rfl
      have hr2 := Lib.run_append_grow_string (P := P) w t u ty e i (.int .u8 0) ht hu hi hz ⟨g, 0, none⟩ n cap xs (by rw [hsize]; simpa using hxl) holds s (by omega) (by simp only [maxLen] at h63; omega) (by rw [hby]; exact growslice_fits (by omega) (by omega))
      rw [hr] at hr2
      injection hr2 with hv hw
      subst hv
      intro k hk
      right
      have hk' : w.heap.size = k := by injection hk
      omega
theorem wpList_append_str (hgd : o.guard = none) (sl x : Operand) (t u : TypeId) (ho : o.op = .call { callee := .builtin .append, args := #[sl, x], argTypes := #[t, u] })
    (base : Nat) (e : TypeId) (i : TypeInfo) (ht : P.underlying t = some (.slice e)) (hu : P.underlying u = some .string) (hi : P.info? e = some i) (hz : i.zero = some (.int .u8 0)) (hsize : i.size = 1) (hby : i.bytes = 1)
    (v : Value) (n : Nat) (xs : List Value) (hs : a.eval sl = v) (hown : w.ownsRow base e 1 v n xs) (s : ByteArray) (hx : a.eval x = .string s)
    (h63 : n + s.size ≤ maxLen) (hbytes : n + s.size ≤ 140737488355328) (hbase : base ≤ w.heap.size)
    (h : ∀ v' w', w'.ownsRow base e 1 v' (n + s.size) (xs ++ Lib.strCells s) → w.grownBy w' v.ownBlock → Goes w v v' → wpList P ops Q rest (a.put o.dst v') w') : wpList P ops Q (o :: rest) a w := by
  refine wpList_plain hgd fun K hK => ?_
  obtain ⟨v', w', hr, h2, h3, h4⟩ := string_goes (P := P) (w := w) base o.type ht hu hi hz hsize hby v n xs hown s h63 hbytes hbase
  unfold Oper.wp execOp
  simp only [ho, resolve, invoke, builtin, Sem.run_bind, Sem.run_pure, Result.andThen_ok, List.map_toArray, List.map_cons, List.map_nil, hs, hx, hr]
  exact hK _ _ (h v' w' h2 h3 h4)
end
theorem WriterAt.lay {wr w1 : World} {base g : Nat} {sv v : Value} {l m : List Int} (h : WriterAt wr base g sv l 0) (hown : w1.ownsRow base 5 1 v (l.length + m.length) (bys l ++ bys m)) (hg : wr.grownBy w1 sv.ownBlock) (hat : Goes wr sv v) :
    WriterAt (w1.setCell ⟨g, 0, none⟩ v) base g v (l ++ m) 0 ∧ Kept (OwnsW g sv) wr (w1.setCell ⟨g, 0, none⟩ v) ∧ MovedW wr sv v := by
  have hne : some g ≠ sv.ownBlock := fun e => own_box_ne h.row h.box (by decide) e.symm
  have hb : Box w1 g 71 #[sv, .int .i64 0] := (hg.block _ h.box.lt hne).trans h.box
  have hvg : v.ownBlock ≠ some g := own_box_ne hown hb (by decide)
  have hk1 : Kept (OwnsW g sv) wr w1 := (Kept.refl _ _).grown hg fun k _ e => .inr e
  have hk : Kept (OwnsW g sv) wr (w1.setCell ⟨g, 0, none⟩ v) := hk1.at 0 v (.inl (.inl rfl))
  refine ⟨⟨?_, ?_, h.base_le⟩, hk, hat⟩
  · have := hb.set 0 v
    simpa using this
  · have h2 : Kept (fun k => k = g) w1 (w1.setCell ⟨g, 0, none⟩ v) := (Kept.refl _ _).at 0 v (.inl rfl)
    have := h2.own hown fun k e hk => hvg (hk ▸ e)
    rw [← bys_app] at this
    rwa [List.length_append]
set_option maxRecDepth 100000 in
set_option maxHeartbeats 1600000 in
theorem WText_any (base g : Nat) (sv : Value) (l : List Int) (e : Int) (s : ByteArray) (w : World) (h : WriterAt w base g sv l e) (hl : l.length ≤ 1000000) (hs : s.size ≤ 1000000) :
    Calls Try.prog 36 #[.pointer (some ⟨g, 0, none⟩), .string s] w (WPost w base g sv (layB l e (enc s.size ++ tb s)) e) := by
  have H := Lib.hid h
  have x1 : w.cell? ⟨g, 1, none⟩ = some (.int .i64 e) := by simpa using h.box.cell 1
  clear h
  by_cases he : e = 0
  · subst he
    have HN := Lib.hid (layB_num l 0 s.size)
    have HA := Lib.hid (layB_app l 0 (enc s.size) (tb s))
    have hel : (enc s.size).length ≤ 9 := enc_len9 _ (by omega)
    obtain ⟨i0, hi, hz0, hz1, hz2⟩ := info_parts info_byte
    go_enter Try.func36, Try.ntmps36
    go_wp2_with (fail)
    refine (Number_any base g sv l 0 s.size w H.out hl (by omega)).mono ?_
    rw [HN.out.1, HN.out.2]
    rintro e w1 ⟨rfl, sv', hw1, hk1, hm1⟩
    have HW := Lib.hid hw1
    have HK := Lib.hid hk1
    have HM := Lib.hid hm1
    obtain ⟨A', c', rfl⟩ := hw1.form
    have hll := layB_len l 0 (enc s.size)
    have x0 : w1.cell? ⟨g, 0, none⟩ = some (.slice A' (layB l 0 (enc s.size)).length c') := by simpa using hw1.box.cell 0
    clear hw1 hk1 hm1 x1
    go_wp2_with (at_builtin; refine Hid.out ?_)
    refine Lib.hid ?_
    refine wpList_append_str rfl _ _ 41 9 rfl base 5 i0 Try.underlying41 Try.underlying9 hi hz0 hz1 hz2 _ _ (bys (layB l 0 (enc s.size))) rfl HW.out.row s rfl (by unfold maxLen; omega) (by omega) (by have := HW.out.base_le; have := HW.out.box.lt; omega) ?_
    intro v' w2 hown2 hg2 hgo2
    have hown2' : w2.ownsRow base 5 1 v' ((layB l 0 (enc s.size)).length + (tb s).length) (bys (layB l 0 (enc s.size)) ++ bys (tb s)) := by rw [tb_len, bys_tb]; exact hown2
    have HL := Lib.hid (HW.out.lay hown2' hg2 hgo2)
    have hne : some g ≠ (Value.slice A' (layB l 0 (enc s.size)).length c').ownBlock := fun e => own_box_ne HW.out.row HW.out.box (by decide) e.symm
    have hb2 : Box w2 g 71 #[.slice A' (layB l 0 (enc s.size)).length c', .int .i64 0] := (hg2.block _ HW.out.box.lt hne).trans HW.out.box
    obtain ⟨A2, c2, rfl⟩ : ∃ A2 c2, v' = .slice A2 ((layB l 0 (enc s.size)).length + s.size) c2 := own_form hown2
    have f0 : w2.frozen? ⟨g, 0, none⟩ = false := hb2.frozen 0
    have y0 : w2.cell? ⟨g, 0, none⟩ = some (.slice A' (layB l 0 (enc s.size)).length c') := by simpa using hb2.cell 0
    clear hown2 hown2' hg2 hgo2 hne hb2 x0
    go_wp2
    go_end0
    rw [← HA.out]
    exact ⟨rfl, _, HL.out.1, HK.out.trans HL.out.2.1 HM.out.owns, HM.out.trans HL.out.2.2 HK.out.size⟩
  · have HE := Lib.hid he
    have hne : (e != 0) = true := bne_iff_ne.2 he
    go_enter Try.func36, Try.ntmps36
    go_wp2_with (fail)
    go_end0
    unfold layB
    rw [if_pos HE.out]
    exact WPost.same rfl H.out (Kept.refl _ _)
end Go.Proofs.Ytnlklhlnnoihiaa
