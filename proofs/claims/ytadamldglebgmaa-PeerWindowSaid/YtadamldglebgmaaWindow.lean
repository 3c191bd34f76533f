/- The walk of the law PeerWindow: it returns true, whatever the two numbers and the script. Conditions: the script lies in memory as StepsAt says. -/
import Derived.Test.YtadamldglebgmaaNothing
namespace Go.Proofs.Ytadamldglebgmaa
open Go.RowKit

/-- What a round of PeerWindow's loop finds: the Peer keeps s, and the greatest number that it gave is the last. -/
def WinAt (w : World) (window push : Int) (k : Nat) (s : St) (wr : World) : Prop :=
  s.last ≤ k ∧ s.window = window ∧ s.push = push ∧ Good s ∧ Kept (fun _ => False) w wr ∧ ∃ fv, PeerAt wr w.heap.size 39 w.heap.size fv s

theorem step_cells {w : World} {g : Nat} {X : Stp} (h : Box w g 31 #[.int .i64 X.kind, .int .i64 X.num, .int .i64 X.got, .int .i64 X.credit]) :
    w.cell? ⟨g, 0, none⟩ = some (.int .i64 X.kind) ∧ w.cell? ⟨g, 1, none⟩ = some (.int .i64 X.num) ∧ w.cell? ⟨g, 2, none⟩ = some (.int .i64 X.got) ∧ w.cell? ⟨g, 3, none⟩ = some (.int .i64 X.credit) :=
  ⟨by simpa using h.cell 0, by simpa using h.cell 1, by simpa using h.cell 2, by simpa using h.cell 3⟩
theorem seq_apart {w w' : World} {A : Option Addr} {xs : List Int} {S : Nat → Prop} (h : Seq w A xs) (hk : Kept S w w') (hA : ∀ a, A = some a → ¬ S a.block) : Seq w' A xs := h.kept hk hA
theorem send_zero (s : St) (n : Int) (h : s.sends n = false) : s.sendNum n = 0 ∧ s.sendCount n = 0 ∧ s.sent n = s := by simp [St.sendNum, St.sendCount, St.sent, h]
/-- what a Send answers, as numbers -/
theorem count_facts {s : St} (hp : 1 ≤ s.push) (n : Int) (h : s.sends n = true) : ∃ mc : Int, (if s.credit < 1 then 1 else s.credit) = mc ∧
    s.sendCount n = s.count n ∧ 1 ≤ s.count n ∧ s.count n ≤ n ∧ s.count n ≤ s.push ∧ s.count n ≤ mc ∧ (s.push ≤ s.count n ∨ n ≤ s.count n ∨ s.count n = mc) := by
  have h1 : 1 ≤ n ∧ s.window ≠ 0 := by simpa [St.sends] using h
  refine ⟨_, rfl, by simp [St.sendCount, h], ?_⟩
  unfold St.count
  split <;> omega
theorem num_facts {s : St} (hg : Good s) (hl : s.last < 2147483647) (n : Int) (h : s.sends n = true) : s.sendNum n = s.num ∧ (s.sent n).window = s.window ∧ (s.sent n).push = s.push ∧
    ((s.num ∈ s.fl ∧ (∃ h0 : 0 < s.fl.length, s.fl[0] = s.num) ∧ s.window ≤ (s.fl.length : Int) ∧ s.num ≤ s.last ∧ s.sent n = s) ∨
     (s.num = s.last + 1 ∧ s.num ∉ s.fl ∧ (s.fl.length : Int) < s.window ∧ (s.sent n).last = s.num ∧ (s.sent n).fl = s.fl ++ [s.num])) := by
  have h1 : 1 ≤ n ∧ s.window ≠ 0 := by simpa [St.sends] using h
  have hw0 := hg.w0
  refine ⟨by simp [St.sendNum, h], by unfold St.sent; split <;> (try split) <;> rfl, by unfold St.sent; split <;> (try split) <;> rfl, ?_⟩
  cases hf : s.full with
  | true =>
    have hfull := bool_of_full hf
    have hpos : 0 < s.fl.length := by omega
    have hnum : s.fl[0] = s.num := by simp [St.num, hf, List.head?_eq_getElem?, hpos]
    refine .inl ⟨hnum ▸ List.getElem_mem hpos, ⟨hpos, hnum⟩, hfull, ?_, by simp [St.sent, h, hf]⟩
    rw [← hnum]
    exact (hg.in_ _ (List.getElem_mem hpos)).2
  | false =>
    have hroom : (s.fl.length : Int) < s.window := by simpa [St.full] using hf
    have hnum : s.num = s.last + 1 := by simp [St.num, hf, St.next, hl]
    have hnx : s.next = s.num := by simp [St.num, hf]
    have hni : s.num ∉ s.fl := fun hm => by have := (hg.in_ _ hm).2; omega
    exact .inr ⟨hnum, hni, hroom, by simp [St.sent, h, hf, hnx], by simp [St.sent, h, hf, hnx, hni]⟩

theorem among_is (A : Option Addr) (xs : List Int) (c : Nat) (n : Int) (b : Bool) (w : World) (ha : Seq w A xs) (hx : xs.length ≤ 4611686018427387904) (hb : decide (n ∈ xs) = b) :
    Calls Try.prog 20 #[.slice A xs.length c, .int .i64 n] w fun e w' => e = .returned (.bool b) ∧ w = w' := by
  subst hb
  exact (among_any A xs c n w ha hx).mono fun _ _ ⟨he, hw⟩ => ⟨he, hw.symm⟩

theorem among_b (A : Option Addr) (xs : List Int) (c : Nat) (n : Int) (b : Bool) (w : World) (ha : Seq w A xs) (hx : xs.length ≤ 4611686018427387904) (hb : decide (n ∈ xs) = b) :
    Calls Try.prog 20 #[.slice A xs.length c, .int .i64 n] w fun e w' => e = .returned (.bool b) ∧ w' = w := by
  subst hb
  exact among_any A xs c n w ha hx
theorem heard_mem (s : St) (num got credit x : Int) (hx : x ∈ s.fl) : decide (x ∈ (s.heard num got credit).fl) = decide (got < x) := by
  have : (s.heard num got credit).fl = s.fl.filter (got < ·) := rfl
  rw [this, Bool.eq_iff_iff, decide_eq_true_iff, decide_eq_true_iff, List.mem_filter]
  simp [hx]
theorem heard_twice (s : St) (num got credit : Int) : ((s.heard num got credit).heard num got credit).fl = (s.heard num got credit).fl ∧ (s.heard num got credit).heardSome got = false := by
  have e : (s.heard num got credit).fl = s.fl.filter (got < ·) := rfl
  have e2 : ((s.heard num got credit).fl.filter (got < ·)) = (s.heard num got credit).fl := by rw [e, List.filter_filter]; simp
  refine ⟨e2, ?_⟩
  unfold St.heardSome
  rw [e2]
  simp

set_option maxRecDepth 100000 in
set_option maxHeartbeats 12800000 in
theorem Window_walk (window push : Int) (A : Option Addr) (l : List Stp) (c : Nat) (w : World) (hl : StepsAt w A l) :
    Calls Try.prog 7 #[.int .i64 window, .int .i64 push, .slice A l.length c] w (TrueNew w) := by
  by_cases h500 : 500 < l.length
  · have h500' : (500 : Int) < (l.length : Int) := by omega
    clear h500
    go_enter Try.func7, Try.ntmps7
    go_wp2_with (fail)
    refine (known_any _).mono ?_
    rintro e w1 ⟨rfl, hk⟩
    have HK := Lib.hid hk
    clear hk
    go_wp2
    go_ret
    exact ⟨rfl, HK.out⟩
  cases hok : okNew window push with
  | false =>
    have HOK := Lib.hid hok
    clear hok
    go_enter Try.func7, Try.ntmps7
    go_wp2_with (fail)
    refine (New_no window push _ HOK.out).mono ?_
    rintro e w1 ⟨rfl, rfl⟩
    go_wp2_with (fail)
    refine (known_any _).mono ?_
    rintro e w1 ⟨rfl, hk⟩
    have HK := Lib.hid hk
    clear hk
    go_wp2
    go_ret
    exact ⟨rfl, HK.out⟩
  | true =>
    have HOK := Lib.hid hok
    have hwp : 1 ≤ window ∧ window ≤ 64 ∧ 1 ≤ push ∧ push ≤ 256 := by simpa [okNew] using hok
    obtain ⟨hw1, hw2, hp1, hp2⟩ := hwp
    have hk0 : Kept (fun _ => False) w (w.alloc (.cells ((St.new window push).cells (.slice none 0 0)) 39)) := (Kept.refl _ _).alloc _
    have hd0 := PeerAt.new w w.heap.size (Nat.le_refl _) 39 (St.new window push) rfl
    have hA0 : WinAt w window push 0 (St.new window push) (w.alloc (.cells ((St.new window push).cells (.slice none 0 0)) 39)) := ⟨by simp [St.new], rfl, rfl, Good.new hok, hk0, _, hd0⟩
    have HD0 := Lib.hid hA0
    have HL := Lib.hid hl
    clear hok hd0 hk0 hA0 hl
    go_enter Try.func7, Try.ntmps7
    go_wp2_with (fail)
    refine (New_yes window push _ HOK.out).mono ?_
    rintro e w1 ⟨rfl, rfl⟩
    go_wp2_with (fail)
    generalize w.alloc (.cells ((St.new window push).cells (.slice none 0 0)) 39) = w0 at HD0 ⊢
    go_loopw [9, 10] (fun g i wr => ∃ (k : Nat) (s : St), i = .int .i64 (k : Nat) ∧ k ≤ l.length ∧ g = .int .i64 s.last ∧ WinAt w window push k s wr) (fun _ i _ => l.length - (intOf i).toNat)
    case atStart => exact ⟨0, _, rfl, Nat.zero_le _, rfl, HD0.out⟩
    case round =>
      obtain ⟨k, s, rfl, hk, rfl, hsl, hsw, hsp, hgood, hkw, fv, hp⟩ := hrel
      have HP := Lib.hid hp
      have HKW := Lib.hid hkw
      have HG := Lib.hid hgood
      have HSW := Lib.hid hsw
      have HSP := Lib.hid hsp
      have hs0 := hgood.l0
      have hfl : s.fl.length ≤ 64 := by have := hgood.len; have := hgood.w1; omega
      by_cases hlt : k < l.length
      · obtain ⟨ad, rfl, x0, x1, x2, x3⟩ := HL.out.fresh hkw k hlt
        obtain ⟨X, hX⟩ : ∃ X, X = l[k] := ⟨_, rfl⟩
        rw [← hX] at x0 x1 x2 x3
        clear hX
        have hXb := Box.new wr 31 #[.int .i64 X.kind, .int .i64 X.num, .int .i64 X.got, .int .i64 X.credit]
        have hkX : Kept (fun _ => False) wr (wr.alloc (.cells #[.int .i64 X.kind, .int .i64 X.num, .int .i64 X.got, .int .i64 X.credit] 31)) := (Kept.refl _ _).alloc _
        have hgX : ∀ j, OwnsB w.heap.size fv j → j ≠ wr.heap.size := fun j hj e => by have := (hp.own_lt j hj).2; omega
        have HGX := Lib.hid hgX
        have HBX := Lib.hid hXb
        have HKX := Lib.hid hkX
        clear hp hkw hXb hkX hgX hgood hsw hsp
        go_wp2_with (fail)
        generalize wr.alloc (.cells #[.int .i64 X.kind, .int .i64 X.num, .int .i64 X.got, .int .i64 X.credit] 31) = W at HBX HKX ⊢
        clear x0 x1 x2 x3
        have HP' := Lib.hid (HP.out.kept HKX.out fun _ _ => id)
        have HKW' := Lib.hid (HKW.out.trans HKX.out fun _ _ e => e)
        refine (Flight_any w.heap.size w.heap.size fv s _ HP'.out HG.out).mono ?_
        rintro e w2 hf
        obtain ⟨A1, c1, rfl, ho2, hk2, hs2, hb2⟩ := hf.form
        have HP2 := Lib.hid (HP'.out.kept hk2 fun _ _ => id)
        have HKW2 := Lib.hid (HKW'.out.trans hk2 fun _ _ e => e)
        have HBX2 := Lib.hid (HBX.out.kept hk2 fun h => h)
        have HS2 := Lib.hid hs2
        have hbx0 : w2.cell? ⟨wr.heap.size, 0, none⟩ = some (.int .i64 X.kind) := by simpa using HBX2.out.cell 0
        clear hf ho2 hk2 hs2
        go_wp2_with (fail)
        refine (Credit_any w.heap.size w.heap.size fv s _ HP2.out).mono ?_
        rintro e w3 ⟨rfl, rfl⟩
        go_upto_block 2 with (fail)
        have HX := Lib.hid fun (S : Nat → Prop) (w1 : World) (hk : Kept S w2 w1) (hs : ¬ S wr.heap.size) => step_cells (HBX2.out.kept hk hs)
        go_cut [9] (fun g wx => ∃ s', g = .int .i64 s'.last ∧ WinAt w window push (k + 1) s' wx)
        case first => as_aux_lemma =>
          by_cases k1 : X.kind = 1
          · as_aux_lemma =>
              have b1 : (X.kind == 1) = true := beq_iff_eq.2 k1
              clear k1
              obtain ⟨x0, x1, x2, x3⟩ := HX.out _ w2 (Kept.refl (fun _ => False) w2) fun h => h
              go_wp2_with (fail)
              refine (Send_any w.heap.size w.heap.size fv s X.num _ HP2.out HG.out HKW2.out.size).mono ?_
              rintro e w3 ⟨rfl, fv3, hp3, hk3, hm3⟩
              obtain ⟨y0, y1, y2, y3⟩ := HX.out _ w3 hk3 fun h => HGX.out _ h rfl
              have HP3 := Lib.hid hp3
              have HK3 := Lib.hid (HKW2.out.trans hk3 fun j hlt e => by have := (HP2.out.own_lt j e).1; omega)
              have HS3 := Lib.hid (seq_apart (S := OwnsB w.heap.size fv) HS2.out hk3 fun a ha e => by
                have := (HP'.out.own_lt _ e).2
                have := hb2 a ha
                omega)
              clear hp3 hk3 hm3 x0 x1 x2 x3 HBX2 HX HP2 HP' HP HGX HBX hbx0 HS2
              cases hn : s.sends X.num with
              | false => as_aux_lemma =>
                have hz := send_zero s X.num hn
                have hlt1 : X.num < 1 := by
                  have := HG.out; have := HSW.out
                  simp [St.sends] at hn
                  by_cases h : X.num < 1
                  · exact h
                  · exact absurd (hn (by omega)) (by omega)
                rw [hz.1, hz.2.1]
                rw [hz.2.2] at HP3
                clear hn hz
                go_wp2_with (fail)
                refine (Flight_any w.heap.size w.heap.size fv3 s _ HP3.out HG.out).mono ?_
                rintro e w4 hf
                obtain ⟨A4, c4, rfl, ho4, hk4, hs4, hb4⟩ := hf.form
                have HP4 := Lib.hid (HP3.out.kept hk4 fun _ _ => id)
                have HK4 := Lib.hid (HK3.out.trans hk4 fun _ _ e => e)
                have HS34 := Lib.hid (HS3.out.kept hk4 fun _ _ => id)
                have HS4 := Lib.hid hs4
                clear hf ho4 hk4 hs4 hb4
                go_wp2_with (fail)
                refine (ints_same A4 A1 _ c4 c1 _ HS4.out HS34.out (by omega)).mono ?_
                rintro e w5 ⟨rfl, n5, rfl⟩
                go_wp2
                go_roundw
                case rel => exact ⟨k + 1, s, by go_num, by omega, rfl, by omega, HSW.out, HSP.out, HG.out, HK4.out.drewN n5, fv3, HP4.out.drewN n5⟩
                case measure => simp [intOf]; omega
              | true => as_aux_lemma =>
                obtain ⟨mc, em, hcnt, hc1, hc2, hc3, hc4, hc5⟩ := count_facts (s := s) (by have := HSP.out; omega) X.num hn
                obtain ⟨hnum, hwin, hpu, hnf⟩ := num_facts HG.out (by omega) X.num hn
                have HW := Lib.hid hwin
                have HU := Lib.hid hpu
                have HNF := Lib.hid hnf
                have HC5 := Lib.hid hc5
                have HGS := Lib.hid (HG.out.sent X.num)
                have hx1 : 1 ≤ X.num := by omega
                rw [hcnt, hnum]
                rw [HSP.out] at hc3 HC5
                generalize s.count X.num = cnt at hc1 hc2 hc3 hc4 HC5 ⊢
                generalize hnn : s.num = num at HNF ⊢
                clear hnum hwin hpu hnf hcnt hc5 hn hnn
                have d1 : decide (cnt < 1) = false := decide_eq_false (by omega)
                have d2 : decide (X.num < cnt) = false := decide_eq_false (by omega)
                have d3 : decide (push < cnt) = false := decide_eq_false (by omega)
                have d4 : decide (mc < cnt) = false := decide_eq_false (by omega)
                go_upto_region 19 with (fail)
                go_cut [110] (fun t wx => t = .bool false ∧ w3 = wx)
                case first =>
                  have h5 : (decide (cnt < push) = false) ∨ (decide (cnt < push) = true ∧ decide (cnt < X.num) = false) ∨ (decide (cnt < push) = true ∧ decide (cnt < X.num) = true ∧ (cnt != mc) = false) := by
                    by_cases h1 : cnt < push
                    · by_cases h2 : cnt < X.num
                      · exact .inr (.inr ⟨decide_eq_true h1, decide_eq_true h2, by have := HC5.out; simp; omega⟩)
                      · exact .inr (.inl ⟨decide_eq_true h1, decide_eq_false h2⟩)
                    · exact .inl (decide_eq_false h1)
                  rcases h5 with h5 | ⟨h5, h6⟩ | ⟨h5, h6, h7⟩
                  all_goals
                    go_wp2
                    go_meet
                    case rel => exact ⟨rfl, rfl⟩
                case rest => as_aux_lemma =>
                  obtain ⟨rfl, rfl⟩ := hcut
                  clear em hc1 hc2 hc3 hc4 d1 d2 d3 d4 y0 y1 y2 y3
                  rcases HNF.out with ⟨hmem, ⟨h0, hfirst⟩, hwl, hle, hsame⟩ | ⟨hnum', hni, hfull, hlast, hfl'⟩
                  · have HMM := Lib.hid hmem
                    have HSA := Lib.hid hsame
                    obtain ⟨a1, rfl, z0⟩ := HS3.out 0 h0
                    rw [hfirst, show a1.add 0 = a1 from if_pos rfl] at z0
                    have e1 : decide ((s.fl.length : Int) < window) = false := decide_eq_false (by rw [← HSW.out]; omega)
                    have e2 : (num != num) = false := by simp
                    have e3 : (if s.last < num then num else s.last) = s.last := if_neg (by omega)
                    have i0 : (0 : Int) < (s.fl.length : Int) := by omega
                    clear hmem hfirst hwl hsame
                    go_wp2_with (fail)
                    refine (among_is (some a1) _ c1 num true _ HS3.out (by omega) (decide_eq_true HMM.out)).mono ?_
                    rintro e w5 ⟨rfl, rfl⟩
                    go_wp2_with (fail)
                    refine (among_is (some a1) _ c1 num true _ HS3.out (by omega) (decide_eq_true HMM.out)).mono ?_
                    rintro e w5 ⟨rfl, rfl⟩
                    rw [HSA.out] at HP3
                    go_wp2_with (fail)
                    refine (Flight_any w.heap.size w.heap.size fv3 s _ HP3.out HG.out).mono ?_
                    rintro e w6 hf
                    obtain ⟨A6, c6, rfl, ho6, hk6, hs6, hb6⟩ := hf.form
                    have HP6 := Lib.hid (HP3.out.kept hk6 fun _ _ => id)
                    have HK6 := Lib.hid (HK3.out.trans hk6 fun _ _ e => e)
                    have HS6 := Lib.hid hs6
                    clear hf ho6 hk6 hs6 hb6 z0
                    go_wp2_with (fail)
                    refine (among_is A6 _ c6 num true _ HS6.out (by omega) (decide_eq_true HMM.out)).mono ?_
                    rintro e w7 ⟨rfl, rfl⟩
                    go_wp2
                    go_meet
                    case rel => exact ⟨s, rfl, by omega, HSW.out, HSP.out, HG.out, HK6.out, fv3, HP6.out⟩
                  · have HNI := Lib.hid hni
                    have HLS := Lib.hid hlast
                    have HFL := Lib.hid hfl'
                    have e2 : (num != s.last + 1) = false := by simp [hnum']
                    have e3 : (if s.last < num then num else s.last) = num := if_pos (by omega)
                    have hb1 : s.last + 1 ≤ 501 := by omega
                    have HNN := Lib.hid hnum'
                    have hfs : (s.sent X.num).fl.length ≤ 65 := by rw [hfl']; simp; omega
                    clear hni hlast hfl' hfull hnum'
                    go_wp2_with (fail)
                    refine (among_is A1 _ c1 num false _ HS3.out (by omega) (decide_eq_false HNI.out)).mono ?_
                    rintro e w5 ⟨rfl, rfl⟩
                    go_wp2_with (fail)
                    refine (among_is A1 _ c1 num false _ HS3.out (by omega) (decide_eq_false HNI.out)).mono ?_
                    rintro e w5 ⟨rfl, rfl⟩
                    go_wp2_with (fail)
                    refine (Flight_any w.heap.size w.heap.size fv3 _ _ HP3.out HGS.out).mono ?_
                    rintro e w6 hf
                    obtain ⟨A6, c6, rfl, ho6, hk6, hs6, hb6⟩ := hf.form
                    have HP6 := Lib.hid (HP3.out.kept hk6 fun _ _ => id)
                    have HK6 := Lib.hid (HK3.out.trans hk6 fun _ _ e => e)
                    have HS6 := Lib.hid hs6
                    clear hf ho6 hk6 hs6 hb6
                    go_wp2_with (fail)
                    refine (among_is A6 _ c6 num true _ HS6.out (by omega) (decide_eq_true (by rw [HFL.out]; simp))).mono ?_
                    rintro e w7 ⟨rfl, rfl⟩
                    go_wp2
                    go_meet
                    case rel => exact ⟨s.sent X.num, by rw [HLS.out], by rw [HLS.out, HNN.out]; omega, HW.out.trans HSW.out, HU.out.trans HSP.out, HGS.out, HK6.out, fv3, HP6.out⟩
          · have b1 : (X.kind == 1) = false := beq_eq_false_iff_ne.2 k1
            clear k1
            by_cases k2 : X.kind = 2
            · as_aux_lemma =>
                have b2 : (X.kind == 2) = true := beq_iff_eq.2 k2
                clear k2
                obtain ⟨x0, x1, x2, x3⟩ := HX.out _ w2 (Kept.refl (fun _ => False) w2) fun h => h
                go_wp2_with (fail)
                refine (Heard_any w.heap.size w.heap.size fv s X.num X.got X.credit _ HP2.out HG.out).mono ?_
                rintro e w3 ⟨rfl, fv3, hp3, hk3, hm3⟩
                have HP3 := Lib.hid hp3
                have HK3 := Lib.hid (HKW2.out.trans hk3 fun j hlt e => by have := (HP2.out.own_lt j e).1; omega)
                have HBX3 := Lib.hid (HBX2.out.kept hk3 fun h => HGX.out _ h rfl)
                have HS3 := Lib.hid (seq_apart (S := OwnsB w.heap.size fv) HS2.out hk3 fun a ha e => by
                  have := (HP'.out.own_lt _ e).2
                  have := hb2 a ha
                  omega)
                have HM := Lib.hid (fun x (hx : x ∈ s.fl) => heard_mem s X.num X.got X.credit x hx)
                obtain ⟨ht1, ht2⟩ := heard_twice s X.num X.got X.credit
                have hsome : s.heardSome X.got = decide ((s.heard X.num X.got X.credit).fl.length < s.fl.length) := rfl
                have HSM := Lib.hid hsome
                have hg1 := HG.out.heard X.num X.got X.credit
                have hlast : (s.heard X.num X.got X.credit).last = s.last := rfl
                have HWI := Lib.hid (show (s.heard X.num X.got X.credit).window = window ∧ (s.heard X.num X.got X.credit).push = push from ⟨HSW.out, HSP.out⟩)
                clear hp3 hk3 hm3 x0 x1 x2 x3 hsome HBX2 HX HP2 HP' HP HGX HBX hbx0 HS2
                generalize s.heard X.num X.got X.credit = s1 at HP3 HM ht1 ht2 HSM hg1 hlast HWI ⊢
                have HG1 := Lib.hid hg1
                have HG2 := Lib.hid (hg1.heard X.num X.got X.credit)
                have HT1 := Lib.hid ht1
                have HT2 := Lib.hid ht2
                have HLA := Lib.hid hlast
                have hfl1 : s1.fl.length ≤ 64 := by have := hg1.len; have := hg1.w1; omega
                have HWI2 := Lib.hid (show (s1.heard X.num X.got X.credit).window = window ∧ (s1.heard X.num X.got X.credit).push = push ∧ (s1.heard X.num X.got X.credit).last = s.last from ⟨HWI.out.1, HWI.out.2, hlast⟩)
                rw [HSM.out]
                clear hg1 ht1 ht2 hlast
                go_wp2_with (fail)
                refine (Flight_any w.heap.size w.heap.size fv3 s1 _ HP3.out HG1.out).mono ?_
                rintro e w4 hf
                obtain ⟨A4, c4, rfl, ho4, hk4, hs4, hb4⟩ := hf.form
                have HB4 := Lib.hid hb4
                have HR4 := Lib.hid (show PeerAt w4 w.heap.size 39 w.heap.size fv3 s1 ∧ Kept (fun _ => False) w w4 ∧ Seq w4 A1 s.fl ∧ Seq w4 A4 s1.fl ∧ Box w4 wr.heap.size 31 #[.int .i64 X.kind, .int .i64 X.num, .int .i64 X.got, .int .i64 X.credit] from
                  ⟨HP3.out.kept hk4 fun _ _ => id, HK3.out.trans hk4 fun _ _ e => e, HS3.out.kept hk4 fun _ _ => id, hs4, HBX3.out.kept hk4 id⟩)
                have HFP := Lib.hid (show ∀ k, OwnsB w.heap.size fv3 k → ∀ a, A4 = some a → a.block ≠ k from fun k hk a ha e => by
                  have h1 := (HP3.out.own_lt k hk).2
                  have h2 := hb4 a ha
                  omega)
                clear hf ho4 hk4 hs4 hb4 HP3 HK3 HS3 HBX3
                go_wp2_with (fail)
                obtain ⟨wo, rfl⟩ : ∃ wo : World, wo = wr := ⟨_, rfl⟩
                go_loopw [18] (fun i wj => ∃ j : Nat, i = .int .i64 j ∧ j ≤ s.fl.length ∧ PeerAt wj w.heap.size 39 w.heap.size fv3 s1 ∧ Kept (fun _ => False) w wj ∧ Seq wj A1 s.fl ∧ Seq wj A4 s1.fl ∧ Box wj wo.heap.size 31 #[.int .i64 X.kind, .int .i64 X.num, .int .i64 X.got, .int .i64 X.credit]) (fun i _ => s.fl.length - (intOf i).toNat)
                case atStart => exact ⟨0, rfl, Nat.zero_le _, HR4.out⟩
                case round =>
                  clear HR4
                  obtain ⟨j, rfl, hj, hrr⟩ := hrel
                  have HRR := Lib.hid hrr
                  obtain ⟨-, -, hs1, hs4, hbx⟩ := hrr
                  obtain ⟨z0, z1, z2, z3⟩ := step_cells hbx
                  have HS4 := Lib.hid hs4
                  clear hbx hs4
                  by_cases hjl : j < s.fl.length
                  · obtain ⟨a1, rfl, y0⟩ := hs1 j hjl
                    have hmm := HM.out _ (List.getElem_mem hjl)
                    generalize s.fl[j] = x at y0 hmm
                    obtain ⟨q, hq⟩ : ∃ q, decide (X.got < x) = q := ⟨_, rfl⟩
                    rw [hq] at hmm
                    have HMM := Lib.hid hmm
                    have i2 : (j : Int) < (s.fl.length : Int) := by omega
                    clear hs1 hmm z0 z1 z3
                    go_wp2_with (fail)
                    go_quiet ((go_at_call 20; exact Calls.quiet_of_same (among_b A4 _ c4 x q _ (HS4.out.drewN _) (by omega) HMM.out)))
                    go_wp2
                    go_roundw
                    case rel => exact ⟨j + 1, by go_num, by omega, HRR.out.1.drewN nq, HRR.out.2.1.drewN nq, HRR.out.2.2.1.drewN nq, HRR.out.2.2.2.1.drewN nq, HRR.out.2.2.2.2.drewN nq⟩
                    case measure => simp [intOf]; omega
                  · obtain rfl : j = s.fl.length := by omega
                    clear hs1
                    go_wp2_with (fail)
                    refine (Heard_any w.heap.size w.heap.size fv3 s1 X.num X.got X.credit _ HRR.out.1 HG1.out).mono ?_
                    rintro e w6 ⟨he6, fv6, hp6, hk6, hm6⟩
                    rw [HT2.out] at he6
                    subst he6
                    have HP6 := Lib.hid hp6
                    have HK6 := Lib.hid (HRR.out.2.1.trans hk6 fun j hlt e => by have := (HRR.out.1.own_lt j e).1; omega)
                    have HS6 := Lib.hid (seq_apart (S := OwnsB w.heap.size fv3) HS4.out hk6 fun a ha e => HFP.out _ e a ha rfl)
                    clear hp6 hk6 hm6
                    generalize s1.heard X.num X.got X.credit = s2 at HP6 HT1 HG2 HWI2
                    go_wp2_with (fail)
                    refine (Flight_any w.heap.size w.heap.size fv6 s2 _ HP6.out HG2.out).mono ?_
                    rw [HT1.out]
                    rintro e w7 hf
                    obtain ⟨A7, c7, rfl, ho7, hk7, hs7, hb7⟩ := hf.form
                    have HP7 := Lib.hid (HP6.out.kept hk7 fun _ _ => id)
                    have HK7 := Lib.hid (HK6.out.trans hk7 fun _ _ e => e)
                    have HS7 := Lib.hid hs7
                    have HS47 := Lib.hid (HS6.out.kept hk7 fun _ _ => id)
                    clear hf ho7 hk7 hs7 hb7
                    go_wp2_with (fail)
                    refine (ints_same A7 A4 _ c7 c4 _ HS7.out HS47.out (by omega)).mono ?_
                    rintro e w8 ⟨rfl, n8, rfl⟩
                    go_wp2
                    go_meet
                    case rel => exact ⟨s2, by rw [HWI2.out.2.2], by have := HWI2.out.2.2; omega, HWI2.out.1, HWI2.out.2.1, HG2.out, HK7.out.drewN n8, fv6, HP7.out.drewN n8⟩
            · have b2 : (X.kind == 2) = false := beq_eq_false_iff_ne.2 k2
              clear k2
              by_cases k3 : X.kind = 3
              · have b3 : (X.kind == 3) = true := beq_iff_eq.2 k3
                clear k3
                go_wp2_with (fail)
                refine (Clear_any w.heap.size w.heap.size fv s _ HP2.out).mono ?_
                rintro e w3 ⟨rfl, hp3, hk3⟩
                have HK3 := Lib.hid (HKW2.out.trans hk3 fun j hlt e => by omega)
                have HP3 := Lib.hid hp3
                clear hp3 hk3 hbx0
                go_wp2_with (fail)
                refine (Flight_any w.heap.size w.heap.size _ s.clear _ HP3.out HG.out.clear).mono ?_
                rintro e w4 hf
                obtain ⟨A4, c4, rfl, ho4, hk4, hs4, hb4⟩ := hf.form
                have HP4 := Lib.hid (HP3.out.kept hk4 fun _ _ => id)
                have HK4 := Lib.hid (HK3.out.trans hk4 fun _ _ e => e)
                have hl0 : s.clear.fl.length = 0 := rfl
                clear hf ho4 hk4 hs4 hb4
                go_wp2
                go_meet
                case rel => exact ⟨s.clear, rfl, by show s.last ≤ _; omega, HSW.out, HSP.out, HG.out.clear, HK4.out, _, HP4.out⟩
              · have b3 : (X.kind == 3) = false := beq_eq_false_iff_ne.2 k3
                clear k3
                go_wp2
                go_meet
                case rel => exact ⟨s, rfl, by omega, HSW.out, HSP.out, HG.out, HKW2.out, _, HP2.out⟩
        case rest => as_aux_lemma =>
          obtain ⟨s', rfl, hsl', hsw', hsp', hg', hkw', fv', hp'⟩ := hcut
          obtain ⟨wq, rfl⟩ : ∃ wq : World, wq = wc := ⟨_, rfl⟩
          have HP5 := Lib.hid hp'
          have HK5 := Lib.hid hkw'
          have HG5 := Lib.hid hg'
          have HSW5 := Lib.hid hsw'
          have HSP5 := Lib.hid hsp'
          have hc0 := hg'.c0
          have hc1 := hg'.c1
          have hll := hg'.len
          rw [hsw'] at hll
          have hl1 := hg'.l1
          have hl0 := hg'.l0
          have hRise := hg'.rise
          have HRI := Lib.hid hRise
          have HIN := Lib.hid hg'.in_
          clear hp' hkw' hg' hsw' hsp' hRise hbx0 HX HBX2 HBX HGX HS2 HP2 HP' HP
          go_wp2_with (fail)
          refine (Flight_any w.heap.size w.heap.size fv' s' _ HP5.out HG5.out).mono ?_
          rintro e w6 hf
          obtain ⟨A6, c6, rfl, ho6, hk6, hs6, hb6⟩ := hf.form
          have HP6 := Lib.hid (HP5.out.kept hk6 fun _ _ => id)
          have HK6 := Lib.hid (HK5.out.trans hk6 fun _ _ e => e)
          have HS6 := Lib.hid hs6
          clear hf ho6 hk6 hs6 hb6
          go_wp2_with (fail)
          refine (Credit_any w.heap.size w.heap.size fv' s' _ HP6.out).mono ?_
          rintro e w7 ⟨rfl, rfl⟩
          go_wp2_with (fail)
          refine (Credit_any w.heap.size w.heap.size fv' s' _ HP6.out).mono ?_
          rintro e w7 ⟨rfl, rfl⟩
          go_wp2_with (fail)
          go_loopw [20] (fun i wr => ∃ j : Nat, i = .int .i64 j ∧ j ≤ s'.fl.length ∧ PeerAt wr w.heap.size 39 w.heap.size fv' s' ∧ Kept (fun _ => False) w wr ∧ Seq wr A6 s'.fl) (fun i _ => s'.fl.length - (intOf i).toNat)
          case atStart => exact ⟨0, rfl, Nat.zero_le _, HP6.out, HK6.out, HS6.out⟩
          case round =>
            clear HP6 HK6 HS6
            obtain ⟨j, rfl, hj, hpj, hkj, hsj⟩ := hrel
            have HPJ := Lib.hid hpj
            have HKJ := Lib.hid hkj
            have HSJ := Lib.hid hsj
            clear hpj hkj
            have hfl5 : s'.fl.length ≤ 64 := by omega
            by_cases hjl : j < s'.fl.length
            · obtain ⟨a6, rfl, y0⟩ := hsj j hjl
              obtain ⟨g1, g2⟩ := HIN.out _ (List.getElem_mem hjl)
              cases j with
              | zero =>
                generalize s'.fl[0] = x at y0 g1 g2
                rw [show a6.add 0 = a6 from if_pos rfl] at y0
                have e1 : decide (x < 1) = false := decide_eq_false (by omega)
                have e2 : decide (s'.last < x) = false := decide_eq_false (by omega)
                clear hsj
                go_wp2_with (fail)
                go_quiet (fail)
                go_wp2
                go_roundw
                case rel => exact ⟨1, rfl, by omega, HPJ.out.drewN nq, HKJ.out.drewN nq, HSJ.out.drewN nq⟩
                case measure => simp [intOf]; omega
              | succ j =>
                obtain ⟨a7, e7, y1⟩ := hsj j (by omega)
                injection e7 with e7
                subst e7
                have hrise := List.pairwise_iff_getElem.1 HRI.out j (j + 1) (by omega) hjl (by omega)
                generalize s'.fl[j + 1] = x at y0 g1 g2 hrise
                generalize s'.fl[j] = z at y1 hrise
                have e1 : decide (x < 1) = false := decide_eq_false (by omega)
                have e2 : decide (s'.last < x) = false := decide_eq_false (by omega)
                have e3 : decide (x ≤ z) = false := decide_eq_false (by omega)
                have y2 : wr.cell? ⟨a6.block, a6.off + (j + 1), none⟩ = some (.int .i64 x) := by
                  rw [show a6.add (j + 1) = ⟨a6.block, a6.off + (j + 1), none⟩ from if_neg (by omega)] at y0
                  exact y0
                have i1 : (0 : Int) ≤ (j : Int) + 1 := by omega
                have i2 : (j : Int) + 1 < (s'.fl.length : Int) := by omega
                have i3 : ((j : Int) + 1).toNat = j + 1 := by omega
                have i4 : (j : Int) < (s'.fl.length : Int) := by omega
                have i5 : (0 : Int) ≤ (j : Int) := by omega
                clear hsj hrise
                go_wp2_with (fail)
                go_quiet (fail)
                go_wp2
                go_roundw
                case rel => exact ⟨j + 1 + 1, by go_num, by omega, HPJ.out.drewN nq, HKJ.out.drewN nq, HSJ.out.drewN nq⟩
                case measure => simp [intOf]; omega
            · obtain rfl : j = s'.fl.length := by omega
              clear hsj
              go_wp2
              go_roundw
              case rel => exact ⟨k + 1, s', by go_num, by omega, rfl, hsl', HSW5.out, HSP5.out, HG5.out, HKJ.out, fv', HPJ.out⟩
              case measure => simp [intOf]; omega
      · clear hp hkw
        go_wp2_with (fail)
        refine (known_any _).mono ?_
        rintro e w1 ⟨rfl, hk⟩
        have HK := Lib.hid hk
        clear hk
        go_wp2
        go_ret
        exact ⟨rfl, HKW.out.trans HK.out fun _ _ e => e⟩
end Go.Proofs.Ytadamldglebgmaa
