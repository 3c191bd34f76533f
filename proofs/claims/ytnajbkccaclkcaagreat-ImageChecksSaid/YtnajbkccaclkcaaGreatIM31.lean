/- hearsayref16.Load walked. Conditions: the lists lie in memory; at most a million; the epoch is Go's int. · hearsayref9.log and Check walked: the same answer as image.Check. Conditions: the image lies in memory; its numbers are Go's ints; nothing is longer than a million. · hearsayref9.Check walked: the same answer as image.Check. Conditions: the image lies in memory; its numbers are Go's ints; nothing is longer than a million. -/
import Derived.Test.YtnajbkccaclkcaaGreatIM30
import Derived.Test.YtnajbkccaclkcaaGreatIM27
import Derived.Test.YtnajbkccaclkcaaGreatIM28
import Derived.Test.YtnajbkccaclkcaaGreatIM12
namespace Go.Proofs.YtnajbkccaclkcaaGreat
open Go Go.RowKit

theorem ris_pair : ∀ (l : List Int) (last : Int), risFrom last l = true → (∀ x ∈ l, last < x ∧ x ≤ 16) ∧ l.Pairwise (· ≠ ·) := by
  intro l
  induction l with
  | nil => intro last _; exact ⟨fun _ h => (by cases h), List.Pairwise.nil⟩
  | cons y t ih =>
    intro last h
    unfold risFrom at h
    split at h
    · cases h
    · rename_i hy
      obtain ⟨h1, h2⟩ := ih y h
      refine ⟨fun x hx => ?_, List.Pairwise.cons (fun x hx e => ?_) h2⟩
      · rcases List.mem_cons.1 hx with rfl | hx
        · omega
        · have := h1 x hx; omega
      · have := h1 x hx; omega
theorem cnt_eq {J : List Int} (h : risFrom 0 J = true) (p : Int → Bool) : ((List.range 17).filter fun m : Nat => decide (1 ≤ m) && (decide ((m : Int) ∈ J) && p m)).length = (J.filter p).length := by
  obtain ⟨h1, h2⟩ := ris_pair J 0 h
  rw [← List.length_map (f := fun m : Nat => (m : Int))]
  refine List.Perm.length_eq ((List.perm_ext_iff_of_nodup ?_ ?_).2 fun x => ?_)
  · exact List.pairwise_map.2 ((List.nodup_range.filter _).imp fun hab e => hab (by omega))
  · exact List.Pairwise.filter _ h2
  · simp only [List.mem_map, List.mem_filter, List.mem_range, Bool.and_eq_true, decide_eq_true_eq]
    constructor
    · rintro ⟨m, ⟨_, _, h3, h4⟩, rfl⟩
      exact ⟨h3, h4⟩
    · rintro ⟨h3, h4⟩
      have := h1 x h3
      exact ⟨x.toNat, ⟨by omega, by omega, by rwa [Int.toNat_of_nonneg (by omega)], by rwa [Int.toNat_of_nonneg (by omega)]⟩, by omega⟩
/-- How many sites below a number satisfy this. -/
def numTo (p : Nat → Bool) : Nat → Nat
  | 0 => 0
  | n + 1 => numTo p n + if 1 ≤ n ∧ p n = true then 1 else 0
theorem numTo_succ (p : Nat → Bool) (n : Nat) : numTo p (n + 1) = numTo p n + if 1 ≤ n ∧ p n = true then 1 else 0 := rfl
theorem numTo_eq (p : Nat → Bool) (n : Nat) : numTo p n = ((List.range n).filter fun m : Nat => decide (1 ≤ m) && p m).length := by
  induction n with
  | zero => rfl
  | succ n ih =>
    rw [numTo_succ, List.range_succ, List.filter_append, List.length_append, ih]
    congr 1
    by_cases c : 1 ≤ n ∧ p n = true
    · rw [if_pos c, List.filter_cons, if_pos (by simp [c.1, c.2])]
      rfl
    · rw [if_neg c, List.filter_cons, if_neg (by simpa using c)]
      rfl
theorem memsTo_num (J E : List Int) (n : Nat) : memsTo J E n = numTo (hasN J E) n := by
  induction n with
  | zero => rfl
  | succ n ih => rw [memsTo_succ, numTo_succ, ih]
def bothN (J E : List Int) (n : Nat) : Bool := decide ((n : Int) ∈ J) && decide ((n : Int) ∈ E)
theorem mems_eq {J E : List Int} (h : risFrom 0 J = true) : memsTo J E 17 = (J.filter fun n => !decide (n ∈ E)).length := by
  rw [memsTo_num, numTo_eq, ← cnt_eq h]
  rfl
theorem both_eq {J E : List Int} (h : risFrom 0 J = true) : numTo (bothN J E) 17 = (J.filter fun n => decide (n ∈ E)).length := by
  rw [numTo_eq, ← cnt_eq h]
  rfl
theorem numTo_le (p : Nat → Bool) (n : Nat) : numTo p n ≤ n := by
  induction n with
  | zero => simp [numTo]
  | succ n ih => rw [numTo_succ]; split <;> omega
theorem rolA0 (ep : Int) : rolA (flags []) (flags []) ep = #[.bool false, .bool false, .bool false, .bool false, .bool false, .bool false, .bool false, .bool false, .bool false, .bool false, .bool false, .bool false, .bool false, .bool false, .bool false, .bool false, .bool false, .bool false, .bool false, .bool false, .bool false, .bool false, .bool false, .bool false, .bool false, .bool false, .bool false, .bool false, .bool false, .bool false, .bool false, .bool false, .bool false, .bool false, .int .i64 ep] := by
  rw [flags_nil]
  rfl
def LoadPost (w : World) (n : Int) (e : Ending) (w' : World) : Prop := ∃ p, e = .returned (.tuple #[p, .int .i64 n]) ∧ Kept (fun _ => False) w w'

set_option maxRecDepth 100000 in
set_option maxHeartbeats 8000000 in
theorem RLoad_any (J E : List Int) (jA eA : Option Addr) (jc ec : Nat) (ep : Int) (w : World) (hj : CellsAt w jA (ints J)) (he : CellsAt w eA (ints E)) (hjl : J.length ≤ 1000000) (hel : E.length ≤ 1000000) (hep : ep ≤ 9223372036854775807) : Calls Tryz.prog 35 #[.slice jA J.length jc, .slice eA E.length ec, .int .i64 ep] w (LoadPost w (sitesE J E ep)) := by
  have HR1 := Lib.hid (fun W (hW : Kept (fun _ => False) w W) => rising16_any jA J jc W (hj.fresh hW) hjl)
  have HR2 := Lib.hid (fun W (hW : Kept (fun _ => False) w W) => rising16_any eA E ec W (he.fresh hW) hel)
  obtain ⟨r1, hr1⟩ : ∃ r1, risFrom 0 J = r1 := ⟨_, rfl⟩
  obtain ⟨r2, hr2⟩ : ∃ r2, risFrom 0 E = r2 := ⟨_, rfl⟩
  rw [hr1] at HR1
  rw [hr2] at HR2
  obtain ⟨se, hse⟩ : ∃ se, sitesE J E ep = se := ⟨_, rfl⟩
  rw [hse]
  unfold sitesE at hse
  rw [hr1, hr2] at hse
  have HSE := Lib.hid hse
  have HRJ := Lib.hid hr1
  have HRE := Lib.hid hr2
  have HJ := Lib.hid hj
  have HE := Lib.hid he
  obtain ⟨NJ, hNJ⟩ : ∃ NJ, J.length = NJ := ⟨_, rfl⟩
  obtain ⟨NE, hNE⟩ : ∃ NE, E.length = NE := ⟨_, rfl⟩
  have HNJ := Lib.hid hNJ
  have HNE := Lib.hid hNE
  rw [hNJ] at HR1 hjl ⊢
  rw [hNE] at HR2 hel ⊢
  clear hse hj he hNJ hNE hr1 hr2
  have hcase : (r1 = false ∨ (r1 = true ∧ r2 = false) ∨ (r1 = true ∧ r2 = true ∧ ep < 0)) ∨ (r1 = true ∧ r2 = true ∧ ¬ ep < 0) := by
    cases r1 <;> cases r2 <;> simp <;> omega
  go_enter Tryz.func35, Tryz.ntmps35
  rcases hcase with hc | ⟨rfl, rfl, hep0⟩
  · as_aux_lemma =>
    have hse1 : se = 1 := by
      have := HSE.out
      rcases hc with rfl | ⟨rfl, rfl⟩ | ⟨rfl, rfl, h3⟩
      · simpa using this.symm
      · simpa using this.symm
      · simpa [h3] using this.symm
    have HS1 := Lib.hid hse1
    clear hse1
    go_wp2_with (fail)
    refine (HR1.out _ (Kept.refl _ _)).mono ?_
    rintro r w2 ⟨rfl, q, hw2⟩
    have HK2 := Lib.hid (show Kept (fun _ => False) w w2 from hw2 ▸ (Kept.refl _ _).drewN q)
    clear hw2
    rcases hc with rfl | ⟨rfl, rfl⟩ | ⟨rfl, rfl, h3⟩
    · go_wp2_with (fail)
      go_ret2
      exact ⟨_, by rw [HS1.out]; rfl, HK2.out⟩
    · go_wp2_with (fail)
      refine (HR2.out _ HK2.out).mono ?_
      rintro r w3 ⟨rfl, q3, hw3⟩
      have HK3 := Lib.hid (show Kept (fun _ => False) w w3 from hw3 ▸ HK2.out.drewN q3)
      clear hw3
      go_wp2_with (fail)
      go_ret2
      exact ⟨_, by rw [HS1.out]; rfl, HK3.out⟩
    · go_wp2_with (fail)
      refine (HR2.out _ HK2.out).mono ?_
      rintro r w3 ⟨rfl, q3, hw3⟩
      have HK3 := Lib.hid (show Kept (fun _ => False) w w3 from hw3 ▸ HK2.out.drewN q3)
      clear hw3
      go_wp2_with (fail)
      go_ret2
      exact ⟨_, by rw [HS1.out]; rfl, HK3.out⟩
  · go_wp2_with (fail)
    refine (HR1.out _ (Kept.refl _ _)).mono ?_
    rintro r w2 ⟨rfl, q, hw2⟩
    have HK2 := Lib.hid (show Kept (fun _ => False) w w2 from hw2 ▸ (Kept.refl _ _).drewN q)
    clear hw2
    go_wp2_with (fail)
    refine (HR2.out _ HK2.out).mono ?_
    rintro r w3 ⟨rfl, q3, hw3⟩
    have HK3 := Lib.hid (show Kept (fun _ => False) w w3 from hw3 ▸ HK2.out.drewN q3)
    clear hw3
    go_upto_region 4 with (fail)
    have hrol := RolAt.made w3 ep
    rw [rolA0] at hrol
    have hk4 := HK3.out.alloc (.cells #[.bool false, .bool false, .bool false, .bool false, .bool false, .bool false, .bool false, .bool false, .bool false, .bool false, .bool false, .bool false, .bool false, .bool false, .bool false, .bool false, .bool false, .bool false, .bool false, .bool false, .bool false, .bool false, .bool false, .bool false, .bool false, .bool false, .bool false, .bool false, .bool false, .bool false, .bool false, .bool false, .bool false, .bool false, .int .i64 ep] 128)
    generalize w3.alloc (.cells #[.bool false, .bool false, .bool false, .bool false, .bool false, .bool false, .bool false, .bool false, .bool false, .bool false, .bool false, .bool false, .bool false, .bool false, .bool false, .bool false, .bool false, .bool false, .bool false, .bool false, .bool false, .bool false, .bool false, .bool false, .bool false, .bool false, .bool false, .bool false, .bool false, .bool false, .bool false, .bool false, .bool false, .bool false, .int .i64 ep] 128) = w4 at hrol hk4 ⊢
    obtain ⟨g, hg⟩ : ∃ g, w3.heap.size = g := ⟨_, rfl⟩
    have hwg : w.heap.size ≤ g := by rw [← hg]; exact HK3.out.size
    rw [hg] at hrol ⊢
    have HROL := Lib.hid hrol
    have HK4 := Lib.hid hk4
    have HWG := Lib.hid hwg
    clear hrol hk4 hg hwg
    go_wp2_with (fail)
    go_loopw [9] (fun v wr => ∃ k : Nat, v = .int .i64 k ∧ k ≤ NJ ∧ Kept (fun _ => False) w wr ∧ RolAt wr g (J.take k) [] ep) (fun v _ => NJ - (intOf v).toNat)
    case atStart => exact ⟨0, rfl, Nat.zero_le _, HK4.out, HROL.out⟩
    case round =>
      obtain ⟨k, rfl, hk, hkw, hrl⟩ := hrel
      have HKW := Lib.hid hkw
      have HRL := Lib.hid hrl
      clear hkw hrl
      by_cases hlt : k < NJ
      · as_aux_lemma =>
        have hin : (k : Int) < (NJ : Int) := by omega
        have hkl : k < J.length := by rw [HNJ.out]; exact hlt
        obtain ⟨b, f, hA, hcc⟩ := ints_cell HJ.out (by omega)
        subst hA
        have x0 := HKW.out.cellF (hcc k hkl)
        have ht := List.take_succ_eq_append_getElem hkl
        have hb := (ris_pair J 0 HRJ.out).1 _ (List.getElem_mem hkl)
        obtain ⟨x, hx⟩ : ∃ x, J[k] = x := ⟨_, rfl⟩
        rw [hx] at x0 ht hb
        obtain ⟨n, rfl⟩ : ∃ n : Nat, x = n := ⟨x.toNat, by omega⟩
        have hn1 : (0 : Int) ≤ (n : Int) := by omega
        have hn2 : (n : Int) < 17 := by omega
        have hn3 : n < 17 := by omega
        have HT := Lib.hid ht
        have hz0 := HRL.out.in_ n hn3
        have hfz := Box.frozen HRL.out n
        clear hcc ht hx hb
        go_upto_region 7 with (fail)
        refine wp_region_class_tail (C := fun w' => Kept (fun _ => False) wr w') 8 (by kernel_rfl) (by kernel_rfl) (Kept.refl _ _).drew ?_
        simp only [List.take_succ_cons, List.take_zero, List.drop_succ_cons, List.drop_zero]
        iterate 8
          first | go_big_quiet_skip | (go_big_quiet_want; first | (go_big_quiet_op; go_big_quiet_on) | (apply Exists.intro; refine ⟨fun w' hS => ?_, ?_⟩; (have d0 := hS.cellF x0; go_simp; first | rfl | exact ⟨rfl, rfl⟩); (try simp only [Act.put, List.setIfInBounds_toArray, List.set_cons_zero, List.set_cons_succ]); go_big_quiet_on))
        refine wpQuiet_nil ?_
        intro w5 hS
        have hr5 := HRL.out.kept hS
        have hz5 := hr5.in_ n hn3
        have hf5 := Box.frozen hr5 n
        have HS := Lib.hid (hr5.setI n hn3)
        have HK5 := Lib.hid (Kept.at (g := g) (HKW.out.trans hS fun _ _ e => e) n (.bool true) (.inr HWG.out))
        clear hS x0 hz0 hfz hr5
        go_wp2_with (fail)
        go_roundw
        case rel => exact ⟨k + 1, by go_num, by omega, HK5.out, by rw [HT.out]; exact HS.out⟩
        case measure => simp [intOf]; omega
      · have hin : ¬ (k : Int) < (NJ : Int) := by omega
        have hrl := HRL.out
        rw [List.take_of_length_le (by rw [HNJ.out]; omega)] at hrl
        have HRL2 := Lib.hid hrl
        clear hrl HRL
        go_wp2_with (fail)
        go_loopw [10] (fun v wr => ∃ k : Nat, v = .int .i64 k ∧ k ≤ NE ∧ Kept (fun _ => False) w wr ∧ RolAt wr g J (E.take k) ep) (fun v _ => NE - (intOf v).toNat)
        case atStart => exact ⟨0, rfl, Nat.zero_le _, HKW.out, HRL2.out⟩
        case round =>
          obtain ⟨q, rfl, hq, hkx, hrx⟩ := hrel
          have HKX := Lib.hid hkx
          have HRX := Lib.hid hrx
          clear hkx hrx
          by_cases hlt2 : q < NE
          · as_aux_lemma =>
            have hin2 : (q : Int) < (NE : Int) := by omega
            have hkl : q < E.length := by rw [HNE.out]; exact hlt2
            obtain ⟨b, f, hA, hcc⟩ := ints_cell HE.out (by omega)
            subst hA
            have x0 := HKX.out.cellF (hcc q hkl)
            have ht := List.take_succ_eq_append_getElem hkl
            have hb := (ris_pair E 0 HRE.out).1 _ (List.getElem_mem hkl)
            obtain ⟨x, hx⟩ : ∃ x, E[q] = x := ⟨_, rfl⟩
            rw [hx] at x0 ht hb
            obtain ⟨n, rfl⟩ : ∃ n : Nat, x = n := ⟨x.toNat, by omega⟩
            have hn1 : (0 : Int) ≤ (n : Int) := by omega
            have hn2 : (n : Int) < 17 := by omega
            have hn3 : n < 17 := by omega
            have HT := Lib.hid ht
            clear hcc ht hx hb
            go_upto_region 11 with (fail)
            refine wp_region_class_tail (C := fun w' => Kept (fun _ => False) wr w') 8 (by kernel_rfl) (by kernel_rfl) (Kept.refl _ _).drew ?_
            simp only [List.take_succ_cons, List.take_zero, List.drop_succ_cons, List.drop_zero]
            iterate 8
              first | go_big_quiet_skip | (go_big_quiet_want; first | (go_big_quiet_op; go_big_quiet_on) | (apply Exists.intro; refine ⟨fun w' hS => ?_, ?_⟩; (have d0 := hS.cellF x0; go_simp; first | rfl | exact ⟨rfl, rfl⟩); (try simp only [Act.put, List.setIfInBounds_toArray, List.set_cons_zero, List.set_cons_succ]); go_big_quiet_on))
            refine wpQuiet_nil ?_
            intro w5 hS
            have hr5 := HRX.out.kept hS
            have hz5 := hr5.out_ n hn3
            have hf5 := Box.frozen hr5 (17 + n)
            have HS := Lib.hid (hr5.setO n hn3)
            have HK5 := Lib.hid (Kept.at (g := g) (HKX.out.trans hS fun _ _ e => e) (17 + n) (.bool true) (.inr HWG.out))
            clear hS x0 hr5
            go_wp2_with (fail)
            go_roundw
            case rel => exact ⟨q + 1, by go_num, by omega, HK5.out, by rw [HT.out]; exact HS.out⟩
            case measure => simp [intOf]; omega
          · have hin2 : ¬ (q : Int) < (NE : Int) := by omega
            have hrl := HRX.out
            rw [List.take_of_length_le (by rw [HNE.out]; omega)] at hrl
            have HRL3 := Lib.hid hrl
            clear hrl HRX
            obtain ⟨w5, hw5⟩ : ∃ w5 : World, w5 = wr := ⟨_, rfl⟩
            subst hw5
            go_wp2_with (fail)
            go_loopw [11, 12] (fun vb vn wr => ∃ (n q : Nat), vb = .int .i64 q ∧ vn = .int .i64 n ∧ 1 ≤ n ∧ n ≤ 17 ∧ wr = w5 ∧ q = numTo (bothN J E) n) (fun _ vn _ => 17 - (intOf vn).toNat)
            case atStart => exact ⟨1, 0, rfl, rfl, Nat.le_refl _, by omega, rfl, rfl⟩
            case round =>
              obtain ⟨n, qq, rfl, rfl, hn1, hn2, hwr, hqq⟩ := hrel
              subst hwr
              have HQQ := Lib.hid hqq
              have hqle : qq ≤ n := by rw [hqq]; exact numTo_le _ _
              clear hqq
              by_cases hlt3 : n ≤ 16
              · have hin3 : (n : Int) ≤ 16 := by omega
                have hi1 : (0 : Int) ≤ (n : Int) := by omega
                have hi2 : (n : Int) < 17 := by omega
                have z1 := HRL3.out.in_ n (by omega)
                have z2 := HRL3.out.out_ n (by omega)
                have hst := numTo_succ (bothN J E) n
                rw [show bothN J E n = (decide ((n : Int) ∈ J) && decide ((n : Int) ∈ E)) from rfl] at hst
                obtain ⟨b1, hb1⟩ : ∃ b1, decide ((n : Int) ∈ J) = b1 := ⟨_, rfl⟩
                obtain ⟨b2, hb2⟩ : ∃ b2, decide ((n : Int) ∈ E) = b2 := ⟨_, rfl⟩
                rw [hb1] at z1 hst
                rw [hb2] at z2 hst
                have HST := Lib.hid hst
                clear hst hb1 hb2
                cases b1 with
                | false =>
                  as_aux_lemma =>
                  go_wp2_with (fail)
                  go_roundw
                  case rel => exact ⟨n + 1, qq, rfl, by go_num, by omega, by omega, by trivial, by rw [HQQ.out]; exact (HST.out.trans (by simp)).symm⟩
                  case measure => simp [intOf]; omega
                | true =>
                  cases b2 with
                  | false =>
                    as_aux_lemma =>
                    go_wp2_with (fail)
                    go_roundw
                    case rel => exact ⟨n + 1, qq, rfl, by go_num, by omega, by omega, by trivial, by rw [HQQ.out]; exact (HST.out.trans (by simp)).symm⟩
                    case measure => simp [intOf]; omega
                  | true =>
                    as_aux_lemma =>
                    go_wp2_with (fail)
                    go_roundw
                    case rel => exact ⟨n + 1, qq + 1, by go_num, by go_num, by omega, by omega, by trivial, by rw [HQQ.out]; exact (HST.out.trans (by simp [hn1])).symm⟩
                    case measure => simp [intOf]; omega
              · have hin3 : ¬ (n : Int) ≤ 16 := by omega
                have hn17 : n = 17 := by omega
                have hqb : qq = (J.filter fun n => decide (n ∈ E)).length := by rw [HQQ.out, hn17, both_eq HRJ.out]
                have HM := Lib.hid (Members16_any wr g J E ep HRL3.out)
                have hmm := mems_eq (E := E) HRJ.out
                have hml := memsTo_le J E 17
                obtain ⟨a, ha⟩ : ∃ a, memsTo J E 17 = a := ⟨_, rfl⟩
                rw [ha] at HM hmm hml
                have hse := HSE.out
                simp only [Bool.not_true, Bool.false_or, decide_eq_false (show ¬ ep < 0 by omega), Bool.false_eq_true, if_false] at hse
                rw [← hqb, ← hmm] at hse
                have hw1 : IntKind.i64.wrap (ep - (a : Int)) = ep - (a : Int) := IntWalk.i64_in _ ⟨by omega, by omega⟩
                have hw2 : IntKind.i64.wrap (2 * (qq : Int)) = 2 * (qq : Int) := IntWalk.i64_in _ ⟨by omega, by omega⟩
                have HSF := Lib.hid hse
                clear hse hqb hmm ha hn17 HQQ
                go_wp2_with (fail)
                refine HM.out.mono ?_
                unfold MemPost
                rintro r w6 ⟨mA, mc, rfl, hk6⟩
                have HK6 := Lib.hid (HKX.out.trans hk6 fun _ _ e => e)
                clear hk6
                by_cases m1 : ep - (a : Int) < 0
                · as_aux_lemma =>
                  have hs6 : se = 6 := by have := HSF.out; simpa [m1] using this.symm
                  have HS6 := Lib.hid hs6
                  clear hs6
                  go_wp2_with (fail)
                  go_ret2
                  exact ⟨_, by rw [HS6.out]; rfl, HK6.out⟩
                · by_cases m2 : (ep - (a : Int)).tmod 2 = 0
                  · by_cases m3 : ep - (a : Int) > 2 * (qq : Int)
                    · as_aux_lemma =>
                      have hs6 : se = 6 := by have := HSF.out; simpa [m1, m2, show 2 * (qq : Int) < ep - (a : Int) from m3] using this.symm
                      have HS6 := Lib.hid hs6
                      clear hs6
                      go_wp2_with (fail)
                      go_ret2
                      exact ⟨_, by rw [HS6.out]; rfl, HK6.out⟩
                    · as_aux_lemma =>
                      have hs6 : se = 0 := by have := HSF.out; simpa [m1, m2, show ¬ 2 * (qq : Int) < ep - (a : Int) from m3] using this.symm
                      have HS6 := Lib.hid hs6
                      clear hs6
                      go_wp2_with (fail)
                      go_ret2
                      exact ⟨_, by rw [HS6.out]; rfl, HK6.out⟩
                  · as_aux_lemma =>
                    have hs6 : se = 6 := by have := HSF.out; simpa [m1, m2] using this.symm
                    have HS6 := Lib.hid hs6
                    clear hs6
                    go_wp2_with (fail)
                    all_goals first | exact absurd ((Int.tmod_eq_emod_of_nonneg (by omega)).trans (by assumption)) m2 | (go_ret2; exact ⟨_, by rw [HS6.out]; rfl, HK6.out⟩)
end Go.Proofs.YtnajbkccaclkcaaGreat

namespace Go.Proofs.YtnajbkccaclkcaaGreat
open Go Go.RowKit

/-- Why a log is none (the reference's words). -/
def logR (clock : Int) (mv : List Dt) : List Dt → List Lop → Int
  | v, [] => if v = mv then 0 else 9
  | v, x :: l => if followsE v x.o ≠ 0 then followsE v x.o else if clock < lastO x.o then 9 else logR clock mv (addV v x.o.dot) l
theorem logR_nil (clock : Int) (mv v : List Dt) : logR clock mv v [] = if v = mv then 0 else 9 := rfl
theorem logR_cons (clock : Int) (mv v : List Dt) (x : Lop) (l : List Lop) : logR clock mv v (x :: l) = if followsE v x.o ≠ 0 then followsE v x.o else if clock < lastO x.o then 9 else logR clock mv (addV v x.o.dot) l := rfl
theorem follows_add {v : List Dt} {o : Opr} (h : followsE v o = 0) : vec (says (addV v o.dot)) = addV v o.dot := by
  unfold followsE at h
  have h0 : opE o = 0 := by
    by_cases h0 : opE o = 0
    · exact h0
    · rw [if_pos h0] at h; exact h
  rw [if_neg (fun e => e h0)] at h
  have hok : okOp o = true := by
    unfold opE at h0
    split at h0
    · assumption
    · omega
  have f := okOp_f hok
  have hg : getV v o.dot.site = o.dot.seq - 1 := by
    by_cases hg : getV v o.dot.site = o.dot.seq - 1
    · exact hg
    · rw [if_pos (by simp [hg])] at h; simp at h
  have hz := (addE_zero9 (l := v) f.s1 f.s2 f.q1 f.q2).2 hg
  unfold addV
  rw [if_pos hz]
  rw [says_vec ((Row.says v).set _ (by have := f.s1; omega) (by have := f.s2; omega) _ (by have := f.q1; omega) f.q2)]
theorem covers_eq {r s : List Int} (hr : Row r) (hs : Row s) : (coversR r s = true ∧ coversR s r = true) ↔ r = s := by
  constructor
  · rintro ⟨h1, h2⟩
    refine row_ext hr.len hs.len fun i hi => ?_
    unfold coversR at h1 h2
    rw [List.all_eq_true] at h1 h2
    have a := of_decide_eq_true (h1 i (List.mem_range.2 hi))
    have b := of_decide_eq_true (h2 i (List.mem_range.2 hi))
    omega
  · rintro rfl
    have : coversR r r = true := by
      unfold coversR
      rw [List.all_eq_true]
      intro i _
      simp
    exact ⟨this, this⟩
theorem log_eq (clock : Int) {mv : List Dt} (hm : vec (says mv) = mv) (l : List Lop) : ∀ v : List Dt, vec (says v) = v → logFrom clock mv v l = logR clock mv v l := by
  induction l with
  | nil =>
    intro v hv
    rw [logFrom_nil, logR_nil]
    unfold endE
    have hc := covers_eq (Row.says v) (Row.says mv)
    by_cases e : v = mv
    · have := hc.2 (by rw [e])
      rw [if_pos e, if_neg (by simp [this.1, this.2])]
    · rw [if_neg e, if_pos]
      by_cases h1 : coversR (says v) (says mv) = true
      · by_cases h2 : coversR (says mv) (says v) = true
        · exact absurd (by rw [← hv, hc.1 ⟨h1, h2⟩, hm]) e
        · simp [h2]
      · simp [h1]
  | cons x l ih =>
    intro v hv
    rw [logFrom_cons, logR_cons, step_follows]
    by_cases h : followsE v x.o = 0
    · simp only [h, ne_eq, not_true_eq_false, if_false]
      by_cases h2 : clock < lastO x.o
      · simp [h2]
      · simp only [h2, if_false, if_true]
        exact ih _ (follows_add h)
    · simp [h]
theorem maxR_nil (v : List Dt) : maxR (says v) (says []) = says v := by
  have h := Row.says v
  refine row_ext (zipR_len ..) h.len fun i hi => ?_
  unfold maxR
  rw [zipR_rg _ _ _ _ _ hi, if_pos hi]
  have h1 := h.bd i
  have h2 : rg (says []) i = 0 := by
    unfold says rg row0
    rw [List.foldl_nil, List.getElem?_replicate]
    split <;> rfl
  rw [h2]
  omega
theorem lateE_nine (clock : Int) (l : List Nd) : lateE clock 9 l = 9 := by
  induction l with
  | nil => rfl
  | cons x l ih => rw [lateE_cons]; exact ih
theorem lateE_step (clock : Int) (x : Nd) (l : List Nd) : lateE clock 0 (x :: l) = if clock < x.id.time then 9 else lateE clock 0 l := by
  rw [lateE_cons]
  by_cases h : clock < x.id.time
  · simp only [h, firstE, decide_true, if_true]
    exact lateE_nine clock l
  · simp [h, firstE]
theorem Kept.rangeF {w w' : World} {b o : Nat} {cs : List Value} (hk : Kept (fun _ => False) w w') (h : w.rangeAt b o cs) : w'.rangeAt b o cs := fun j v hj => hk.cellF (h j v hj)
theorem run_load_lopM {a : Act} {w : World} (op : Oper) (x : Operand) (ho : op.op = .load 64 x) (b f : Nat) (hx : a.eval x = .pointer (some ⟨b, f, none⟩)) (n : Lop) (hc : w.rangeAt b f n.c.toList) (cs : Array Value) (hcs : n.c = cs) :
    (execOp a.eval op).run Tryz.prog w = .ok (.value (.agg cs)) w := by
  obtain ⟨d, hu, hd⟩ := und_op
  have := run_loadVar_mid (P := Tryz.prog) w b f 64 n.c.toList d hc hu hd (by rw [Array.length_toList]; exact size_op)
  rw [Array.toArray_toList, hcs] at this
  unfold execOp
  simp only [ho, hx, Instr.loadAt, Instr.sureAddr, Sem.run_bind, Sem.run_pure, Result.andThen_ok, this]

set_option maxRecDepth 100000 in
set_option maxHeartbeats 4000000 in
theorem RLog9_any (m : Im) (w : World) (h : m.At w) (hs : m.Small) (hb1 : checkV m.b = 0) (hv1 : checkV m.v = 0) : Calls Tryz.prog 33 #[.agg m.c] w (IntPost w (logFrom m.clock m.v m.b m.log)) := by
  rw [log_eq m.clock (vec_says hv1) m.log m.b (vec_says hb1)]
  obtain ⟨v, vA, vc, b, bA, bc, clock, log, lA, lc, nodes, nA, nc, joined, jA, jc, left, eA, ec, epoch⟩ := m
  have hb := Box.new w 28 (Im.c ⟨v, vA, vc, b, bA, bc, clock, log, lA, lc, nodes, nA, nc, joined, jA, jc, left, eA, ec, epoch⟩)
  have hk := (Kept.refl (fun _ => False) w).alloc (.cells (Im.c ⟨v, vA, vc, b, bA, bc, clock, log, lA, lc, nodes, nA, nc, joined, jA, jc, left, eA, ec, epoch⟩) 28)
  unfold Im.c at hb hk ⊢
  have hl1 : v.length ≤ 4611686018427387904 := by have := hs.v; simp only at this; omega
  have hl2 : b.length ≤ 4611686018427387904 := by have := hs.b; simp only at this; omega
  have hl3 : log.length ≤ 1000000 := hs.log
  obtain ⟨w1, hw1⟩ : ∃ w1, w.alloc (.cells #[.slice vA v.length vc, .slice bA b.length bc, .int .i64 clock, .slice lA log.length lc, .slice nA nodes.length nc, .slice jA joined.length jc, .slice eA left.length ec, .int .i64 epoch] 28) = w1 := ⟨_, rfl⟩
  rw [hw1] at hb hk
  obtain ⟨g, hg⟩ : ∃ g, w.heap.size = g := ⟨_, rfl⟩
  rw [hg] at hb
  have hv := h.v.fresh hk
  have hvb := h.b.fresh hk
  have hlo := h.log.fresh hk
  have hop : ∀ x ∈ log, x.At w1 := fun x hx => (h.ops x hx).fresh hk
  have hsm : ∀ x ∈ log, x.o.Small := hs.ops
  simp only at hv hvb hlo hb1 hv1 ⊢
  have HZ0 := Lib.hid (show ∀ W, Kept (fun _ => False) w1 W → W.cell? ⟨g, 0, none⟩ = some (.slice vA v.length vc) from fun W hW => by simpa using (hb.kept hW id).cell 0)
  have z1 : w1.cell? ⟨g, 1, none⟩ = some (.slice bA b.length bc) := by simpa using hb.cell 1
  have HZ2 := Lib.hid (show ∀ W, Kept (fun _ => False) w1 W → W.cell? ⟨g, 2, none⟩ = some (.int .i64 clock) from fun W hW => by simpa using (hb.kept hW id).cell 2)
  obtain ⟨N, hN⟩ : ∃ N, log.length = N := ⟨_, rfl⟩
  have HZ3 := Lib.hid (show ∀ W, Kept (fun _ => False) w1 W → W.cell? ⟨g, 3, none⟩ = some (.slice lA N lc) from fun W hW => by rw [← hN]; simpa using (hb.kept hW id).cell 3)
  have HMG := Lib.hid (RMerge_any bA none b [] bc 0 w1 hvb (fun j => by simp) hl2 (by simp))
  rw [maxR_nil, vec_says hb1] at HMG
  rw [hN] at hl3
  have HN := Lib.hid hN
  have HV := Lib.hid hv
  have HLO := Lib.hid hlo
  have HOP := Lib.hid hop
  have HSM := Lib.hid hsm
  have HK := Lib.hid hk
  have HG := Lib.hid hg
  have HL1 := Lib.hid hl1
  have HL2 := Lib.hid hl2
  have HBV := Lib.hid (vec_says hb1)
  obtain ⟨se, hse⟩ : ∃ se, logR clock v b log = se := ⟨_, rfl⟩
  rw [hse]
  have HSE := Lib.hid hse
  rw [hN] at hw1 ⊢
  have HW := Lib.hid hw1
  clear hk hw1 hg hb hv hvb h hs hl1 hl2 hlo hop hsm hN hse hb1 hv1
  go_enter Tryz.func33, Tryz.ntmps33
  go_upto_region 1 with (fail)
  rw [HW.out, HG.out]
  go_wp2_with (fail)
  refine HMG.out.mono ?_
  unfold FreshDots
  rintro r w2 ⟨A0, c0, rfl, ho2, hk2⟩
  have HK2 := Lib.hid hk2
  have HB0 := Lib.hid (DotsAt.of_own ho2)
  clear ho2 hk2 z1
  go_wp2_with (fail)
  go_loopw [3, 4] (fun sv i wr => ∃ (k : Nat) (u : List Dt) (A : Option Addr) (c : Nat), sv = .slice A u.length c ∧ i = .int .i64 k ∧ k ≤ N ∧ u.length ≤ 4611686018427387904 ∧ DotsAt wr A u ∧ Kept (fun _ => False) w1 wr ∧ logR clock v b log = logR clock v u (log.drop k)) (fun _ i _ => N - (intOf i).toNat)
  case atStart => exact ⟨0, b, A0, c0, rfl, rfl, Nat.zero_le _, HL2.out, HB0.out, HK2.out, rfl⟩
  case round =>
    obtain ⟨k, u, A, c, rfl, rfl, hk, hul, hdu, hkw, hf⟩ := hrel
    have HF := Lib.hid (HSE.out.symm.trans hf)
    have HU := Lib.hid hdu
    have HUL := Lib.hid hul
    have HKW := Lib.hid hkw
    have y0 := HZ0.out wr hkw
    have y3 := HZ3.out wr hkw
    clear hf hdu hul hkw
    by_cases hlt : k < N
    · as_aux_lemma =>
      have hin : (k : Int) < (N : Int) := by omega
      have hkl : k < log.length := by rw [HN.out]; exact hlt
      obtain ⟨bb, ff, hlA, hc⟩ := HLO.out.some_ (by rw [lops_len]; omega)
      subst hlA
      have hr := lop_range (w := w1) hc k hkl
      have hd := List.drop_eq_getElem_cons hkl
      have hx1 := HOP.out _ (List.getElem_mem hkl)
      have hx2 := HSM.out _ (List.getElem_mem hkl)
      obtain ⟨x, hx⟩ : ∃ x, log[k] = x := ⟨_, rfl⟩
      rw [hx] at hr hd hx1 hx2
      have HD := Lib.hid ((HF.out.trans (congrArg (logR clock v u) hd)).trans (logR_cons ..))
      have HRR := Lib.hid (show ∀ W, Kept (fun _ => False) w1 W → W.rangeAt bb (ff + k * 11) x.c.toList from fun W hW => hW.rangeF hr)
      have HX1 := Lib.hid (show ∀ W, Kept (fun _ => False) w1 W → x.At W from fun W hW => hx1.fresh hW)
      have HX2 := Lib.hid hx2
      clear hr hd hx hc hx1 hx2 HF
      have HFO := Lib.hid (follows9_any A u c x wr HU.out HUL.out (HX1.out _ HKW.out) HX2.out)
      have HLA := Lib.hid (fun W (hW : Kept (fun _ => False) w1 W) => RLast_any x W (HX1.out W hW) HX2.out)
      have HAD := Lib.hid (fun W (hW : Kept (fun _ => False) wr W) => RAdd_any A u c x.o.dot W (HU.out.fresh hW) HUL.out)
      have HLEN := Lib.hid (addV_len u x.o.dot)
      have HD0 := Lib.hid (show ∀ W, Kept (fun _ => False) w1 W → W.cell? ⟨bb, ff + k * 11, none⟩ = some (.int .i64 x.o.dot.site) ∧ W.cell? ⟨bb, ff + k * 11 + 1, none⟩ = some (.int .i64 x.o.dot.seq) from fun W hW => ⟨by simpa using HRR.out W hW 0 _ rfl, HRR.out W hW 1 _ rfl⟩)
      obtain ⟨cs, hcs⟩ : ∃ cs, x.c = cs := ⟨_, rfl⟩
      rw [hcs] at HFO HLA
      have HCS := Lib.hid hcs
      obtain ⟨fe, hfe⟩ : ∃ fe, followsE u x.o = fe := ⟨_, rfl⟩
      obtain ⟨lo, hlo⟩ : ∃ lo, lastO x.o = lo := ⟨_, rfl⟩
      obtain ⟨u', hu'⟩ : ∃ u', addV u x.o.dot = u' := ⟨_, rfl⟩
      obtain ⟨ds, hds⟩ : ∃ ds, x.o.dot.site = ds := ⟨_, rfl⟩
      obtain ⟨dq, hdq⟩ : ∃ dq, x.o.dot.seq = dq := ⟨_, rfl⟩
      rw [hfe] at HFO HD
      rw [hlo] at HLA HD
      rw [hu'] at HAD HLEN HD
      rw [hds] at HAD HD0
      rw [hdq] at HAD HD0
      clear hcs hfe hlo hu' hds hdq
      go_wp2_with (refine wpList_load_lopM rfl _ rfl bb (ff + k * 11) rfl _ (HRR.out _ HKW.out) cs HCS.out ?_)
      refine HFO.out.mono ?_
      unfold IntPost
      rintro r w3 ⟨rfl, hk3⟩
      have HK3 := Lib.hid hk3
      have HK13 := Lib.hid (HKW.out.trans hk3 fun _ _ e => e)
      clear hk3 y0 y3
      by_cases h0 : fe = 0
      · subst h0
        have y3 := HZ3.out _ HK13.out
        have y2 := HZ2.out _ HK13.out
        have hd := HD.out
        simp only [ne_eq, not_true_eq_false, if_false] at hd
        have HD2 := Lib.hid hd
        clear hd HD
        go_upto_region 8 with (fail)
        refine wp_region_class (C := fun w' => Kept (fun _ => False) w3 w') (by kernel_rfl) (by kernel_rfl) (Kept.refl _ _).drew ?_
        iterate 9
          first | go_big_quiet_skip | (go_big_quiet_want; first | (go_big_quiet_op; go_big_quiet_on) | (apply Exists.intro; refine ⟨fun w' hS => ?_, ?_⟩; (first | (unfold Oper.quietAt; rw [run_load_lopM _ _ rfl bb (ff + k * 11) rfl x (HRR.out _ (HK13.out.trans hS fun _ _ e => e)) cs HCS.out]; exact ⟨rfl, rfl⟩) | (have d2 := hS.cellF y2; have d3 := hS.cellF y3; go_simp; first | rfl | exact ⟨rfl, rfl⟩ | ((with_reducible refine (HLA.out _ (HK13.out.trans hS fun _ _ e => e)).mono ?_); unfold IntPost; rintro e w2 ⟨rfl, hk⟩; exact ⟨rfl, hS.trans hk fun _ _ e => e⟩))); (try simp only [Act.put, List.setIfInBounds_toArray, List.set_cons_zero, List.set_cons_succ]); go_big_quiet_on))
        refine wpQuiet_nil ?_
        intro w5 hS
        have HK5 := Lib.hid (HK13.out.trans hS fun _ _ e => e)
        have HK35 := Lib.hid (HK3.out.trans hS fun _ _ e => e)
        clear hS y2 y3
        by_cases hlo : lo > clock
        · as_aux_lemma =>
          have hs : se = 9 := by have := HD2.out; rw [if_pos (show clock < lo from hlo)] at this; exact this
          have HS9 := Lib.hid hs
          clear hs
          go_wp2_with (fail)
          go_ret
          exact ⟨ret_int HS9.out.symm, HK.out.trans HK5.out fun _ _ e => e⟩
        · as_aux_lemma =>
          have hs : se = logR clock v u' (log.drop (k + 1)) := by have := HD2.out; rw [if_neg (show ¬ clock < lo from hlo)] at this; exact this
          have HS9 := Lib.hid hs
          have y3 := HZ3.out _ HK5.out
          obtain ⟨e0, e1⟩ := HD0.out _ HK5.out
          have aD := Tryz.isAgg59
          have zD := Tryz.sizeOf59
          clear hs
          go_wp2_with (fail)
          refine (HAD.out _ HK35.out).mono ?_
          unfold AddPost
          rintro r w6 ⟨A', c', rfl, ho6, hk6⟩
          have HU6 := Lib.hid (DotsAt.of_own ho6)
          have HK6 := Lib.hid (HK5.out.trans hk6 fun _ _ e => e)
          clear ho6 hk6 y3 e0 e1
          go_wp2_with (fail)
          go_roundw
          case rel => exact ⟨k + 1, u', A', c', rfl, by go_num, by omega, by have := HLEN.out; omega, HU6.out, HK6.out, HSE.out.trans HS9.out⟩
          case measure => simp [intOf]; omega
      · as_aux_lemma =>
        have hs : se = fe := by have := HD.out; rw [if_pos h0] at this; exact this
        have HS9 := Lib.hid hs
        have b1 : (fe != 0) = true := by simp [h0]
        have b2 : (fe == 0) = false := by simp [h0]
        clear hs h0
        go_wp2_with (fail)
        go_ret
        exact ⟨ret_int HS9.out.symm, HK.out.trans HK13.out fun _ _ e => e⟩
    · as_aux_lemma =>
      have hin : ¬ (k : Int) < (N : Int) := by omega
      have hf := HF.out
      rw [List.drop_eq_nil_of_le (by rw [HN.out]; omega)] at hf
      rw [logR_nil] at hf
      have HF2 := Lib.hid hf
      have HSA := Lib.hid (Same_any A vA u v c vc wr HU.out (HV.out.fresh HKW.out) HUL.out)
      obtain ⟨bs, hbs⟩ : ∃ bs, decide (u = v) = bs := ⟨_, rfl⟩
      rw [hbs] at HSA
      have HBS := Lib.hid hbs
      clear hf hbs HF
      cases bs with
      | true =>
        have hs : se = 0 := by have := HF2.out; rw [if_pos (of_decide_eq_true HBS.out)] at this; exact this
        have HS9 := Lib.hid hs
        clear hs
        go_wp2_with (fail)
        refine HSA.out.mono ?_
        unfold SamePost
        rintro r w3 ⟨rfl, hk3⟩
        have HK3 := Lib.hid (HKW.out.trans hk3 fun _ _ e => e)
        clear hk3
        go_wp2_with (fail)
        go_ret
        exact ⟨ret_int HS9.out.symm, HK.out.trans HK3.out fun _ _ e => e⟩
      | false =>
        have hs : se = 9 := by have := HF2.out; rw [if_neg (of_decide_eq_false HBS.out)] at this; exact this
        have HS9 := Lib.hid hs
        clear hs
        go_wp2_with (fail)
        refine HSA.out.mono ?_
        unfold SamePost
        rintro r w3 ⟨rfl, hk3⟩
        have HK3 := Lib.hid (HKW.out.trans hk3 fun _ _ e => e)
        clear hk3
        go_wp2_with (fail)
        go_ret
        exact ⟨ret_int HS9.out.symm, HK.out.trans HK3.out fun _ _ e => e⟩
end Go.Proofs.YtnajbkccaclkcaaGreat

namespace Go.Proofs.YtnajbkccaclkcaaGreat
open Go Go.RowKit

set_option maxRecDepth 100000 in
set_option maxHeartbeats 8000000 in
theorem RCheck9_any (m : Im) (w : World) (h : m.At w) (hs : m.Small) (hep : m.epoch ≤ 9223372036854775807) (hcap : m.nodes.length ≤ m.nc) : Calls Tryz.prog 10 #[.agg m.c] w (IntPost w (checkI m)) := by
  have HLG := Lib.hid (fun (e1 : checkV m.b = 0) (e2 : checkV m.v = 0) W (hW : Kept (fun _ => False) w W) => RLog9_any m W (h.fresh hW) hs e1 e2)
  obtain ⟨v, vA, vc, b, bA, bc, clock, log, lA, lc, nodes, nA, nc, joined, jA, jc, left, eA, ec, epoch⟩ := m
  have hb := Box.new w 28 (Im.c ⟨v, vA, vc, b, bA, bc, clock, log, lA, lc, nodes, nA, nc, joined, jA, jc, left, eA, ec, epoch⟩)
  have hk := (Kept.refl (fun _ => False) w).alloc (.cells (Im.c ⟨v, vA, vc, b, bA, bc, clock, log, lA, lc, nodes, nA, nc, joined, jA, jc, left, eA, ec, epoch⟩) 28)
  unfold Im.c at hb hk HLG ⊢
  unfold checkI
  simp only at HLG hep hcap ⊢
  have hl1 : v.length ≤ 4611686018427387904 := by have := hs.v; simp only at this; omega
  have hl2 : b.length ≤ 4611686018427387904 := by have := hs.b; simp only at this; omega
  have hl4 : nodes.length ≤ 1000000 := hs.nodes
  have hl5 : joined.length ≤ 1000000 := hs.joined
  have hl6 : left.length ≤ 1000000 := hs.left
  have hv := h.v
  have hvb := h.b
  have hno := h.nodes
  have hjo := h.joined
  have hle := h.left
  simp only at hv hvb hno hjo hle
  have HC1 := Lib.hid (fun W (hW : Kept (fun _ => False) w W) => RCheck_any vA v vc W (hv.fresh hW) hl1)
  have HC2 := Lib.hid (fun W (hW : Kept (fun _ => False) w W) => RCheck_any bA b bc W (hvb.fresh hW) hl2)
  have HC3 := Lib.hid (fun W (hW : Kept (fun _ => False) w W) => RCovers_any vA bA v b vc bc W (hv.fresh hW) (hvb.fresh hW) hl1 hl2)
  have HC4 := Lib.hid (fun W (hW : Kept (fun _ => False) w W) => RCheck11_any nA nodes nc W (hno.fresh hW) hcap hl4)
  have HC5 := Lib.hid (fun W (hW : Kept (fun _ => False) w W) => RLoad_any joined left jA eA jc ec epoch W (hjo.fresh hW) (hle.fresh hW) hl5 hl6 hep)
  obtain ⟨w1, hw1⟩ : ∃ w1, w.alloc (.cells #[.slice vA v.length vc, .slice bA b.length bc, .int .i64 clock, .slice lA log.length lc, .slice nA nodes.length nc, .slice jA joined.length jc, .slice eA left.length ec, .int .i64 epoch] 28) = w1 := ⟨_, rfl⟩
  rw [hw1] at hb hk
  obtain ⟨g, hg⟩ : ∃ g, w.heap.size = g := ⟨_, rfl⟩
  rw [hg] at hb
  have HBX := Lib.hid (show ∀ W, Kept (fun _ => False) w1 W → Box W g 28 #[.slice vA v.length vc, .slice bA b.length bc, .int .i64 clock, .slice lA log.length lc, .slice nA nodes.length nc, .slice jA joined.length jc, .slice eA left.length ec, .int .i64 epoch] from fun W hW => hb.kept hW id)
  have HZ0 := Lib.hid (show ∀ W, Kept (fun _ => False) w1 W → W.cell? ⟨g, 0, none⟩ = some (.slice vA v.length vc) from fun W hW => by simpa using (HBX.out W hW).cell 0)
  have HZ1 := Lib.hid (show ∀ W, Kept (fun _ => False) w1 W → W.cell? ⟨g, 1, none⟩ = some (.slice bA b.length bc) from fun W hW => by simpa using (HBX.out W hW).cell 1)
  have HZ2 := Lib.hid (show ∀ W, Kept (fun _ => False) w1 W → W.cell? ⟨g, 2, none⟩ = some (.int .i64 clock) from fun W hW => by simpa using (HBX.out W hW).cell 2)
  have HZ3 := Lib.hid (show ∀ W, Kept (fun _ => False) w1 W → W.cell? ⟨g, 3, none⟩ = some (.slice lA log.length lc) from fun W hW => by simpa using (HBX.out W hW).cell 3)
  have HZ4 := Lib.hid (show ∀ W, Kept (fun _ => False) w1 W → W.cell? ⟨g, 4, none⟩ = some (.slice nA nodes.length nc) from fun W hW => by simpa using (HBX.out W hW).cell 4)
  have HZ5 := Lib.hid (show ∀ W, Kept (fun _ => False) w1 W → W.cell? ⟨g, 5, none⟩ = some (.slice jA joined.length jc) from fun W hW => by simpa using (HBX.out W hW).cell 5)
  have HZ6 := Lib.hid (show ∀ W, Kept (fun _ => False) w1 W → W.cell? ⟨g, 6, none⟩ = some (.slice eA left.length ec) from fun W hW => by simpa using (HBX.out W hW).cell 6)
  have HZ7 := Lib.hid (show ∀ W, Kept (fun _ => False) w1 W → W.cell? ⟨g, 7, none⟩ = some (.int .i64 epoch) from fun W hW => by simpa using (HBX.out W hW).cell 7)
  have HK := Lib.hid hk
  have HG := Lib.hid hg
  have HW := Lib.hid hw1
  have HNO := Lib.hid hno
  have HL4 := Lib.hid hl4
  obtain ⟨se, hse⟩ : ∃ se, firstE [vecE v b clock, logFrom clock v b log, nodesE clock nodes, sitesE joined left epoch] = se := ⟨_, rfl⟩
  rw [hse]
  rw [nodesE_tree] at hse
  unfold vecE at hse
  obtain ⟨e1, he1⟩ : ∃ e1, checkV v = e1 := ⟨_, rfl⟩
  obtain ⟨e2, he2⟩ : ∃ e2, checkV b = e2 := ⟨_, rfl⟩
  obtain ⟨cv, hcv⟩ : ∃ cv, coversR (says v) (says b) = cv := ⟨_, rfl⟩
  obtain ⟨le, hle2⟩ : ∃ le, logFrom clock v b log = le := ⟨_, rfl⟩
  obtain ⟨te, hte⟩ : ∃ te, treeE nodes = te := ⟨_, rfl⟩
  obtain ⟨sie, hsie⟩ : ∃ sie, sitesE joined left epoch = sie := ⟨_, rfl⟩
  obtain ⟨lt, hlt⟩ : ∃ lt, lateE clock 0 nodes = lt := ⟨_, rfl⟩
  rw [he1] at HC1 HLG hse
  rw [he2] at HC2 HLG hse
  rw [hcv] at HC3 hse
  rw [hle2] at HLG hse
  rw [hte] at HC4 hse
  rw [hsie] at HC5 hse
  rw [hlt] at hse
  have HSE := Lib.hid hse
  have HLT := Lib.hid hlt
  clear hse he1 he2 hcv hle2 hte hsie hlt hk hg hw1 hno hl4 hb hl1 hl2 hl5 hl6 hv hvb hjo hle hs h hcap
  go_enter Tryz.func10, Tryz.ntmps10
  go_upto_region 1 with (fail)
  rw [HW.out, HG.out]
  have y0 := HZ0.out _ (Kept.refl _ _)
  go_wp2_with (fail)
  refine (HC1.out _ HK.out).mono ?_
  unfold IntPost
  rintro r w2 ⟨rfl, hk2⟩
  have HK2 := Lib.hid hk2
  have HKR2 := Lib.hid (HK.out.trans hk2 fun _ _ e => e)
  clear hk2 y0
  by_cases h1 : e1 ≠ 0
  · as_aux_lemma =>
    have hs : se = e1 := by have := HSE.out; simpa [firstE, h1] using this.symm
    have HS9 := Lib.hid hs
    have b1 : (e1 != 0) = true := by simp [h1]
    have b2 : (e1 == 0) = false := by simp [h1]
    clear hs h1
    go_wp2_with (fail)
    go_ret
    exact ⟨ret_int HS9.out.symm, HKR2.out⟩
  obtain rfl : e1 = 0 := Decidable.not_not.1 h1
  clear h1
  have y1 := HZ1.out _ HK2.out
  go_wp2_with (fail)
  refine (HC2.out _ HKR2.out).mono ?_
  unfold IntPost
  rintro r w3 ⟨rfl, hk3⟩
  have HK3 := Lib.hid (HK2.out.trans hk3 fun _ _ e => e)
  have HKR3 := Lib.hid (HKR2.out.trans hk3 fun _ _ e => e)
  clear hk3 y1
  by_cases h2 : e2 ≠ 0
  · as_aux_lemma =>
    have hs : se = e2 := by have := HSE.out; simpa [firstE, h2] using this.symm
    have HS9 := Lib.hid hs
    have b1 : (e2 != 0) = true := by simp [h2]
    have b2 : (e2 == 0) = false := by simp [h2]
    clear hs h2
    go_wp2_with (fail)
    go_ret
    exact ⟨ret_int HS9.out.symm, HKR3.out⟩
  obtain rfl : e2 = 0 := Decidable.not_not.1 h2
  clear h2
  have y0 := HZ0.out _ HK3.out
  have y1 := HZ1.out _ HK3.out
  go_upto_region 7 with (fail)
  go_wp2_with (fail)
  refine (HC3.out _ HKR3.out).mono ?_
  unfold BoolPost
  rintro r w4 ⟨rfl, hk4⟩
  have HK4 := Lib.hid (HK3.out.trans hk4 fun _ _ e => e)
  have HKR4 := Lib.hid (HKR3.out.trans hk4 fun _ _ e => e)
  clear hk4 y0 y1
  cases cv with
  | false =>
    as_aux_lemma =>
    have hs : se = 9 := by have := HSE.out; simpa [firstE] using this.symm
    have HS9 := Lib.hid hs
    clear hs
    go_wp2_with (fail)
    go_ret
    exact ⟨ret_int HS9.out.symm, HKR4.out⟩
  | true =>
  have y2 := HZ2.out _ HK4.out
  by_cases hc1 : clock < 0
  · as_aux_lemma =>
    have hs : se = 6 := by have := HSE.out; simpa [firstE, hc1] using this.symm
    have HS9 := Lib.hid hs
    clear hs
    go_wp2_with (fail)
    go_ret
    exact ⟨ret_int HS9.out.symm, HKR4.out⟩
  by_cases hc2 : clock > 2147483647
  · as_aux_lemma =>
    have hs : se = 6 := by have := HSE.out; simpa [firstE, show (2147483647 : Int) < clock from hc2] using this.symm
    have HS9 := Lib.hid hs
    clear hs
    go_wp2_with (fail)
    go_ret
    exact ⟨ret_int HS9.out.symm, HKR4.out⟩
  have hse2 : firstE [le, if te ≠ 0 then te else lt, sie] = se := by
    have := HSE.out
    simpa [firstE, hc1, show ¬ (2147483647 : Int) < clock from hc2] using this
  have HSE2 := Lib.hid hse2
  have y0 := HZ0.out _ HK4.out
  have y1 := HZ1.out _ HK4.out
  have y3 := HZ3.out _ HK4.out
  have y4 := HZ4.out _ HK4.out
  have y5 := HZ5.out _ HK4.out
  have y6 := HZ6.out _ HK4.out
  have y7 := HZ7.out _ HK4.out
  have aM := Tryz.isAgg28
  have zM := Tryz.sizeOf28
  clear hse2 HSE
  go_wp2_with (fail)
  refine (HLG.out (by trivial) (by trivial) _ HKR4.out).mono ?_
  unfold IntPost
  rintro r w5 ⟨rfl, hk5⟩
  have HK5 := Lib.hid (HK4.out.trans hk5 fun _ _ e => e)
  have HKR5 := Lib.hid (HKR4.out.trans hk5 fun _ _ e => e)
  clear hk5 y0 y1 y2 y3 y4 y5 y6 y7 aM zM hc1 hc2
  by_cases h3 : le ≠ 0
  · as_aux_lemma =>
    have hs : se = le := by have := HSE2.out; simpa [firstE, h3] using this.symm
    have HS9 := Lib.hid hs
    have b1 : (le != 0) = true := by simp [h3]
    have b2 : (le == 0) = false := by simp [h3]
    clear hs h3
    go_wp2_with (fail)
    go_ret
    exact ⟨ret_int HS9.out.symm, HKR5.out⟩
  obtain rfl : le = 0 := Decidable.not_not.1 h3
  clear h3
  have y4 := HZ4.out _ HK5.out
  go_wp2_with (fail)
  refine (HC4.out _ HKR5.out).mono ?_
  unfold IntPost
  rintro r w6 ⟨rfl, hk6⟩
  have HK6 := Lib.hid (HK5.out.trans hk6 fun _ _ e => e)
  have HKR6 := Lib.hid (HKR5.out.trans hk6 fun _ _ e => e)
  clear hk6 y4
  by_cases h4 : te ≠ 0
  · as_aux_lemma =>
    have hs : se = te := by have := HSE2.out; simpa [firstE, h4] using this.symm
    have HS9 := Lib.hid hs
    have b1 : (te != 0) = true := by simp [h4]
    have b2 : (te == 0) = false := by simp [h4]
    clear hs h4
    go_wp2_with (fail)
    go_ret
    exact ⟨ret_int HS9.out.symm, HKR6.out⟩
  obtain rfl : te = 0 := Decidable.not_not.1 h4
  have hse3 : firstE [lt, sie] = se := by have := HSE2.out; simpa [firstE] using this
  have HSE3 := Lib.hid hse3
  clear h4 hse3 HSE2
  obtain ⟨N, hN⟩ : ∃ N, nodes.length = N := ⟨_, rfl⟩
  rw [hN] at HZ4
  have HN := Lib.hid hN
  have hl4 := HL4.out
  rw [hN] at hl4
  rw [hN]
  clear hN
  go_wp2_with (fail)
  go_loopw [4] (fun i wr => ∃ k : Nat, i = .int .i64 k ∧ k ≤ N ∧ Kept (fun _ => False) w1 wr ∧ lt = lateE clock 0 (nodes.drop k)) (fun i _ => N - (intOf i).toNat)
  case atStart => exact ⟨0, rfl, Nat.zero_le _, HK6.out, HLT.out.symm⟩
  case round =>
    obtain ⟨k, rfl, hk, hkw, hf⟩ := hrel
    have HF := Lib.hid hf
    have HKW := Lib.hid hkw
    have HKR := Lib.hid (HK.out.trans hkw fun _ _ e => e)
    have y4 := HZ4.out _ hkw
    clear hf hkw
    by_cases hlt : k < N
    · have hin : (k : Int) < (N : Int) := by omega
      have hkl : k < nodes.length := by rw [HN.out]; exact hlt
      obtain ⟨bb, ff, hA, hc⟩ := HNO.out.some_ (by rw [nds_len]; omega)
      subst hA
      have hr := nd_range (w := wr) (fun j u hj => HKR.out.cellF (hc j u hj)) k hkl
      have hd := List.drop_eq_getElem_cons hkl
      obtain ⟨x, hx⟩ : ∃ x, nodes[k] = x := ⟨_, rfl⟩
      rw [hx] at hr hd
      have HD := Lib.hid ((HF.out.trans (congrArg (lateE clock 0) hd)).trans (lateE_step ..))
      obtain ⟨⟨it, is⟩, ⟨rt, rs⟩, ru, st⟩ := x
      have x0 : wr.cell? ⟨bb, ff + k * 6, none⟩ = some (.int .i64 it) := by simpa using hr 0 _ rfl
      have y2 := HZ2.out _ HKW.out
      simp only at HD
      clear hr hd hx hc HF
      by_cases c1 : it > clock
      · as_aux_lemma =>
        have hs : se = 9 := by
          have h1 := HD.out
          rw [if_pos (show clock < it from c1)] at h1
          have := HSE3.out
          rw [h1] at this
          simpa [firstE] using this.symm
        have HS9 := Lib.hid hs
        clear hs
        go_upto_region 20 with (fail)
        go_quiet (fail)
        go_wp2_with (fail)
        go_ret
        exact ⟨ret_int HS9.out.symm, HKR.out.drewN nq⟩
      · as_aux_lemma =>
        have hs : lt = lateE clock 0 (nodes.drop (k + 1)) := by
          have h1 := HD.out
          rw [if_neg (show ¬ clock < it from c1)] at h1
          exact h1
        have HS9 := Lib.hid hs
        clear hs
        go_upto_region 20 with (fail)
        go_quiet (fail)
        go_wp2_with (fail)
        go_roundw
        case rel => exact ⟨k + 1, by go_num, by omega, HKW.out.drewN nq, HS9.out⟩
        case measure => simp [intOf]; omega
    · as_aux_lemma =>
      have hin : ¬ (k : Int) < (N : Int) := by omega
      have hs : se = sie := by
        have h1 := HF.out
        rw [List.drop_eq_nil_of_le (by rw [HN.out]; omega)] at h1
        have := HSE3.out
        rw [show lt = 0 from h1] at this
        have h2 : firstE [(0 : Int), sie] = sie := by
          simp only [firstE, if_true]
          split
          · rename_i h; exact h.symm
          · rfl
        rw [h2] at this
        exact this.symm
      have HS9 := Lib.hid hs
      have y5 := HZ5.out _ HKW.out
      have y6 := HZ6.out _ HKW.out
      have y7 := HZ7.out _ HKW.out
      clear hs
      go_wp2_with (fail)
      refine (HC5.out _ HKR.out).mono ?_
      unfold LoadPost
      rintro r w7 ⟨pp, rfl, hk7⟩
      have HK7 := Lib.hid (HKR.out.trans hk7 fun _ _ e => e)
      clear hk7 y4 y5 y6 y7
      go_wp2_with (fail)
      go_ret
      exact ⟨ret_int HS9.out.symm, HK7.out⟩
end Go.Proofs.YtnajbkccaclkcaaGreat
