/- The walk of the reference's Frontier. Conditions: the Front and the lists lie in memory. -/
import Derived.Test.YthlejmpeigfdgaaRFSet
namespace Go.Proofs.Ythlejmpeigfdgaa
open Go Go.RowKit

theorem frontF_check {s : List Fp} {self : Int} : ∀ (ms : List Int) (own : List Dt), checkV own = 0 → checkV (frontF s own self ms) = 0
  | [], _, h => h
  | m :: ms, own, h => frontF_check ms _ (by unfold frontS; split; exact h; exact check_vec ((Row.says own).minR (Row.says _)))
set_option maxRecDepth 100000 in
set_option maxHeartbeats 3200000 in
theorem RFFrontier_any (g : Nat) (F : Nat → Prop) (s : List Fp) (w : World) (h : RfS w g F s) (M : Option Addr) (ms : List Int) (mc : Nat) (self : Int) (A : Option Addr) (v : List Dt) (c : Nat) (hM : IntsAt w M ms) (hv : DotsAt w A v) (hml : ms.length ≤ 1000000) (hl : v.length ≤ 1000000) :
    Calls Try.prog 27 #[.pointer (some ⟨g, 0, none⟩), .slice M ms.length mc, .int .i64 self, .slice A v.length c] w (FreshDots w (frontier s ms self v)) := by
  have HZ := Lib.hid h
  have HM := Lib.hid hM
  have HV := Lib.hid hv
  have HVL := Lib.hid hl
  have hck := RCheck_any A v c w hv (by omega)
  by_cases he : checkV v = 0
  case neg =>
    as_aux_lemma =>
    have HN := Lib.hid (show frontier s ms self v = [] from if_neg he)
    rw [HN.out]
    obtain ⟨e, hee⟩ : ∃ e, checkV v = e := ⟨_, rfl⟩
    rw [hee] at he hck
    have hbe : (e != 0) = true := by simp [he]
    clear he hee h hM hv
    go_enter Try.func27, Try.ntmps27
    go_wp2_with (fail)
    refine hck.mono ?_
    unfold IntPost
    rintro r w1 ⟨rfl, hk⟩
    have HK := Lib.hid hk
    clear hk hck
    go_wp2_with (fail)
    go_ret
    exact ⟨none, 0, rfl, World.ownsRow_nil _ _ _ _, HK.out⟩
  have HCK := Lib.hid he
  rw [he] at hck
  have HY := Lib.hid (show frontier s ms self v = frontF s v self ms from if_pos he)
  rw [HY.out]
  clear he h hM hv
  go_enter Try.func27, Try.ntmps27
  go_wp2_with (fail)
  refine hck.mono ?_
  unfold IntPost
  rintro r w1 ⟨rfl, hk⟩
  have HK1 := Lib.hid hk
  clear hk hck
  go_wp2_with (fail)
  refine (RMerge_any A none v [] c 0 w1 (HV.out.fresh HK1.out) DotsAt.nil (by omega) (by simp)).mono ?_
  rw [merge_nil HCK.out]
  rintro r w2 ⟨V0, c0, rfl, ho, hk⟩
  have HO2 := Lib.hid (own_base ho HK1.out.size)
  have HK2 := Lib.hid (HK1.out.trans hk fun _ _ e => e)
  clear ho hk HK1
  go_wp2_with (fail)
  go_loopw [9, 10] (fun cur i wr => ∃ (k : Nat) (V : Option Addr) (vc : Nat), i = .int .i64 k ∧ k ≤ ms.length ∧ cur = .slice V (frontF s v self (ms.take k)).length vc ∧ wr.ownsRow w.heap.size 56 2 (.slice V (frontF s v self (ms.take k)).length vc) (frontF s v self (ms.take k)).length (dots (frontF s v self (ms.take k))) ∧ Kept (fun _ => False) w wr) (fun _ i _ => ms.length - (intOf i).toNat)
  case atStart => exact ⟨0, V0, c0, rfl, Nat.zero_le _, rfl, HO2.out, HK2.out⟩
  case round =>
    obtain ⟨k, V, vc, rfl, hk, rfl, hro, hkk⟩ := hrel
    have HRO := Lib.hid hro
    have HKK := Lib.hid hkk
    have HZR := Lib.hid (HZ.out.fresh hkk)
    have HMR := Lib.hid (HM.out.fresh hkk)
    clear hro hkk HO2 HK2
    by_cases hlt : k < ms.length
    · as_aux_lemma =>
      obtain ⟨ad, rfl, hcell⟩ := HMR.out k hlt
      obtain ⟨m, hm⟩ : ∃ m, ms[k] = m := ⟨_, rfl⟩
      rw [hm] at hcell
      have HNX := Lib.hid (show frontF s v self (ms.take (k + 1)) = frontS s self (frontF s v self (ms.take k)) m by rw [frontF_succ hlt, hm])
      have HLV := Lib.hid (frontF_len (s := s) (self := self) (N := 1000000) (by omega) (ms.take k) v HVL.out)
      obtain ⟨u, hu⟩ : ∃ u, frontF s v self (ms.take k) = u := ⟨_, rfl⟩
      rw [hu] at HRO HNX HLV ⊢
      clear hm hu
      have hi0 : (0 : Int) ≤ (k : Int) := by omega
      have hin : (k : Int) < (ms.length : Int) := by omega
      by_cases hms : m = self
      · as_aux_lemma =>
        have hne : (m != self) = false := by simp [hms]
        have HE := Lib.hid (show frontS s self u m = u from if_pos hms)
        clear hms
        go_wp2_with (fail)
        go_roundw
        case rel => exact ⟨k + 1, V, vc, by go_num, by omega, by rw [HNX.out, HE.out], by rw [HNX.out, HE.out]; exact HRO.out, HKK.out⟩
        case measure => simp [intOf]; omega
      · as_aux_lemma =>
        have hne : (m != self) = true := by simp [hms]
        have HE := Lib.hid (show frontS s self u m = leastD u (usableF s m) from if_neg hms)
        have HU := Lib.hid (usableF_len HZR.out.1 m)
        clear hms
        go_wp2_with (fail)
        refine (RFUsable_any g F s wr HZR.out m).mono ?_
        rintro r w5 ⟨U, uc, rfl, hou, hk5⟩
        have HOU := Lib.hid hou
        have HR5 := Lib.hid (hk5.own HRO.out fun _ _ => id)
        have HK5 := Lib.hid (HKK.out.trans hk5 fun _ _ e => e)
        have hl1 := HLV.out
        have hl2 := HU.out
        clear hou hk5 hcell
        go_wp2_with (fail)
        refine (RLeast_any V U u (usableF s m) vc uc w5 (DotsAt.of_own HR5.out) (DotsAt.of_own HOU.out) (by omega) (by omega)).mono ?_
        rintro r w6 ⟨L, lc, rfl, hol, hk6⟩
        have HK6 := Lib.hid (HK5.out.trans hk6 fun _ _ e => e)
        have HOL := Lib.hid (own_base hol HK5.out.size)
        clear hol hk6
        go_wp2_with (fail)
        go_roundw
        case rel => exact ⟨k + 1, L, lc, by go_num, by omega, by rw [HNX.out, HE.out]; rfl, by rw [HNX.out, HE.out]; exact HOL.out, HK6.out⟩
        case measure => simp [intOf]; omega
    · obtain rfl : k = ms.length := by omega
      rw [List.take_length] at HRO ⊢
      go_wp2_with (fail)
      go_ret
      exact ⟨V, vc, rfl, HRO.out, HKK.out⟩
end Go.Proofs.Ythlejmpeigfdgaa
