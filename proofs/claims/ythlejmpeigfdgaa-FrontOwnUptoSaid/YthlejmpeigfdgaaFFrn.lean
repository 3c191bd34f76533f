/- The walk of a Front's Frontier. Conditions: the Front and the lists lie in memory. -/
import Derived.Test.YthlejmpeigfdgaaFVal
import Derived.Test.YthlejmpeigfdgaaFLaw
namespace Go.Proofs.Ythlejmpeigfdgaa
open Go Go.RowKit Go.Maps Go.Sort Go.Shelf

set_option maxRecDepth 100000 in
set_option maxHeartbeats 12800000 in
theorem FFrontier_any (p n : Nat) (F : Nat → Prop) (s : List Fp) (es : List Fe) (w : World) (h : FrAt w p F s es n) (M : Option Addr) (ms : List Int) (mc : Nat) (self : Int) (A : Option Addr) (v : List Dt) (c : Nat) (hM : IntsAt w M ms) (hv : DotsAt w A v) (hml : ms.length ≤ 1000000) (hl : v.length ≤ 1000000) (hwf : ∀ m ∈ ms, (Lit.int .i64 m).wf = true) :
    Calls Try.prog 19 #[.pointer (some ⟨p, 0, none⟩), .slice M ms.length mc, .int .i64 self, .slice A v.length c] w (FreshDots w (frontier s ms self v)) := by
  have hmf : ∀ (fn : Fn) (first cap : Array Value) (w : World), (Instr.makeFunc fn first cap).run Try.prog w = .ok (.func fn first cap) w := fun _ _ _ _ => rfl
  have HZ := Lib.hid h
  have HM := Lib.hid hM
  have HV := Lib.hid hv
  have HWF := Lib.hid hwf
  have HML := Lib.hid hml
  have HVL := Lib.hid hl
  have hck := Check_any A v c w hv (by omega)
  obtain ⟨e, hee⟩ : ∃ e, checkV v = e := ⟨_, rfl⟩
  rw [hee] at hck
  by_cases he : e = 0
  case neg =>
    as_aux_lemma =>
    have HN := Lib.hid (show frontier s ms self v = [] from if_neg (by rw [hee]; exact he))
    rw [HN.out]
    have hbe : (e != 0) = true := by simp [he]
    clear he hee h hM hv hwf
    go_enter Try.func19, Try.ntmps19
    go_wp2_with (fail)
    refine hck.mono ?_
    unfold IntPost
    rintro r w1 ⟨rfl, hk⟩
    have HK := Lib.hid hk
    clear hk hck
    go_wp2_with (fail)
    go_ret
    exact ⟨none, 0, rfl, World.ownsRow_nil _ _ _ _, HK.out⟩
  subst he
  have HY := Lib.hid (show frontier s ms self v = frontF s v self ms from if_pos hee)
  rw [HY.out]
  clear hee h hM hv hwf
  go_enter Try.func19, Try.ntmps19
  go_wp2_with (fail)
  refine hck.mono ?_
  unfold IntPost
  rintro r w1 ⟨rfl, hk⟩
  have HK1 := Lib.hid hk
  clear hk hck
  go_wp2_with (fail)
  refine (CloneD_any A v c w1 (HV.out.fresh HK1.out) hl).mono ?_
  rintro r w2 ⟨V0, c0, rfl, ho, hk⟩
  have HO2 := Lib.hid (own_base ho HK1.out.size)
  have HK2 := Lib.hid (HK1.out.trans hk fun _ _ e => e)
  clear ho hk HK1
  go_wp2_with (fail)
  refine (Values_any M ms.length mc w2).mono ?_
  rintro r w3 ⟨rfl, hb, hk⟩
  have HB3 := Lib.hid hb
  have HO3 := Lib.hid (hk.own HO2.out fun _ _ => id)
  have HK3 := Lib.hid (HK2.out.trans hk fun _ _ e => e)
  clear hb hk HK2 HO2
  go_wp2_with (fail)
  refine (SortedV_any w2.heap.size ms M mc w3 HB3.out (HM.out.fresh HK3.out) hml).mono ?_
  rintro r w4 ⟨KA, kc, rfl, hrow, hk⟩
  obtain ⟨ks, hks⟩ : ∃ ks, (ms.mergeSort fun x y => decide (x ≤ y)) = ks := ⟨_, rfl⟩
  have hp : ks.Perm ms := by rw [← hks]; exact List.mergeSort_perm _ _
  rw [hks] at hrow
  have hkl : ms.length = ks.length := hp.length_eq.symm
  rw [hkl] at hrow HML hml ⊢
  have HROW := Lib.hid hrow
  have HO4 := Lib.hid (hk.own HO3.out fun _ _ => id)
  have HK4 := Lib.hid (HK3.out.trans hk fun _ _ e => e)
  have HZ4 := Lib.hid (HZ.out.fresh HK4.out)
  have HP := Lib.hid hp
  have HKL := Lib.hid hkl
  have HFP := Lib.hid (frontF_perm (s := s) (own := v) (self := self) hp)
  clear hrow hk hks hp hkl HK3 HO3 HB3 HZ
  go_wp2_with (fail)
  go_loopw [9, 28] (fun cur i wr => ∃ (k : Nat) (V : Option Addr) (vc : Nat), i = .int .i64 k ∧ k ≤ ks.length ∧ cur = .slice V (frontF s v self (ks.take k)).length vc ∧ wr.ownsRow w.heap.size 56 2 (.slice V (frontF s v self (ks.take k)).length vc) (frontF s v self (ks.take k)).length (dots (frontF s v self (ks.take k))) ∧ Kept (fun _ => False) w4 wr) (fun _ i _ => ks.length - (intOf i).toNat)
  case atStart => exact ⟨0, V0, c0, rfl, Nat.zero_le _, rfl, HO4.out, Kept.refl _ _⟩
  case round =>
    obtain ⟨k, V, vc, rfl, hk, rfl, hro, hkk⟩ := hrel
    have HRO := Lib.hid hro
    have HKK := Lib.hid hkk
    have HROWR := Lib.hid (hkk.own HROW.out fun _ _ => id)
    have HZR := Lib.hid (HZ4.out.fresh hkk)
    clear hro hkk
    by_cases hlt : k < ks.length
    · as_aux_lemma =>
      obtain ⟨gk, e1, -, hcell, -⟩ := own_cells HROWR.out (by omega)
      subst e1
      obtain ⟨m, hm⟩ : ∃ m, ks[k] = m := ⟨_, rfl⟩
      have x0 : wr.cell? ⟨gk, k, none⟩ = some (.int .i64 m) := hcell k _ (by rw [← hm]; simp [encZ, hlt])
      have HNX := Lib.hid (show frontF s v self (ks.take (k + 1)) = frontS s self (frontF s v self (ks.take k)) m by rw [frontF_succ hlt, hm])
      have HMW := Lib.hid (HWF.out m (HP.out.mem_iff.1 (by rw [← hm]; exact List.getElem_mem hlt)))
      have HLV := Lib.hid (frontF_len (s := s) (self := self) (N := 1000000) (by omega) (ks.take k) v HVL.out)
      obtain ⟨u, hu⟩ : ∃ u, frontF s v self (ks.take k) = u := ⟨_, rfl⟩
      rw [hu] at HRO HNX HLV ⊢
      clear hm hcell hu
      have hi0 : (0 : Int) ≤ (k : Int) := by omega
      have hin : (k : Int) < (ks.length : Int) := by omega
      by_cases hms : m = self
      · as_aux_lemma =>
        have hne : (m != self) = false := by simp [hms]
        have HE := Lib.hid (show frontS s self u m = u from if_pos hms)
        clear hms
        go_wp2_with (fail)
        go_roundw
        case rel => exact ⟨k + 1, V, vc, by go_num, by omega, by rw [HNX.out, HE.out], by rw [HNX.out, HE.out]; exact HRO.out, HKK.out⟩
        case measure => simp [intOf]; omega
      · as_aux_lemma =>
        have hne : (m != self) = true := by simp [hms]
        have HE := Lib.hid (show frontS s self u m = leastD u (usableF s m) from if_neg hms)
        have HU := Lib.hid (usableF_len HZR.out.ok m)
        clear hms
        go_wp2_with (fail)
        refine (FUsable_any p n F s es wr HZR.out m HMW.out).mono ?_
        rintro r w5 ⟨U, uc, rfl, hou, hk5⟩
        have HOU := Lib.hid hou
        have HR5 := Lib.hid (hk5.own HRO.out fun _ _ => id)
        have HK5 := Lib.hid (HKK.out.trans hk5 fun _ _ e => e)
        have hl1 := HLV.out
        have hl2 := HU.out
        clear hou hk5 x0
        go_wp2_with (fail)
        refine (Least_any V U u (usableF s m) vc uc w5 (DotsAt.of_own HR5.out) (DotsAt.of_own HOU.out) (by omega) (by omega)).mono ?_
        rintro r w6 ⟨L, lc, rfl, hol, hk6⟩
        have HK6 := Lib.hid (HK5.out.trans hk6 fun _ _ e => e)
        have HOL := Lib.hid (own_base hol (Nat.le_trans HK4.out.size HK5.out.size))
        clear hol hk6
        go_wp2_with (fail)
        go_roundw
        case rel => exact ⟨k + 1, L, lc, by go_num, by omega, by rw [HNX.out, HE.out]; rfl, by rw [HNX.out, HE.out]; exact HOL.out, HK6.out⟩
        case measure => simp [intOf]; omega
    · obtain rfl : k = ks.length := by omega
      rw [List.take_length, HFP.out] at HRO ⊢
      go_wp2_with (fail)
      go_ret
      exact ⟨V, vc, rfl, HRO.out, HK4.out.trans HKK.out fun _ _ e => e⟩
theorem FFrontier_nil (w : World) (M : Option Addr) (ml mc : Nat) (self : Int) (A : Option Addr) (n c : Nat) :
    Calls Try.prog 19 #[.pointer none, .slice M ml mc, .int .i64 self, .slice A n c] w (FreshDots w []) := by
  go_enter Try.func19, Try.ntmps19
  go_wp2_with (fail)
  go_ret
  exact ⟨none, 0, rfl, World.ownsRow_nil _ _ _ _, Kept.refl _ _⟩
end Go.Proofs.Ythlejmpeigfdgaa
