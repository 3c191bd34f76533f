/- The walk of the law's alike: it is true. Conditions: a Front and the reference's lie in memory, with the same rows. -/
import Derived.Test.YthlejmpeigfdgaaFStp
namespace Go.Proofs.Ythlejmpeigfdgaa
open Go Go.RowKit

set_option maxRecDepth 100000 in
set_option maxHeartbeats 6400000 in
theorem Alike14_any (p q N : Nat) (s : List Fp) (G : Nat → Prop) (w : World) (h1 : Fob p s N G w) (h2 : Rfb q s G w) :
    Calls Try.prog 14 #[.pointer (some ⟨p, 0, none⟩), .pointer (some ⟨q, 0, none⟩)] w (KnownPost w) := by
  have HF := Lib.hid h1
  have HR := Lib.hid h2
  clear h1 h2
  go_enter Try.func14, Try.ntmps14
  go_wp2_with (fail)
  go_loopw [5] (fun n wr => ∃ m : Int, n = .int .i64 m ∧ -1 ≤ m ∧ m ≤ 18 ∧ Kept (fun _ => False) w wr) (fun n _ => (18 - intOf n).toNat)
  case atStart => exact ⟨-1, rfl, by omega, by omega, Kept.refl _ _⟩
  case round =>
    obtain ⟨m, rfl, hm1, hm2, hkk⟩ := hrel
    have HK := Lib.hid hkk
    have HF1 := Lib.hid ((Fob.ob _ _ _).fresh HF.out hkk)
    have HR1 := Lib.hid ((Rfb.ob _ _).fresh HR.out hkk)
    clear hkk
    by_cases hlt : m ≤ 17
    · as_aux_lemma =>
      have hwf : (Lit.int .i64 m).wf = true := by
        simp only [Lit.wf, Bool.and_eq_true, decide_eq_true_eq]
        exact ⟨by show (-9223372036854775808 : Int) ≤ m; omega, by show m ≤ 9223372036854775807; omega⟩
      have HWF := Lib.hid hwf
      have HL1 := Lib.hid (rowF_len HF1.out.ok m)
      have HL2 := Lib.hid (usableF_len HF1.out.ok m)
      obtain ⟨l, hl⟩ : ∃ l, rowF s m = l := ⟨_, rfl⟩
      obtain ⟨u, hu⟩ : ∃ u, usableF s m = u := ⟨_, rfl⟩
      obtain ⟨b, hb⟩ : ∃ b, heardF s m = b := ⟨_, rfl⟩
      have HLE := Lib.hid hl
      have HUE := Lib.hid hu
      have HBE := Lib.hid hb
      rw [hl] at HL1
      rw [hu] at HL2
      clear hl hu hb hwf
      have hro := HF1.out.row_ HWF.out
      rw [HLE.out, HBE.out] at hro
      have HRO := Lib.hid hro
      clear hro
      go_wp2_with (fail)
      refine HRO.out.mono ?_
      rintro r w1 ⟨A1, c1, rfl, ho, hk⟩
      have HO1 := Lib.hid ho
      have HR2 := Lib.hid ((Rfb.ob _ _).fresh HR1.out hk)
      have HF2 := Lib.hid ((Fob.ob _ _ _).fresh HF1.out hk)
      have HK1 := Lib.hid (HK.out.trans hk fun _ _ e => e)
      have hro := HR2.out.row_ (m := m)
      rw [HLE.out, HBE.out] at hro
      have HRP := Lib.hid hro
      clear hro ho hk HRO HF1 HR1
      go_wp2_with (fail)
      refine HRP.out.mono ?_
      rintro r w2 ⟨A2, c2, rfl, ho, hk⟩
      have HO2 := Lib.hid (DotsAt.of_own ho)
      have HO12 := Lib.hid (DotsAt.of_own (hk.own HO1.out fun _ _ => id))
      have HR3 := Lib.hid ((Rfb.ob _ _).fresh HR2.out hk)
      have HF3 := Lib.hid ((Fob.ob _ _ _).fresh HF2.out hk)
      have HK2 := Lib.hid (HK1.out.trans hk fun _ _ e => e)
      clear ho hk HRP HF2 HR2 HO1 HK1
      have hve := vectors_any A1 A2 l l c1 c2 w2 HO12.out HO2.out (by have := HL1.out; omega)
      rw [decide_eq_true rfl] at hve
      have HVE := Lib.hid hve
      clear hve
      have hbb : (b != b) = false := by cases b <;> rfl
      go_wp2_with (fail)
      refine HVE.out.mono ?_
      unfold SamePost
      rintro r w3 ⟨rfl, hk⟩
      have HR4 := Lib.hid ((Rfb.ob _ _).fresh HR3.out hk)
      have HF4 := Lib.hid ((Fob.ob _ _ _).fresh HF3.out hk)
      have HK3 := Lib.hid (HK2.out.trans hk fun _ _ e => e)
      clear hk HVE HF3 HR3 HK2 HO2 HO12
      have hus := HF4.out.usable_ HWF.out
      rw [HUE.out] at hus
      have HUS := Lib.hid hus
      clear hus
      go_wp2_with (fail)
      refine HUS.out.mono ?_
      rintro r w4 ⟨A3, c3, rfl, ho, hk⟩
      have HO3 := Lib.hid ho
      have HR5 := Lib.hid ((Rfb.ob _ _).fresh HR4.out hk)
      have HK4 := Lib.hid (HK3.out.trans hk fun _ _ e => e)
      have hus := HR5.out.usable_ (m := m)
      rw [HUE.out] at hus
      have HUT := Lib.hid hus
      clear ho hk hus HUS HF4 HR4 HK3
      go_wp2_with (fail)
      refine HUT.out.mono ?_
      rintro r w5 ⟨A4, c4, rfl, ho, hk⟩
      have HO4 := Lib.hid (DotsAt.of_own ho)
      have HO34 := Lib.hid (DotsAt.of_own (hk.own HO3.out fun _ _ => id))
      have HK5 := Lib.hid (HK4.out.trans hk fun _ _ e => e)
      have hve := vectors_any A3 A4 u u c3 c4 w5 HO34.out HO4.out (by have := HL2.out; omega)
      rw [decide_eq_true rfl] at hve
      have HVE := Lib.hid hve
      clear ho hk hve HUT HR5 HK4 HO3
      go_wp2_with (fail)
      refine HVE.out.mono ?_
      unfold SamePost
      rintro r w6 ⟨rfl, hk⟩
      have HK6 := Lib.hid (HK5.out.trans hk fun _ _ e => e)
      clear hk HVE HK5
      go_wp2_with (fail)
      go_roundw
      case rel => exact ⟨m + 1, by go_num, by omega, by omega, HK6.out⟩
      case measure => simp [intOf]; omega
    · go_wp2_with (fail)
      go_ret
      exact ⟨rfl, HK.out⟩
end Go.Proofs.Ythlejmpeigfdgaa
