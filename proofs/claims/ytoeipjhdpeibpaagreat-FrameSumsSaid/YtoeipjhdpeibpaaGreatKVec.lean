/- The walk of the law's vectors: are two lists the same Dots. Conditions: they lie in memory. -/
import Derived.Test.YtoeipjhdpeibpaaGreatVSame
namespace Go.Proofs.YtoeipjhdpeibpaaGreat
open Go.RowKit

set_option maxRecDepth 100000 in
set_option maxHeartbeats 1600000 in
theorem Vec10_any (A B : Option Addr) (l m : List Dt) (c d : Nat) (w : World) (hl : DotsAt w A l) (hm : DotsAt w B m) (hlen : l.length ≤ 4611686018427387904) :
    Calls Tryz.prog 44 #[.slice A l.length c, .slice B m.length d] w (SamePost w (decide (l = m))) := by
  by_cases hn : l.length = m.length
  · have HL := Lib.hid hl
    have HM := Lib.hid hm
    clear hl hm
    obtain ⟨b, hb⟩ : ∃ b, decide (l = m) = b := ⟨_, rfl⟩
    rw [hb, ← hn]
    have HN := Lib.hid hn
    have HBB := Lib.hid hb
    clear hn hb
    go_enter Tryz.func44, Tryz.ntmps44
    go_wp2_with (fail)
    go_loopw [5] (fun i wr => ∃ k : Nat, i = .int .i64 k ∧ k ≤ l.length ∧ l.take k = m.take k ∧ Kept (fun _ => False) w wr) (fun i _ => l.length - (intOf i).toNat)
    case atStart => exact ⟨0, rfl, Nat.zero_le _, rfl, Kept.refl _ _⟩
    case round =>
      obtain ⟨k, rfl, hk, hat, hkk⟩ := hrel
      have HK := Lib.hid hkk
      have HAT := Lib.hid hat
      by_cases hlt : k < l.length
      · obtain ⟨ad, rfl, x0, x1⟩ := HL.out.fresh hkk k hlt
        obtain ⟨ad', rfl, y0, y1⟩ := HM.out.fresh hkk k (by rw [← HN.out]; exact hlt)
        generalize hd : l[k] = d1 at x0 x1
        generalize hd' : m[k]'(by rw [← HN.out]; exact hlt) = d2 at y0 y1
        have HD := Lib.hid hd
        have HD' := Lib.hid hd'
        clear hd hd' hkk hat
        obtain ⟨a1, b1⟩ := d1
        obtain ⟨a2, b2⟩ := d2
        simp only at x0 x1 y0 y1
        have hx := fun W => neq_dot a1 b1 a2 b2 W
        by_cases he : a1 = a2 ∧ b1 = b2
        · rw [decide_eq_true he] at hx
          have HE := Lib.hid he
          clear he
          go_wp2_with (fail)
          go_quiet (fail)
          go_wp2
          go_roundw
          case rel =>
            refine ⟨k + 1, by go_num, by omega, ?_, HK.out.trans (Kept.drewN_eq nq) fun _ _ e => e⟩
            have hm' : k < m.length := by rw [← HN.out]; exact hlt
            rw [List.take_succ_eq_append_getElem hlt, List.take_succ_eq_append_getElem hm', HAT.out, HD.out, HD'.out, HE.out.1, HE.out.2]
          case measure => simp [intOf]; omega
        · rw [decide_eq_false he] at hx
          have HE := Lib.hid he
          clear he
          go_wp2_with (fail)
          go_quiet (fail)
          go_wp2
          go_ret
          refine ⟨?_, HK.out.trans (Kept.drewN_eq nq) fun _ _ e => e⟩
          rw [← HBB.out]
          refine (ret_bool (decide_eq_false fun e => HE.out ?_)).symm
          subst e
          have := HD.out.symm.trans HD'.out
          injection this with e1 e2
          exact ⟨e1, e2⟩
      · obtain rfl : k = l.length := by omega
        have hkk' := HK.out
        clear hat hkk
        go_wp2
        go_ret
        refine ⟨?_, hkk'⟩
        rw [← HBB.out]
        refine (ret_bool (decide_eq_true ?_)).symm
        have := HAT.out
        rwa [List.take_length, HN.out, List.take_length] at this
  · have hn' : (l.length : Int) ≠ m.length := by omega
    have hb : decide (l = m) = false := decide_eq_false fun e => hn (by rw [e])
    rw [hb]
    generalize l.length = p at *
    generalize m.length = q at *
    clear hb hl hm
    go_enter Tryz.func44, Tryz.ntmps44
    go_wp2
    go_ret
    exact ⟨rfl, Kept.refl _ _⟩
end Go.Proofs.YtoeipjhdpeibpaaGreat
