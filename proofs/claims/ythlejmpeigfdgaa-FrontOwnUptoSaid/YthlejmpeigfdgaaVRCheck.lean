/- The walk of the reference's Check. Conditions: the Dots lie in memory as DotsAt says. -/
import Derived.Test.YthlejmpeigfdgaaVCheck
namespace Go.Proofs.Ythlejmpeigfdgaa
open Go.RowKit

theorem cf_site {z : Int} {d : Dt} {l : List Dt} (h : siteB d.site = false) : checkFrom z (d :: l) = 1 := by rw [checkFrom, if_pos h]
theorem cf_seq {z : Int} {d : Dt} {l : List Dt} (h : siteB d.site = true) (h1 : d.seq < 1 ∨ 2147483647 < d.seq) : checkFrom z (d :: l) = 6 := by rw [checkFrom, if_neg (by rw [h]; decide), if_pos h1]
theorem cf_order {z : Int} {d : Dt} {l : List Dt} (h : siteB d.site = true) (h1 : ¬(d.seq < 1 ∨ 2147483647 < d.seq)) (h2 : d.site ≤ z) : checkFrom z (d :: l) = 9 := by rw [checkFrom, if_neg (by rw [h]; decide), if_neg h1, if_pos h2]
theorem cf_next {z : Int} {d : Dt} {l : List Dt} (h : siteB d.site = true) (h1 : ¬(d.seq < 1 ∨ 2147483647 < d.seq)) (h2 : ¬ d.site ≤ z) : checkFrom z (d :: l) = checkFrom d.site l := by rw [checkFrom, if_neg (by rw [h]; decide), if_neg h1, if_neg h2]

set_option maxRecDepth 100000 in
set_option maxHeartbeats 3200000 in
theorem RCheck_any (A : Option Addr) (l : List Dt) (c : Nat) (w : World) (hl : DotsAt w A l) (hlen : l.length ≤ 4611686018427387904) :
    Calls Try.prog 21 #[.slice A l.length c] w (IntPost w (checkV l)) := by
  generalize hs : checkV l = res
  have HL := Lib.hid hl
  have HS := Lib.hid hs
  clear hs hl
  go_enter Try.func21, Try.ntmps21
  go_wp2_with (fail)
  go_loopw [3] (fun i wr => ∃ k : Nat, i = .int .i64 k ∧ k ≤ l.length ∧ ∃ z : Int, (k = 0 → z = 0) ∧ (∀ h : 0 < k, ∃ h2 : k - 1 < l.length, l[k - 1].site = z) ∧ checkFrom z (l.drop k) = res ∧ Kept (fun _ => False) w wr) (fun i _ => l.length - (intOf i).toNat)
  case atStart => exact ⟨0, rfl, Nat.zero_le _, 0, fun _ => rfl, fun h => by omega, HS.out, Kept.refl _ _⟩
  case round =>
    obtain ⟨k, rfl, hk, z, hz, hzz, hc, hkw⟩ := hrel
    have HK := Lib.hid hkw
    by_cases hlt : k < l.length
    · obtain ⟨ad, rfl, x0, x1⟩ := HL.out.fresh hkw k hlt
      rw [drop_eq hlt] at hc
      have hzc : ∀ h : 0 < k, wr.cell? (ad.add ((k - 1) * 2)) = some (.int .i64 z) := fun h => by
        obtain ⟨h2, he⟩ := hzz h
        obtain ⟨ad', e, y0, y1⟩ := HL.out.fresh hkw (k - 1) h2
        injection e with e
        rw [e, ← he]
        exact y0
      generalize hd : l[k] = d at x0 x1 hc
      have HD := Lib.hid hd
      have HC := Lib.hid hc
      have HZ := Lib.hid hz
      clear hd hkw hc hzz hz
      obtain ⟨site, seq⟩ := d
      simp only at x0 x1
      cases hsi : siteB site with
      | false =>
        obtain rfl : 1 = res := by rw [← HC.out, cf_site hsi]
        have h : site < 1 ∨ (1 ≤ site ∧ 16 < site) := by simp [siteB] at hsi; omega
        clear hsi hzc
        rcases h with h | ⟨h, h2⟩
        case' inl => have e1 : decide (site < 1) = true := decide_eq_true h
        all_goals
          go_wp2
          go_ret
          exact ⟨rfl, HK.out⟩
      | true =>
        have h : 1 ≤ site ∧ site ≤ 16 := by simpa [siteB] using hsi
        obtain ⟨p1, p2⟩ := h
        have HSI := Lib.hid hsi
        clear hsi
        by_cases h1 : seq < 1
        · obtain rfl : 6 = res := by rw [← HC.out, cf_seq HSI.out (.inl h1)]
          clear hzc
          go_wp2
          go_ret
          exact ⟨rfl, HK.out⟩
        · by_cases h2 : 2147483647 < seq
          · obtain rfl : 6 = res := by rw [← HC.out, cf_seq HSI.out (.inr h2)]
            clear hzc
            go_wp2
            go_ret
            exact ⟨rfl, HK.out⟩
          · by_cases h3 : site ≤ z
            · obtain rfl : 9 = res := by rw [← HC.out, cf_order HSI.out (fun h => h.elim h1 h2) h3]
              cases k with
              | zero => exact absurd (HZ.out rfl) (by omega)
              | succ k =>
                have y0 := hzc (by omega)
                simp only [Nat.add_sub_cancel] at y0
                clear hzc
                go_wp2_with (fail)
                go_quiet (fail)
                go_wp2
                go_ret
                exact ⟨rfl, HK.out.trans (Kept.drewN_eq nq) fun _ _ e => e⟩
            · have HF := Lib.hid (show checkFrom site (l.drop (k + 1)) = res by rw [← HC.out, cf_next HSI.out (fun h => h.elim h1 h2) h3])
              by_cases h0 : k = 0
              · have e0 : decide (0 < k) = false := decide_eq_false (by omega)
                clear hzc h0
                go_wp2_with (fail)
                go_quiet (fail)
                go_wp2
                go_roundw
                case rel => exact ⟨k + 1, by go_num, by omega, site, fun h => by omega, fun _ => ⟨hlt, by simp only [Nat.add_sub_cancel]; rw [HD.out]⟩, HF.out, HK.out.trans (Kept.drewN_eq nq) fun _ _ e => e⟩
                case measure => simp [intOf]; omega
              · cases k with
                | zero => exact absurd rfl h0
                | succ k =>
                  have y0 := hzc (by omega)
                  simp only [Nat.add_sub_cancel] at y0
                  have e3 : decide (site ≤ z) = false := decide_eq_false h3
                  clear hzc h0
                  go_wp2_with (fail)
                  go_quiet (fail)
                  go_wp2
                  go_roundw
                  case rel => exact ⟨k + 1 + 1, by go_num, by omega, site, fun h => by omega, fun _ => ⟨hlt, by simp only [Nat.add_sub_cancel]; rw [HD.out]⟩, HF.out, HK.out.trans (Kept.drewN_eq nq) fun _ _ e => e⟩
                  case measure => simp [intOf]; omega
    · obtain rfl : k = l.length := by omega
      obtain rfl : 0 = res := by rw [← hc, List.drop_length]; rfl
      clear hc hkw hz hzz
      go_wp2
      go_ret
      exact ⟨rfl, HK.out⟩
end Go.Proofs.Ythlejmpeigfdgaa
