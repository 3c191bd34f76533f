/- The walks of both Checks. Conditions: the Dots lie in memory as DotsAt says. -/
import Derived.Test.YtoeipjhdpeibpaaGreatVSum
namespace Go.Proofs.YtoeipjhdpeibpaaGreat
open Go.RowKit

theorem drop_eq {l : List Dt} {k : Nat} (h : k < l.length) : l.drop k = l[k] :: l.drop (k + 1) := List.drop_eq_getElem_cons h

set_option maxRecDepth 100000 in
set_option maxHeartbeats 1600000 in
theorem Check_any (A : Option Addr) (l : List Dt) (c : Nat) (w : World) (hl : DotsAt w A l) (hlen : l.length ≤ 4611686018427387904) :
    Calls Tryz.prog 33 #[.slice A l.length c] w (IntPost w (checkV l)) := by
  generalize hs : checkV l = res
  have HL := Lib.hid hl
  have HS := Lib.hid hs
  clear hs hl
  go_enter Tryz.func33, Tryz.ntmps33
  go_wp2_with (fail)
  go_loopw [3, 8] (fun la i wr => ∃ k : Nat, i = .int .i64 k ∧ k ≤ l.length ∧ ∃ z : Int, la = .int .i64 z ∧ checkFrom z (l.drop k) = res ∧ Kept (fun _ => False) w wr) (fun _ i _ => l.length - (intOf i).toNat)
  case atStart => exact ⟨0, rfl, Nat.zero_le _, 0, rfl, HS.out, Kept.refl _ _⟩
  case round =>
    obtain ⟨k, rfl, hk, z, rfl, hc, hkw⟩ := hrel
    have HK := Lib.hid hkw
    by_cases hlt : k < l.length
    · obtain ⟨ad, rfl, x0, x1⟩ := HL.out.fresh hkw k hlt
      rw [drop_eq hlt] at hc
      generalize hd : l[k] = d at x0 x1 hc
      have HC := Lib.hid hc
      have HX := Lib.hid (Box.new wr 55 #[.int .i64 d.site, .int .i64 d.seq])
      have HK2 := Lib.hid (HK.out.alloc (.cells #[.int .i64 d.site, .int .i64 d.seq] 55))
      clear hd hkw hc
      obtain ⟨site, seq⟩ := d
      simp only at x0 x1 HX HK2
      go_wp2_with (fail)
      generalize wr.alloc (.cells #[.int .i64 site, .int .i64 seq] 55) = W at HX HK2 ⊢
      have y0 : W.cell? ⟨wr.heap.size, 0, none⟩ = some (.int .i64 site) := by simpa using HX.out.cell 0
      have y1 : W.cell? ⟨wr.heap.size, 1, none⟩ = some (.int .i64 seq) := by simpa using HX.out.cell 1
      clear x0 x1
      cases hsi : siteB site with
      | false =>
        obtain rfl : 1 = res := by rw [← HC.out, checkFrom, if_pos hsi]
        refine (isSite_is _ false _ hsi).mono ?_
        rintro e w1 ⟨rfl, rfl⟩
        clear hsi
        go_wp2
        go_ret
        exact ⟨rfl, HK2.out⟩
      | true =>
        refine (isSite_is _ true _ hsi).mono ?_
        rintro e w1 ⟨rfl, rfl⟩
        have HSI := Lib.hid hsi
        clear hsi
        by_cases h1 : seq < 1
        · obtain rfl : 6 = res := by rw [← HC.out, checkFrom, if_neg (by rw [HSI.out]; decide), if_pos (.inl h1)]
          go_wp2
          go_ret
          exact ⟨rfl, HK2.out⟩
        · by_cases h2 : 2147483647 < seq
          · obtain rfl : 6 = res := by rw [← HC.out, checkFrom, if_neg (by rw [HSI.out]; decide), if_pos (.inr h2)]
            go_wp2
            go_ret
            exact ⟨rfl, HK2.out⟩
          · by_cases h3 : site ≤ z
            · obtain rfl : 9 = res := by rw [← HC.out, checkFrom, if_neg (by rw [HSI.out]; decide), if_neg (fun h => h.elim h1 h2), if_pos h3]
              go_wp2
              go_ret
              exact ⟨rfl, HK2.out⟩
            · have HF := Lib.hid (show checkFrom site (l.drop (k + 1)) = res by rw [← HC.out, checkFrom, if_neg (by rw [HSI.out]; decide), if_neg (fun h => h.elim h1 h2), if_neg h3])
              go_wp2
              go_roundw
              case rel => exact ⟨k + 1, by go_num, by omega, site, rfl, HF.out, HK2.out⟩
              case measure => simp [intOf]; omega
    · obtain rfl : k = l.length := by omega
      obtain rfl : 0 = res := by rw [← hc, List.drop_length]; rfl
      clear hc hkw
      go_wp2
      go_ret
      exact ⟨rfl, HK.out⟩
end Go.Proofs.YtoeipjhdpeibpaaGreat
