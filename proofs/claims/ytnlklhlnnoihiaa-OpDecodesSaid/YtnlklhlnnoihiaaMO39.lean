/- How many operations of a site a vector says, by the first Dot: the walk of the law's of, and that a vector that may be one says the same. Conditions: the Dots lie in memory. -/
import Derived.Test.YtnlklhlnnoihiaaMO38
namespace Go.Proofs.Ytnlklhlnnoihiaa
open Go Go.RowKit

def firstV : List Dt → Int → Int
  | [], _ => 0
  | d :: l, s => if d.site = s then d.seq else firstV l s
theorem firstV_cons (d : Dt) (l : List Dt) (s : Int) : firstV (d :: l) s = if d.site = s then d.seq else firstV l s := rfl
theorem checkFrom_cons {last : Int} {d : Dt} {l : List Dt} (h : checkFrom last (d :: l) = 0) : (1 ≤ d.site ∧ d.site ≤ 16) ∧ (1 ≤ d.seq ∧ d.seq ≤ 2147483647) ∧ last < d.site ∧ checkFrom d.site l = 0 := by
  unfold checkFrom at h
  split at h
  · cases h
  rename_i h1
  split at h
  · cases h
  rename_i h2
  split at h
  · cases h
  rename_i h3
  have h1' : siteB d.site = true := by simpa using h1
  exact ⟨by simpa [siteB] using h1', by omega, by omega, h⟩
theorem firstV_low : ∀ (l : List Dt) (last s : Int), checkFrom last l = 0 → s ≤ last → firstV l s = 0
  | [], _, _, _, _ => rfl
  | d :: l, last, s, h, hs => by
    obtain ⟨_, _, h3, h4⟩ := checkFrom_cons h
    rw [firstV_cons, if_neg (by omega)]
    exact firstV_low l d.site s h4 (by omega)
theorem fold_first : ∀ (l : List Dt) (last : Int) (r : List Int), checkFrom last l = 0 → 0 ≤ last → r.length = 17 → (∀ s : Int, last < s → rg r s.toNat = 0) →
    ∀ s : Int, 1 ≤ s → s ≤ 16 → rg (l.foldl lay r) s.toNat = if last < s then firstV l s else rg r s.toNat
  | [], last, r, _, _, _, hz, s, _, _ => by
    show rg r s.toNat = _
    split
    · rename_i h; exact hz s h
    · rfl
  | d :: l, last, r, h, h0, hr, hz, s, hs, hs' => by
    obtain ⟨⟨a1, a2⟩, ⟨b1, b2⟩, h3, h4⟩ := checkFrom_cons h
    have hl : lay r d = r.set d.site.toNat d.seq := by
      unfold lay
      have : okDot d = true := by simp [okDot]; omega
      rw [if_pos this, hz d.site h3]
      congr 1
      omega
    show rg (l.foldl lay (lay r d)) s.toNat = _
    rw [hl]
    have hg : ∀ t : Int, 0 ≤ t → rg (r.set d.site.toNat d.seq) t.toNat = if t = d.site then d.seq else rg r t.toNat := fun t ht => by
      rw [rg_set _ _ _ _ (by omega)]
      by_cases e : t = d.site
      · rw [if_pos e, if_pos (by rw [e])]
      · rw [if_neg e, if_neg (by omega)]
    rw [fold_first l d.site _ h4 (by omega) (by rw [List.length_set]; exact hr) (fun t ht => by rw [hg t (by omega), if_neg (by omega)]; exact hz t (by omega)) s hs hs', hg s (by omega)]
    rw [firstV_cons]
    by_cases e1 : d.site < s
    · rw [if_pos e1, if_pos (by omega), if_neg (by omega)]
    · rw [if_neg e1]
      by_cases e2 : s = d.site
      · rw [if_pos e2, if_pos (by omega), if_pos e2.symm]
      · rw [if_neg e2]
        by_cases e3 : last < s
        · rw [if_pos e3, if_neg (fun e => e2 e.symm), hz s e3, firstV_low l d.site s h4 (by omega)]
        · rw [if_neg e3]
theorem getV_first {l : List Dt} (h : checkV l = 0) {s : Int} (h1 : 1 ≤ s) (h2 : s ≤ 16) : getV l s = firstV l s := by
  unfold getV
  rw [if_pos (by simp [siteB]; omega)]
  have := fold_first l 0 row0 h (Int.le_refl 0) rfl (fun s _ => by unfold rg row0; rw [List.getElem?_replicate]; split <;> rfl) s h1 h2
  rw [if_pos (by omega)] at this
  exact this
theorem firstV_drop (l : List Dt) {k : Nat} (hk : k < l.length) (s : Int) : firstV (l.drop k) s = if l[k].site = s then l[k].seq else firstV (l.drop (k + 1)) s := by
  rw [List.drop_eq_getElem_cons hk]
  rfl
set_option maxRecDepth 100000 in
theorem Of8_any (A : Option Addr) (l : List Dt) (c : Nat) (s : Int) (w : World) (hl : DotsAt w A l) (hlen : l.length ≤ 4611686018427387904) :
    Calls Try.prog 34 #[.slice A l.length c, .int .i64 s] w (fun r w' => r = .returned (.int .i64 (firstV l s)) ∧ w' = w) := by
  have HL := Lib.hid hl
  obtain ⟨x, hx⟩ : ∃ x, firstV l s = x := ⟨_, rfl⟩
  rw [hx]
  have HV := Lib.hid hx
  clear hl hx
  go_enter Try.func34, Try.ntmps34
  go_wp2_with (fail)
  go_loopw [5] (fun i wr => ∃ k : Nat, i = .int .i64 k ∧ k ≤ l.length ∧ firstV (l.drop k) s = x ∧ w = wr) (fun i _ => l.length - (intOf i).toNat)
  case atStart => exact ⟨0, rfl, Nat.zero_le _, HV.out, rfl⟩
  case round =>
    obtain ⟨k, rfl, hk, hat, rfl⟩ := hrel
    have HAT := Lib.hid hat
    clear hat
    by_cases hlt : k < l.length
    · obtain ⟨ad, rfl, x0, x1⟩ := HL.out k hlt
      have HF := Lib.hid (firstV_drop l hlt s)
      rw [HAT.out] at HF
      generalize l[k].site = t at *
      generalize l[k].seq = q at *
      by_cases he : t = s
      · subst he
        have HQ := Lib.hid (show q = x by have := HF.out; rw [if_pos rfl] at this; exact this.symm)
        clear HF
        go_wp2_with (fail)
        go_ret
        have hx := HQ.out
        subst hx
        exact ⟨rfl, rfl⟩
      · have HQ := Lib.hid (show firstV (l.drop (k + 1)) s = x by have := HF.out; rw [if_neg he] at this; exact this.symm)
        clear HF
        go_wp2_with (fail)
        go_roundw
        case rel => exact ⟨k + 1, by go_num, by omega, HQ.out, trivial⟩
        case measure => simp [intOf]; omega
    · obtain rfl : k = l.length := by omega
      have HQ := Lib.hid (show 0 = x by have := HAT.out; rw [List.drop_length] at this; exact this)
      go_wp2_with (fail)
      go_ret
      have hx := HQ.out
      subst hx
      exact ⟨rfl, rfl⟩
end Go.Proofs.Ytnlklhlnnoihiaa
