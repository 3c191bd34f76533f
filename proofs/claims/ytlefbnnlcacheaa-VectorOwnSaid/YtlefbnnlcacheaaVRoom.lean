/- The walks of bytes, room, stands. Conditions: the lists lie in memory as DotsAt and BytesAt say. -/
import Derived.Test.YtlefbnnlcacheaaVTake
import Derived.Test.YtlefbnnlcacheaaKit
namespace Go.Proofs.Ytlefbnnlcacheaa
open Go.RowKit

theorem eltDots : Elt Try.prog 23 25 2 16 := .of Try.underlying23 info_dot rfl (by decide) (by decide)
theorem eltBytes : Elt Try.prog 44 5 1 1 := .of Try.underlying44 info_byte rfl (by decide) (by decide)
theorem add_two (ad : Addr) (k j : Nat) (h : k + 1 = j) : (⟨(ad.add k).block, (ad.add k).off + 1, none⟩ : Addr) = ad.add j := by
  subst h
  unfold Addr.add
  rw [if_neg (show ¬ k + 1 = 0 by omega)]
  split
  · simp_all
  · simp [Nat.add_assoc]
theorem DotsAt.cells {w : World} {A : Option Addr} {l : List Dt} (h : DotsAt w A l) : ∀ j u, (dots l)[j]? = some u → ∃ ad, A = some ad ∧ w.cell? (ad.add j) = some u := by
  intro j u hj
  have hlt : j < (dots l).length := (List.getElem?_eq_some_iff.1 hj).1
  rw [dots_len] at hlt
  obtain ⟨ad, rfl, x0, x1⟩ := h (j / 2) (by omega)
  obtain ⟨g0, g1⟩ := dots_get l (j / 2) (by omega)
  refine ⟨ad, rfl, ?_⟩
  rcases Nat.mod_two_eq_zero_or_one j with h2 | h2
  · have e : j / 2 * 2 = j := by omega
    rw [e] at x0 g0
    rw [x0, ← g0, hj]
  · have e : j / 2 * 2 + 1 = j := by omega
    rw [e] at g1
    have : (⟨(ad.add (j / 2 * 2)).block, (ad.add (j / 2 * 2)).off + 1, none⟩ : Addr) = ad.add j := add_two ad _ j e
    rw [← this, x1, ← g1, hj]
theorem DotsAt.nilness {w : World} {A : Option Addr} {l : List Dt} {c : Nat} (h : DotsAt w A l) (hc : A = none → c = 0) : A = none → l.length = 0 ∧ c = 0 := by
  rintro rfl
  refine ⟨?_, hc rfl⟩
  rcases Nat.eq_zero_or_pos l.length with h0 | h0
  · exact h0
  · obtain ⟨ad, e, _⟩ := h 0 h0
    cases e
def mark : Dt := ⟨901, 902⟩
/-- A list at the beginning of a longer one, in new memory. -/
def RoomPost (w : World) (l : List Dt) (e : Ending) (w' : World) : Prop :=
  ∃ A c, e = .returned (.slice A l.length c) ∧ w'.ownsRow w.heap.size 25 2 (.slice A (l.length + 1) c) (l.length + 1) (dots (l ++ [mark])) ∧ Kept (fun _ => False) w w'

set_option maxHeartbeats 1600000 in
theorem room_any (A : Option Addr) (l : List Dt) (c : Nat) (w : World) (hl : DotsAt w A l) (hc : A = none → c = 0) (hlen : l.length ≤ 1000000) :
    Calls Try.prog 10 #[.slice A l.length c] w (RoomPost w l) := by
  have HL := Lib.hid hl
  have HC := Lib.hid hc
  clear hl hc
  go_enter Try.func10, Try.ntmps10
  go_wp2_with (at_builtin; refine wpList_append_copy eltDots rfl (.tmp 4) (.tmp 5) rfl rfl A l.length c (dots l) rfl (HL.out.nilness HC.out) (dots_len l) HL.out.cells (dots_one l) (by omega) ?_)
  intro A1 c1 w1 HO1 HK1
  have hs1 := HK1.out.size
  go_wp2_with (at_builtin; refine wpList_append_new eltDots rfl (.tmp 7) (.tmp 9) rfl w.heap.size _ l.length (dots l) rfl HO1.out 1 1 rfl rfl rfl (by omega) hs1 ?_)
  intro A2 c2 w2 HO2 HK2 HM2
  obtain ⟨hc2, hc3⟩ := own_cap HO2.out
  go_wp2
  go_ret
  refine ⟨A2, c2, rfl, ?_, HK1.out.trans HK2.out fun k hk e => ?_⟩
  · rw [dots_app]; exact HO2.out
  · have := (HO1.out.lt k e).1; omega

set_option maxHeartbeats 1600000 in
theorem bytes_any (A B : Option Addr) (l m : List Int) (c d : Nat) (w : World) (hl : BytesAt w A l) (hm : BytesAt w B m) (hlen : l.length ≤ 4611686018427387904) :
    Calls Try.prog 38 #[.slice A l.length c, .slice B m.length d] w (SamePost w (decide (l = m))) := by
  by_cases hn : l.length = m.length
  · have HL := Lib.hid hl
    have HM := Lib.hid hm
    clear hl hm
    obtain ⟨b, hb⟩ : ∃ b, decide (l = m) = b := ⟨_, rfl⟩
    rw [hb, ← hn]
    have HN := Lib.hid hn
    have HBB := Lib.hid hb
    clear hn hb
    go_enter Try.func38, Try.ntmps38
    go_wp2_with (fail)
    go_loopw [5] (fun i wr => ∃ k : Nat, i = .int .i64 k ∧ k ≤ l.length ∧ l.take k = m.take k ∧ Kept (fun _ => False) w wr) (fun i _ => l.length - (intOf i).toNat)
    case atStart => exact ⟨0, rfl, Nat.zero_le _, rfl, Kept.refl _ _⟩
    case round =>
      obtain ⟨k, rfl, hk, hat, hkk⟩ := hrel
      have HK := Lib.hid hkk
      have HAT := Lib.hid hat
      by_cases hlt : k < l.length
      · obtain ⟨ad, rfl, x0⟩ := HL.out.fresh hkk k hlt
        obtain ⟨ad', rfl, y0⟩ := HM.out.fresh hkk k (by rw [← HN.out]; exact hlt)
        generalize hd : l[k] = d1 at x0
        generalize hd' : m[k]'(by rw [← HN.out]; exact hlt) = d2 at y0
        have HD := Lib.hid hd
        have HD' := Lib.hid hd'
        clear hd hd' hkk hat
        by_cases he : d1 = d2
        · have hx : (d1 != d2) = false := by simp [he]
          have HE := Lib.hid he
          clear he
          go_wp2_with (fail)
          go_quiet (fail)
          go_wp2
          go_roundw
          case rel =>
            refine ⟨k + 1, by go_num, by omega, ?_, HK.out.trans (Kept.drewN_eq nq) fun _ _ e => e⟩
            have hm' : k < m.length := by rw [← HN.out]; exact hlt
            rw [List.take_succ_eq_append_getElem hlt, List.take_succ_eq_append_getElem hm', HAT.out, HD.out, HD'.out, HE.out]
          case measure => simp [intOf]; omega
        · have hx : (d1 != d2) = true := by simp [he]
          have HE := Lib.hid he
          clear he
          go_wp2_with (fail)
          go_quiet (fail)
          go_wp2
          go_ret
          refine ⟨?_, HK.out.trans (Kept.drewN_eq nq) fun _ _ e => e⟩
          rw [← HBB.out]
          refine (ret_bool (decide_eq_false fun e => HE.out ?_)).symm
          subst e
          exact HD.out.symm.trans HD'.out
      · obtain rfl : k = l.length := by omega
        have hkk' := HK.out
        clear hat hkk
        go_wp2
        go_ret
        refine ⟨?_, hkk'⟩
        rw [← HBB.out]
        refine (ret_bool (decide_eq_true ?_)).symm
        have := HAT.out
        rwa [List.take_length, HN.out, List.take_length] at this
  · have hn' : (l.length : Int) ≠ m.length := by omega
    have hb : decide (l = m) = false := decide_eq_false fun e => hn (by rw [e])
    rw [hb]
    generalize l.length = p at *
    generalize m.length = q at *
    clear hb hl hm
    go_enter Try.func38, Try.ntmps38
    go_wp2
    go_ret
    exact ⟨rfl, Kept.refl _ _⟩

set_option maxHeartbeats 1600000 in
theorem stands_any (A B : Option Addr) (l m : List Dt) (c d : Nat) (w : World) (hl : DotsAt w A (l ++ [mark])) (hm : DotsAt w B m) (hc : l.length + 1 ≤ c) (hlen : l.length ≤ 1000000) :
    Calls Try.prog 28 #[.slice A l.length c, .slice B m.length d] w (SamePost w (decide (l = m))) := by
  have HL := Lib.hid (show DotsAt w A l from fun k hk => by
    obtain ⟨ad, e, x0, x1⟩ := hl k (by simp; omega)
    rw [List.getElem_append_left hk] at x0 x1
    exact ⟨ad, e, x0, x1⟩)
  have HM := Lib.hid hm
  have HL2 := Lib.hid hl
  obtain ⟨b, hb⟩ : ∃ b, decide (l = m) = b := ⟨_, rfl⟩
  rw [hb]
  have HBB := Lib.hid hb
  clear hl hm hb
  go_enter Try.func28, Try.ntmps28
  go_wp2_with (fail)
  refine (Same_any A B l m c d _ HL.out HM.out (by omega)).mono ?_
  rw [HBB.out]
  rintro e w1 ⟨rfl, hk⟩
  have HK := Lib.hid hk
  clear hk
  cases b with
  | false =>
    go_wp2
    go_ret
    exact ⟨rfl, HK.out⟩
  | true =>
    have hlm := of_decide_eq_true HBB.out
    subst hlm
    obtain ⟨ad, rfl, x0, x1⟩ := HL2.out.fresh HK.out l.length (by simp)
    rw [List.getElem_append_right (Nat.le_refl _)] at x0 x1
    simp only [Nat.sub_self, List.getElem_cons_zero, mark] at x0 x1
    have hx := fun W => eql_dot 901 902 901 902 W
    have hd : decide ((901 : Int) = 901 ∧ (902 : Int) = 902) = true := by decide
    rw [hd] at hx
    go_wp2
    go_ret
    exact ⟨rfl, HK.out⟩
end Go.Proofs.Ytlefbnnlcacheaa
