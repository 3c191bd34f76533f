/- The plain law of NetRefused; the walk of the law's bytes as a callee that only reads. Conditions: the bytes lie in memory. -/
import Derived.Test.YtopcogogpbcbhaaNNw
namespace Go.Proofs.Ytopcogogpbcbhaa
open Go Go.RowKit

theorem Nt.Ok.get_at {s : Nt} (h : s.Ok) {j : Nat} (hj : j < s.l.length) {n : Int} (hn : (s.l[j].num : Int) = n) : s.get n = some s.l[j] := by
  cases hg : s.get n with
  | none =>
    unfold Nt.get at hg
    have := List.find?_eq_none.1 hg s.l[j] (List.getElem_mem hj)
    simp [Cp.is, hn] at this
  | some c =>
    obtain ⟨hm, hc⟩ := Nt.get_mem hg
    obtain ⟨i, hi, rfl⟩ := List.getElem_of_mem hm
    have he : s.l[i].num = s.l[j].num := by omega
    have hp := List.pairwise_iff_getElem.1 h.up
    rcases Nat.lt_trichotomy i j with h1 | h1 | h1
    · have := hp i j hi hj h1; omega
    · subst h1; rfl
    · have := hp j i hj hi h1; omega
theorem Nt.get_none {s : Nt} {n : Int} (h : ∀ c ∈ s.l, ¬ (c.num : Int) = n) : s.get n = none := List.find?_eq_none.2 fun c hc => by simp [Cp.is, h c hc]
/-- What a change of one copy leaves: all as it was, or that one copy turned bad. -/
def Chg (s : Nt) (n : Int) (x : Int × Nt) : Prop := (x.1 ≠ 0 ∧ x.2 = s) ∨ (x.1 = 0 ∧ ∃ c d, s.get n = some c ∧ c.bad = false ∧ x.2 = s.put n d)
theorem Nt.alter_chg (s : Nt) (n a : Int) (b : List Int) : Chg s n (s.alter n a b) := by
  unfold Nt.alter
  cases hg : s.get n with
  | none => exact .inl ⟨show (11 : Int) ≠ 0 by decide, rfl⟩
  | some c =>
    simp only
    split
    · split
      · exact .inl ⟨show (12 : Int) ≠ 0 by decide, rfl⟩
      · exact .inr ⟨rfl, c, _, hg, by simpa using ‹¬ c.bad = true›, rfl⟩
    · exact .inl ⟨show (1 : Int) ≠ 0 by decide, rfl⟩
theorem Nt.cut_chg (s : Nt) (n k : Int) : Chg s n (s.cut n k) := by
  unfold Nt.cut
  cases hg : s.get n with
  | none => exact .inl ⟨show (11 : Int) ≠ 0 by decide, rfl⟩
  | some c =>
    simp only
    split
    · split
      · exact .inl ⟨show (12 : Int) ≠ 0 by decide, rfl⟩
      · exact .inr ⟨rfl, c, _, hg, by simpa using ‹¬ c.bad = true›, rfl⟩
    · exact .inl ⟨show (1 : Int) ≠ 0 by decide, rfl⟩
theorem Chg.nums {s : Nt} {n : Int} {x : Int × Nt} (h : Chg s n x) : x.2.l.map (·.num) = s.l.map (·.num) := by
  rcases h with ⟨_, h⟩ | ⟨_, c, d, _, _, h⟩
  · rw [h]
  · rw [h]
    show (s.l.map _).map _ = _
    rw [List.map_map]
    exact List.map_congr_left fun c _ => Cp.turn_num d c n
theorem Chg.len {s : Nt} {n : Int} {x : Int × Nt} (h : Chg s n x) : x.2.l.length = s.l.length := by simpa using congrArg List.length h.nums
theorem Chg.last {s : Nt} {n : Int} {x : Int × Nt} (h : Chg s n x) : x.2.last = s.last := by
  rcases h with ⟨_, h⟩ | ⟨_, c, d, _, _, h⟩ <;> rw [h]
  rfl
/-- It is refused exactly where nothing is told otherwise. -/
theorem Chg.iff {s : Nt} {n : Int} {x : Int × Nt} (h : Chg s n x) : x.1 = 0 ↔ ¬ x.2.l.map Cp.tell = s.l.map Cp.tell := by
  rcases h with ⟨h1, h2⟩ | ⟨h1, c, d, hg, hb, h2⟩
  · rw [h2]
    exact ⟨fun e => absurd e h1, fun e => absurd rfl e⟩
  · refine ⟨fun _ e => ?_, fun _ => h1⟩
    rw [h2] at e
    obtain ⟨hm, hn⟩ := Nt.get_mem hg
    obtain ⟨i, hi, rfl⟩ := List.getElem_of_mem hm
    have e1 := congrArg (fun l : List Cp => l[i]?) e
    have hi' : (s.l[i]).is n = true := by simp [Cp.is, hn]
    simp only [Nt.put, List.getElem?_map, List.getElem?_eq_getElem hi, Option.map_some, hi', if_pos] at e1
    injection e1 with e1
    have e2 := congrArg Cp.bad e1
    simp only [Cp.tell, Cp.turn] at e2
    rw [hb] at e2
    cases e2
theorem Chg.get_at {s : Nt} {n : Int} {x : Int × Nt} (h : Chg s n x) (hok : x.2.Ok) {j : Nat} (hj : j < s.l.length) (hn : (s.l[j].num : Int) = n) : ∃ hj' : j < x.2.l.length, x.2.get n = some (x.2.l[j]) := by
  have hj' : j < x.2.l.length := by rw [h.len]; exact hj
  refine ⟨hj', hok.get_at hj' ?_⟩
  have := congrArg (fun l : List Nat => l[j]?) h.nums
  simp only [List.getElem?_map, List.getElem?_eq_getElem hj, List.getElem?_eq_getElem hj', Option.map_some] at this
  injection this with this
  rw [this]
  exact hn
theorem Chg.get_none {s : Nt} {n : Int} {x : Int × Nt} (h : Chg s n x) (hn : s.get n = none) : x.2.get n = none := by
  rcases h with ⟨_, h⟩ | ⟨_, c, d, hg, _, _⟩
  · rw [h]; exact hn
  · rw [hn] at hg; cases hg
theorem alterOk_yes {d : List Int} {m : Nat} {b : List Int} (h1 : 1 ≤ b.length) (h4 : b.length ≤ 4) (hm : m + b.length ≤ d.length) : alterOk d (m : Int) b = !decide ((d.drop m).take b.length = b) := by
  unfold alterOk
  rw [decide_eq_true (show 1 ≤ b.length ∧ b.length ≤ 4 ∧ (0 : Int) ≤ m ∧ (m : Int) + b.length ≤ d.length by omega), Bool.true_and, Int.toNat_natCast]
theorem alterOk_no {d : List Int} {a : Int} {b : List Int} (h : ¬ (1 ≤ b.length ∧ b.length ≤ 4 ∧ 0 ≤ a ∧ a + b.length ≤ d.length)) : alterOk d a b = false := by
  unfold alterOk
  rw [decide_eq_false h, Bool.false_and]
theorem Nt.alter_get {s : Nt} {n a : Int} {b : List Int} {c : Cp} (h : s.get n = some c) : (s.alter n a b).1 = if alterOk c.data a b = true then (if c.bad = true then 12 else 0) else 1 := by
  unfold Nt.alter
  rw [h]
  simp only
  split
  · split <;> rfl
  · rfl
theorem Nt.cut_get {s : Nt} {n k : Int} {c : Cp} (h : s.get n = some c) : (s.cut n k).1 = if cutOk c.data k = true then (if c.bad = true then 12 else 0) else 1 := by
  unfold Nt.cut
  rw [h]
  simp only
  split
  · split <;> rfl
  · rfl
theorem Nt.alter_none {s : Nt} {n a : Int} {b : List Int} (h : s.get n = none) : (s.alter n a b).1 = 11 := by unfold Nt.alter; rw [h]
theorem Nt.cut_none {s : Nt} {n k : Int} (h : s.get n = none) : (s.cut n k).1 = 11 := by unfold Nt.cut; rw [h]
theorem Nt.send_self (s : Nt) (f a : Int) (b : List Int) : s.send f f a b = ((0, 1), s) := Nt.send_no (decide_eq_false (by omega))
theorem Nt.send_zero (s : Nt) (f a : Int) (b : List Int) : s.send f 0 a b = ((0, 1), s) := Nt.send_no (decide_eq_false (by omega))
theorem Nt.send_neg (s : Nt) (b : List Int) : s.send 1 2 (-1) b = ((0, 1), s) := Nt.send_no (by decide)
theorem BytesAt.part {w : World} {ad : Addr} {l : List Int} (h : BytesAt w (some ad) l) (m n : Nat) : BytesAt w (some (ad.add m)) ((l.drop m).take n) := fun k hk => by
  have hk1 : k < n ∧ m + k < l.length := by rw [List.length_take, List.length_drop] at hk; omega
  obtain ⟨ad', e, hc⟩ := h (m + k) hk1.2
  injection e with e
  subst e
  refine ⟨ad.add m, rfl, ?_⟩
  rw [Go.Deep.add_add, hc, List.getElem_take, List.getElem_drop]
set_option maxRecDepth 100000 in
set_option maxHeartbeats 1600000 in
theorem Bytes20_read (A B : Option Addr) (l m : List Int) (c d : Nat) (w : World) (hl : BytesAt w A l) (hm : BytesAt w B m) (hlen : l.length ≤ 4611686018427387904) :
    Calls Try.prog 26 #[.slice A l.length c, .slice B m.length d] w (fun e w' => e = .returned (.bool (decide (l = m))) ∧ ∃ n, w' = w.drewN n) := by
  by_cases hn : l.length = m.length
  · have HL := Lib.hid hl
    have HM := Lib.hid hm
    clear hl hm
    obtain ⟨b, hb⟩ : ∃ b, decide (l = m) = b := ⟨_, rfl⟩
    rw [hb, ← hn]
    have HN := Lib.hid hn
    have HBB := Lib.hid hb
    clear hn hb
    go_enter Try.func26, Try.ntmps26
    go_wp2_with (fail)
    go_loopw [5] (fun i wr => ∃ k : Nat, i = .int .i64 k ∧ k ≤ l.length ∧ l.take k = m.take k ∧ ∃ n, wr = w.drewN n) (fun i _ => l.length - (intOf i).toNat)
    case atStart => exact ⟨0, rfl, Nat.zero_le _, rfl, 0, rfl⟩
    case round =>
      obtain ⟨k, rfl, hk, hat, nn, hwr⟩ := hrel
      have hkk : Kept (fun _ => False) w wr := by rw [hwr]; exact Kept.drewN_eq _
      have HWR := Lib.hid hwr
      have HAT := Lib.hid hat
      clear hwr
      by_cases hlt : k < l.length
      · obtain ⟨ad, rfl, x0⟩ := HL.out.fresh hkk k hlt
        obtain ⟨ad', rfl, y0⟩ := HM.out.fresh hkk k (by rw [← HN.out]; exact hlt)
        generalize hd : l[k] = d1 at x0
        generalize hd' : m[k]'(by rw [← HN.out]; exact hlt) = d2 at y0
        have HD := Lib.hid hd
        have HD' := Lib.hid hd'
        clear hd hd' hkk hat
        by_cases he : d1 = d2
        · have hx : (d1 != d2) = false := by simp [he]
          have HE := Lib.hid he
          clear he
          go_wp2_with (fail)
          go_quiet (fail)
          go_wp2
          go_roundw
          case rel =>
            refine ⟨k + 1, by go_num, by omega, ?_, nn + nq, by rw [HWR.out, World.drewN_drewN]⟩
            have hm' : k < m.length := by rw [← HN.out]; exact hlt
            rw [List.take_succ_eq_append_getElem hlt, List.take_succ_eq_append_getElem hm', HAT.out, HD.out, HD'.out, HE.out]
          case measure => simp [intOf]; omega
        · have hx : (d1 != d2) = true := by simp [he]
          have HE := Lib.hid he
          clear he
          go_wp2_with (fail)
          go_quiet (fail)
          go_wp2
          go_ret
          refine ⟨?_, nn + nq, by rw [HWR.out, World.drewN_drewN]⟩
          rw [← HBB.out]
          refine (ret_bool (decide_eq_false fun e => HE.out ?_)).symm
          subst e
          exact HD.out.symm.trans HD'.out
      · obtain rfl : k = l.length := by omega
        clear hat hkk
        go_wp2
        go_ret
        refine ⟨?_, nn, HWR.out⟩
        rw [← HBB.out]
        refine (ret_bool (decide_eq_true ?_)).symm
        have := HAT.out
        rwa [List.take_length, HN.out, List.take_length] at this
  · have hn' : (l.length : Int) ≠ m.length := by omega
    have hb : decide (l = m) = false := decide_eq_false fun e => hn (by rw [e])
    rw [hb]
    generalize l.length = p at *
    generalize m.length = q at *
    clear hb hl hm
    go_enter Try.func26, Try.ntmps26
    go_wp2
    go_ret
    exact ⟨rfl, 0, rfl⟩
end Go.Proofs.Ytopcogogpbcbhaa
