/- The walk of (Peer).Send of the program. Conditions: the Peer lies in memory as PeerAt says, and is Good. -/
import Derived.Test.YtadamldglebgmaaSlice
import Derived.Test.YtadamldglebgmaaAt
import Derived.Deep.RegionLaw
import Derived.Deep.AppendLies
namespace Go.Proofs.Ytadamldglebgmaa
open Go.RowKit

theorem info_int : (Try.prog.info? 3).map (fun i => (i.zero, i.size, i.bytes)) = some (some (.int .i64 0), 1, 8) := by kernel_rfl

/-- What a Send leaves. -/
def SendPost (w : World) (base : Nat) (T : TypeId) (b : Nat) (fv : Value) (s : St) (lacks : Int) (e : Ending) (w' : World) : Prop :=
  e = .returned (.tuple #[.int .i64 (s.sendNum lacks), .int .i64 (s.sendCount lacks)]) ∧ ∃ fv', PeerAt w' base T b fv' (s.sent lacks) ∧ Kept (OwnsB b fv) w w' ∧ Moved w fv fv'

theorem ret2 {a b c d : Int} (h : a = c) (h' : b = d) : Ending.returned (.tuple #[.int .i64 a, .int .i64 b]) = .returned (.tuple #[.int .i64 c, .int .i64 d]) := by rw [h, h']

theorem SendPost.same {w : World} {base : Nat} {T : TypeId} {b : Nat} {fv : Value} {s : St} {lacks : Int} {e : Ending} (h : PeerAt w base T b fv s) (n : Nat)
    (he : e = .returned (.tuple #[.int .i64 (s.sendNum lacks), .int .i64 (s.sendCount lacks)])) (hs : s.sent lacks = s) : SendPost w base T b fv s lacks e (w.drewN n) :=
  ⟨he, fv, by rw [hs]; exact h.drewN n, Kept.drewN_eq n, fun k hk => .inl hk⟩

set_option maxHeartbeats 400000 in
theorem Send_no (base b : Nat) (fv : Value) (s : St) (lacks : Int) (w : World) (h : PeerAt w base 39 b fv s) (hn : s.sends lacks = false) :
    Calls Try.prog 14 #[.pointer (some ⟨b, 0, none⟩), .int .i64 lacks] w (SendPost w base 39 b fv s lacks) := by
  have c0 := h.box.cell 0
  have hfin : ∀ e, e = .returned (.tuple #[.int .i64 0, .int .i64 0]) → SendPost w base 39 b fv s lacks e w := fun e he => SendPost.same h 0 (by rw [he]; exact ret2 (by simp [St.sendNum, hn]) (by simp [St.sendCount, hn])) (by simp [St.sent, hn])
  by_cases hl : lacks < 1
  · have HF := Lib.hid hfin
    clear hfin
    go_enter Try.func14, Try.ntmps14
    go_wp2
    go_ret2
    exact HF.out _ rfl
  · have hw : s.window = 0 := by
      simp [St.sends] at hn
      by_cases h1 : s.window = 0
      · exact h1
      · exact absurd (hn (by omega)) h1
    simp only [St.cells, hw] at c0
    have hc0 : w.cell? ⟨b, 0, none⟩ = some (.int .i64 0) := by simpa using c0
    have HF := Lib.hid hfin
    clear hfin c0 hn hw
    go_enter Try.func14, Try.ntmps14
    go_wp2
    go_ret2
    exact HF.out _ rfl

/-- the count, as the walk writes it: its three ifs, each with a name -/
theorem count_ifs (s : St) (lacks : Int) : ∃ m1 m2 m3 : Int, (if 1 < s.credit then s.credit else 1) = m1 ∧ (if s.push < lacks then s.push else lacks) = m2 ∧ (if m1 < m2 then m1 else m2) = m3 ∧ m3 = s.count lacks :=
  ⟨_, _, _, rfl, rfl, rfl, by unfold St.count; split <;> split <;> split <;> omega⟩

theorem bool_of_full {s : St} (h : s.full = true) : s.window ≤ (s.fl.length : Int) := by simpa [St.full] using h

set_option maxHeartbeats 400000 in
theorem Send_full (base b : Nat) (fv : Value) (s : St) (lacks : Int) (w : World) (h : PeerAt w base 39 b fv s) (hg : Good s) (hn : s.sends lacks = true) (hf : s.full = true) :
    Calls Try.prog 14 #[.pointer (some ⟨b, 0, none⟩), .int .i64 lacks] w (SendPost w base 39 b fv s lacks) := by
  have hl : 1 ≤ lacks ∧ s.window ≠ 0 := by simpa [St.sends] using hn
  obtain ⟨hl1, hl2⟩ := hl
  have hw0 := hg.w0
  have hw1 := hg.w1
  have hfull := bool_of_full hf
  obtain ⟨A, c, rfl, _, _, _, hseq⟩ := h.form
  have hpos : 0 < s.fl.length := by omega
  obtain ⟨ad, rfl, hc⟩ := hseq 0 hpos
  have hlen : (s.fl.length : Int) ≤ 64 := by have := hg.len; omega
  have hfin : ∀ n e, e = .returned (.tuple #[.int .i64 s.fl[0], .int .i64 (s.count lacks)]) → SendPost w base 39 b (.slice (some ad) s.fl.length c) s lacks e (w.drewN n) := fun n e he =>
    SendPost.same h n (by rw [he]; exact ret2 (by simp [St.sendNum, hn, St.num, hf, List.head?_eq_getElem?, hpos]) (by simp [St.sendCount, hn])) (by simp [St.sent, hn, hf])
  have hcA : w.cell? ad = some (.int .i64 s.fl[0]) := by simpa [Addr.add] using hc
  clear hc
  obtain ⟨m1, m2, m3, e1, e2, e3, hcnt⟩ := count_ifs s lacks
  have HC := Lib.hid hcnt
  have HF := Lib.hid hfin
  clear hfin hcnt hn hf hg
  have c0 : w.cell? ⟨b, 0, none⟩ = some (.int .i64 s.window) := by simpa [St.cells] using h.box.cell 0
  have c1 : w.cell? ⟨b, 1, none⟩ = some (.int .i64 s.push) := by simpa [St.cells] using h.box.cell 1
  have c3 : w.cell? ⟨b, 3, none⟩ = some (.slice (some ad) s.fl.length c) := by simpa [St.cells] using h.box.cell 3
  have c5 : w.cell? ⟨b, 5, none⟩ = some (.int .i64 s.credit) := by simpa [St.cells] using h.box.cell 5
  have hwb : (s.window == 0) = false := beq_eq_false_iff_ne.2 hl2
  go_enter Try.func14, Try.ntmps14
  go_wp2
  go_quiet (fail)
  go_wp2
  go_quiet (fail)
  go_wp2
  go_ret2
  exact HF.out _ _ (ret2 rfl HC.out)

/-- the new number, as the walk writes it -/
theorem next_if {s : St} (hg : Good s) : ∃ m : Int, (if 2147483647 < s.last + 1 then 2147483647 else s.last + 1) = m ∧ m = s.next :=
  ⟨_, rfl, by have := hg.l0; have := hg.l1; unfold St.next; split <;> split <;> omega⟩

theorem seq_set {w : World} {base b : Nat} {T : TypeId} {A : Option Addr} {c : Nat} {s : St} (hT : T ≠ 3) (h : PeerAt w base T b (.slice A s.fl.length c) s) (hq : Seq w A s.fl) (i : Nat) (u : Value) (n : Nat) : Seq ((w.drewN n).setCell ⟨b, i, none⟩ u) A s.fl := by
  refine (hq.drewN n).kept (S := fun k => k = b) ((Kept.refl _ _).at i u (.inl rfl)) fun a ha => ?_
  intro e
  have := own_box_ne h.row h.box (fun e => hT e.symm)
  rw [ha] at this
  exact this (by simp [Value.ownBlock, e])

set_option maxHeartbeats 400000 in
theorem Send_again (base b : Nat) (fv : Value) (s : St) (lacks : Int) (w : World) (h : PeerAt w base 39 b fv s) (hg : Good s) (hn : s.sends lacks = true) (hf : s.full = false) (hm : s.next ∈ s.fl) :
    Calls Try.prog 14 #[.pointer (some ⟨b, 0, none⟩), .int .i64 lacks] w (SendPost w base 39 b fv s lacks) := by
  have hl : 1 ≤ lacks ∧ s.window ≠ 0 := by simpa [St.sends] using hn
  obtain ⟨hl1, hl2⟩ := hl
  have hw0 := hg.w0
  have hw1 := hg.w1
  have hl0 := hg.l0
  have hl1 := hg.l1
  have hroom : (s.fl.length : Int) < s.window := by simpa [St.full] using hf
  obtain ⟨A, c, rfl, _, _, _, hseq⟩ := h.form
  have hlen : (s.fl.length : Int) ≤ 64 := by have := hg.len; omega
  have hq := fun n => seq_set (by decide) h hseq 2 (.int .i64 s.next) n
  obtain ⟨m1, m2, m3, e1, e2, e3, hcnt⟩ := count_ifs s lacks
  obtain ⟨nx, e4, hnx⟩ := next_if hg
  have hfin : ∀ n k e, e = .returned (.tuple #[.int .i64 nx, .int .i64 m3]) → SendPost w base 39 b (.slice A s.fl.length c) s lacks e (((w.drewN n).setCell ⟨b, 2, none⟩ (.int .i64 nx)).drewN k) := fun n k e he => by
    refine ⟨by rw [he]; exact ret2 (by simp [St.sendNum, hn, St.num, hf, hnx]) (by simp [St.sendCount, hn, hcnt]), .slice A s.fl.length c, ?_, ?_, fun k hk => .inl hk⟩
    · have hs : s.sent lacks = { s with last := s.next } := by simp [St.sent, hn, hf, hm]
      rw [hs]
      refine PeerAt.drewN ⟨?_, ?_, h.base_le⟩ k
      · have := (h.box.drewN n).set 2 (.int .i64 nx)
        rw [hnx] at this ⊢
        exact this
      · exact Kept.own (S := fun k => k = b) ((Kept.drewN_eq n).at 2 _ (.inl rfl)) h.row fun k hk e => own_box_ne h.row h.box (by decide) (e ▸ hk)
    · exact ((Kept.drewN_eq n).at 2 _ (.inl (.inl rfl))).drewN k
  rw [← hnx] at hq hm
  have HC := Lib.hid hcnt
  have HF := Lib.hid hfin
  have HN := Lib.hid hnx
  have HM := Lib.hid hm
  clear hfin hcnt hn hf hg hnx hm
  have c0 : w.cell? ⟨b, 0, none⟩ = some (.int .i64 s.window) := by simpa [St.cells] using h.box.cell 0
  have c1 : w.cell? ⟨b, 1, none⟩ = some (.int .i64 s.push) := by simpa [St.cells] using h.box.cell 1
  have c2 : w.cell? ⟨b, 2, none⟩ = some (.int .i64 s.last) := by simpa [St.cells] using h.box.cell 2
  have c3 : w.cell? ⟨b, 3, none⟩ = some (.slice A s.fl.length c) := by simpa [St.cells] using h.box.cell 3
  have c5 : w.cell? ⟨b, 5, none⟩ = some (.int .i64 s.credit) := by simpa [St.cells] using h.box.cell 5
  have f2 := h.box.frozen 2
  have hwb : (s.window == 0) = false := beq_eq_false_iff_ne.2 hl2
  go_enter Try.func14, Try.ntmps14
  go_wp2
  go_quiet (fail)
  go_wp2
  go_quiet (fail)
  go_wp2_with (go_at_call 27; refine (Contains_is _ _ _ _ true _ (hq _) (by omega) (decide_eq_true HM.out)).mono ?_; rintro e w' ⟨rfl, rfl⟩)
  go_ret2
  exact HF.out _ 0 _ (ret2 rfl rfl)
end Go.Proofs.Ytadamldglebgmaa
