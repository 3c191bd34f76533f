/- The walk of (Peer).Send of the program where a new number is put in flight; and all cases in one. Conditions: the Peer lies in memory as PeerAt says, and is Good. -/
import Derived.Test.YtadamldglebgmaaSend
import Derived.Maps.AppendAt
namespace Go.Proofs.Ytadamldglebgmaa
open Go.RowKit

theorem own_set {w : World} {base b : Nat} {T : TypeId} {fv : Value} {s : St} (hT : T ≠ 3) (h : PeerAt w base T b fv s) (i : Nat) (u : Value) (n : Nat) : ((w.drewN n).setCell ⟨b, i, none⟩ u).ownsRow base 3 1 fv s.fl.length (ints s.fl) :=
  Kept.own (S := fun k => k = b) ((Kept.drewN_eq n).at i u (.inl rfl)) h.row fun _ hk e => own_box_ne h.row h.box (fun e => hT e.symm) (e ▸ hk)

set_option maxHeartbeats 400000 in
theorem Send_new (base b : Nat) (fv : Value) (s : St) (lacks : Int) (w : World) (h : PeerAt w base 39 b fv s) (hg : Good s) (hn : s.sends lacks = true) (hf : s.full = false) (hm : s.next ∉ s.fl) (hbase : base ≤ w.heap.size) :
    Calls Try.prog 14 #[.pointer (some ⟨b, 0, none⟩), .int .i64 lacks] w (SendPost w base 39 b fv s lacks) := by
  have hl : 1 ≤ lacks ∧ s.window ≠ 0 := by simpa [St.sends] using hn
  obtain ⟨hl1, hl2⟩ := hl
  have hw0 := hg.w0
  have hw1 := hg.w1
  have hl0 := hg.l0
  have hl1 := hg.l1
  have hroom : (s.fl.length : Int) < s.window := by simpa [St.full] using hf
  have hbb := h.box.lt
  obtain ⟨i0, hi, hz0, hz1, hz2⟩ := info_parts info_int
  obtain ⟨A, c, rfl, _, _, _, hseq⟩ := h.form
  have hlen : (s.fl.length : Int) ≤ 64 := by have := hg.len; omega
  have hq := fun n => seq_set (by decide) h hseq 2 (.int .i64 s.next) n
  have ho := fun n => own_set (by decide) h 2 (.int .i64 s.next) n
  obtain ⟨m1, m2, m3, e1, e2, e3, hcnt⟩ := count_ifs s lacks
  obtain ⟨nx, e4, hnx⟩ := next_if hg
  have hfin : ∀ (n : Nat) (w1 : World) v' e, (((w.drewN n).setCell ⟨b, 2, none⟩ (.int .i64 nx)).alloc (.cells #[.int .i64 nx] 3)).grownBy w1 (Value.slice A s.fl.length c).ownBlock →
      w1.ownsRow base 3 1 v' (s.fl.length + 1) (ints s.fl ++ [.int .i64 nx]) → (v'.ownBlock = (Value.slice A s.fl.length c).ownBlock ∨ ∃ g, v'.ownBlock = some g ∧ w.heap.size ≤ g) →
      e = .returned (.tuple #[.int .i64 nx, .int .i64 m3]) → SendPost w base 39 b (.slice A s.fl.length c) s lacks e (w1.setCell ⟨b, 3, none⟩ v') := fun n w1 v' e hg1 ho1 hat he => by
    have hk1 : Kept (OwnsB b (.slice A s.fl.length c)) w (((w.drewN n).setCell ⟨b, 2, none⟩ (.int .i64 nx)).alloc (.cells #[.int .i64 nx] 3)) := ((Kept.drewN_eq n).at 2 _ (.inl (.inl rfl))).alloc _
    have hk2 : Kept (OwnsB b (.slice A s.fl.length c)) w w1 := hk1.grown hg1 fun k' _ e => .inr e
    have hne := own_box_ne h.row h.box (by decide)
    have hbx : Box w1 b 39 (s.cells (.slice A s.fl.length c) |>.setIfInBounds 2 (.int .i64 nx)) :=
      Box.kept (S := fun k => (Value.slice A s.fl.length c).ownBlock = some k) (((h.box.drewN n).set 2 _).alloc _) ((Kept.refl _ _).grown hg1 fun _ _ e => e) hne
    have hs : s.sent lacks = { s with last := s.next, fl := s.fl ++ [s.next] } := by simp [St.sent, hn, hf, hm]
    refine ⟨by rw [he]; exact ret2 (by simp [St.sendNum, hn, St.num, hf, hnx]) (by simp [St.sendCount, hn, hcnt]), v', ⟨?_, ?_, h.base_le⟩, hk2.at 3 _ (.inl (.inl rfl)), ?_⟩
    · have := hbx.set 3 v'
      rw [hs, ← hnx]
      exact this
    · rw [hs, ← hnx]
      have := Kept.own (S := fun k => k = b) ((Kept.refl _ w1).at 3 v' (.inl rfl)) ho1 fun k hk e => own_box_ne ho1 hbx (by decide) (e ▸ hk)
      simpa [ints] using this
    · intro k' hk'
      rcases hat with e | ⟨g, e, hg'⟩
      · exact .inl (e ▸ hk')
      · rw [e] at hk'; injection hk' with hk'; subst hk'; exact .inr hg'
  have Hb3 : ∀ (n : Nat) (w1 : World), (((w.drewN n).setCell ⟨b, 2, none⟩ (.int .i64 nx)).alloc (.cells #[.int .i64 nx] 3)).grownBy w1 (Value.slice A s.fl.length c).ownBlock → w1.cell? ⟨b, 3, none⟩ = some (.slice A s.fl.length c) ∧ w1.frozen? ⟨b, 3, none⟩ = false := fun n w1 hg1 => by
    have hbx : Box w1 b 39 (s.cells (.slice A s.fl.length c) |>.setIfInBounds 2 (.int .i64 nx)) :=
      Box.kept (S := fun k => (Value.slice A s.fl.length c).ownBlock = some k) (((h.box.drewN n).set 2 _).alloc _) ((Kept.refl _ _).grown hg1 fun _ _ e => e) (own_box_ne h.row h.box (by decide))
    exact ⟨by simpa [St.cells] using hbx.cell 3, hbx.frozen 3⟩
  rw [← hnx] at hq hm ho
  have HC := Lib.hid hcnt
  have HF := Lib.hid hfin
  have HN := Lib.hid hnx
  have HM := Lib.hid hm
  clear hfin hcnt hn hf hg hnx hm
  have c0 : w.cell? ⟨b, 0, none⟩ = some (.int .i64 s.window) := by simpa [St.cells] using h.box.cell 0
  have c1 : w.cell? ⟨b, 1, none⟩ = some (.int .i64 s.push) := by simpa [St.cells] using h.box.cell 1
  have c2 : w.cell? ⟨b, 2, none⟩ = some (.int .i64 s.last) := by simpa [St.cells] using h.box.cell 2
  have c3 : w.cell? ⟨b, 3, none⟩ = some (.slice A s.fl.length c) := by simpa [St.cells] using h.box.cell 3
  have c5 : w.cell? ⟨b, 5, none⟩ = some (.int .i64 s.credit) := by simpa [St.cells] using h.box.cell 5
  have f2 := h.box.frozen 2
  have hwb : (s.window == 0) = false := beq_eq_false_iff_ne.2 hl2
  go_enter Try.func14, Try.ntmps14
  go_wp2
  go_quiet (fail)
  go_wp2
  go_quiet (fail)
  go_wp2_with (first
    | (go_at_call 27; refine (Contains_is _ _ _ _ false _ (hq _) (by omega) (decide_eq_false HM.out)).mono ?_; rintro e w' ⟨rfl, rfl⟩)
    | (at_builtin; refine wpList_append_own_at _ rfl (.tmp 70) (.tmp 72) 37 rfl base 3 i0 (.int .i64 0) 1 8 Try.underlying37 hi hz0 hz1 hz2 rfl (by decide) (.slice A s.fl.length c) s.fl.length (ints s.fl) rfl ((ho _).alloc _) ⟨w.heap.size, 0, none⟩ 1 1 [.int .i64 nx] rfl rfl ?c1 ?c2 ?c3 ?c4 ?c5 ?_))
  case c1 => exact news_one _ _ _ _ (by simp)
  case c2 => intro u hu; simp at hu; subst hu; rfl
  case c3 => unfold maxLen; omega
  case c4 => omega
  case c5 => simp; omega
  intro v' w1 hown1 hg1 _ hat
  obtain ⟨g, cap, hv, _, _⟩ := hown1.form (by omega)
  have hat' : v'.ownBlock = (Value.slice A s.fl.length c).ownBlock ∨ ∃ g, v'.ownBlock = some g ∧ w.heap.size ≤ g := hat.imp id fun e => ⟨_, e, by simp⟩
  have HG := Lib.hid hg1
  have HO := Lib.hid hown1
  have HA := Lib.hid hat'
  have hb3 := Hb3 _ _ hg1
  obtain ⟨c3', f3'⟩ := hb3
  clear hg1 hown1 hat hat'
  rw [hv] at HO HA ⊢
  clear hv
  go_wp2
  go_ret2
  exact HF.out _ _ _ _ HG.out HO.out HA.out (ret2 rfl rfl)

theorem Send_any (base b : Nat) (fv : Value) (s : St) (lacks : Int) (w : World) (h : PeerAt w base 39 b fv s) (hg : Good s) (hbase : base ≤ w.heap.size) :
    Calls Try.prog 14 #[.pointer (some ⟨b, 0, none⟩), .int .i64 lacks] w (SendPost w base 39 b fv s lacks) := by
  cases hn : s.sends lacks with
  | false => exact Send_no base b fv s lacks w h hn
  | true =>
    cases hf : s.full with
    | true => exact Send_full base b fv s lacks w h hg hn hf
    | false =>
      by_cases hm : s.next ∈ s.fl
      · exact Send_again base b fv s lacks w h hg hn hf hm
      · exact Send_new base b fv s lacks w h hg hn hf hm hbase
end Go.Proofs.Ytadamldglebgmaa
