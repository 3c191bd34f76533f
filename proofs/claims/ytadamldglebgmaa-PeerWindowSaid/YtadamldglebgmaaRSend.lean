/- The walk of (Peer).Send of the reference. Conditions: the Peer lies in memory as PeerAt says, and is Good. -/
import Derived.Test.YtadamldglebgmaaSendB
import Derived.Deep.RegionLaw
import Derived.Deep.AppendLies
namespace Go.Proofs.Ytadamldglebgmaa
open Go.RowKit

set_option maxHeartbeats 400000 in
theorem RSend_no (base b : Nat) (fv : Value) (s : St) (lacks : Int) (w : World) (h : PeerAt w base 41 b fv s) (hn : s.sends lacks = false) :
    Calls Try.prog 21 #[.pointer (some ⟨b, 0, none⟩), .int .i64 lacks] w (SendPost w base 41 b fv s lacks) := by
  have c0 := h.box.cell 0
  have hfin : ∀ e, e = .returned (.tuple #[.int .i64 0, .int .i64 0]) → SendPost w base 41 b fv s lacks e w := fun e he => SendPost.same h 0 (by rw [he]; exact ret2 (by simp [St.sendNum, hn]) (by simp [St.sendCount, hn])) (by simp [St.sent, hn])
  by_cases hl : lacks < 1
  · have HF := Lib.hid hfin
    clear hfin
    go_enter Try.func21, Try.ntmps21
    go_wp2
    go_ret2
    exact HF.out _ rfl
  · have hw : s.window = 0 := by
      simp [St.sends] at hn
      by_cases h1 : s.window = 0
      · exact h1
      · exact absurd (hn (by omega)) h1
    simp only [St.cells, hw] at c0
    have hc0 : w.cell? ⟨b, 0, none⟩ = some (.int .i64 0) := by simpa using c0
    have HF := Lib.hid hfin
    clear hfin c0 hn hw
    go_enter Try.func21, Try.ntmps21
    go_wp2
    go_ret2
    exact HF.out _ rfl

/-- the count, as the walk of the reference writes it -/
theorem rcount_ifs (s : St) (lacks : Int) : ∃ m1 m2 m3 : Int, (if s.credit < 1 then 1 else s.credit) = m1 ∧ (if s.push < m1 then s.push else m1) = m2 ∧ (if lacks < m2 then lacks else m2) = m3 ∧ m3 = s.count lacks :=
  ⟨_, _, _, rfl, rfl, rfl, by unfold St.count; split <;> split <;> split <;> omega⟩

set_option maxHeartbeats 400000 in
theorem RSend_full (base b : Nat) (fv : Value) (s : St) (lacks : Int) (w : World) (h : PeerAt w base 41 b fv s) (hg : Good s) (hn : s.sends lacks = true) (hf : s.full = true) :
    Calls Try.prog 21 #[.pointer (some ⟨b, 0, none⟩), .int .i64 lacks] w (SendPost w base 41 b fv s lacks) := by
  have hl : 1 ≤ lacks ∧ s.window ≠ 0 := by simpa [St.sends] using hn
  obtain ⟨hl1, hl2⟩ := hl
  have hw0 := hg.w0
  have hw1 := hg.w1
  have hfull := bool_of_full hf
  obtain ⟨A, c, rfl, _, _, _, hseq⟩ := h.form
  have hpos : 0 < s.fl.length := by omega
  obtain ⟨ad, rfl, hc⟩ := hseq 0 hpos
  have hlen : (s.fl.length : Int) ≤ 64 := by have := hg.len; omega
  have hfin : ∀ n e, e = .returned (.tuple #[.int .i64 s.fl[0], .int .i64 (s.count lacks)]) → SendPost w base 41 b (.slice (some ad) s.fl.length c) s lacks e (w.drewN n) := fun n e he =>
    SendPost.same h n (by rw [he]; exact ret2 (by simp [St.sendNum, hn, St.num, hf, List.head?_eq_getElem?, hpos]) (by simp [St.sendCount, hn])) (by simp [St.sent, hn, hf])
  have hcA : w.cell? ad = some (.int .i64 s.fl[0]) := by simpa [Addr.add] using hc
  clear hc
  obtain ⟨m1, m2, m3, e1, e2, e3, hcnt⟩ := rcount_ifs s lacks
  have HC := Lib.hid hcnt
  have HF := Lib.hid hfin
  clear hfin hcnt hn hf hg
  have c0 : w.cell? ⟨b, 0, none⟩ = some (.int .i64 s.window) := by simpa [St.cells] using h.box.cell 0
  have c1 : w.cell? ⟨b, 1, none⟩ = some (.int .i64 s.push) := by simpa [St.cells] using h.box.cell 1
  have c3 : w.cell? ⟨b, 3, none⟩ = some (.slice (some ad) s.fl.length c) := by simpa [St.cells] using h.box.cell 3
  have c5 : w.cell? ⟨b, 5, none⟩ = some (.int .i64 s.credit) := by simpa [St.cells] using h.box.cell 5
  have hwb : (s.window == 0) = false := beq_eq_false_iff_ne.2 hl2
  go_enter Try.func21, Try.ntmps21
  go_wp2
  go_quiet (fail)
  go_wp2
  go_ret2
  exact HF.out _ _ (ret2 rfl HC.out)

/-- behind 'if p.Last < MaxNum { p.Last++ }' -/
def AtNext (w : World) (base b : Nat) (fv : Value) (s : St) (nx : Int) (wx : World) : Prop := PeerAt wx base 41 b fv { s with last := nx } ∧ Kept (fun k => k = b) w wx

theorem at_next {w : World} {base b : Nat} {fv : Value} {s : St} (h : PeerAt w base 41 b fv s) (n : Nat) (x : Int) : AtNext w base b fv s x ((w.drewN n).setCell ⟨b, 2, none⟩ (.int .i64 x)) :=
  ⟨⟨(h.box.drewN n).set 2 (.int .i64 x), own_set (by decide) h 2 _ n, h.base_le⟩, (Kept.drewN_eq n).at 2 _ (.inl rfl)⟩
theorem at_next_same {w : World} {base b : Nat} {fv : Value} {s : St} (h : PeerAt w base 41 b fv s) (n : Nat) : AtNext w base b fv s s.last (w.drewN n) := ⟨h.drewN n, Kept.drewN_eq n⟩

theorem peer_append {w : World} {base b : Nat} {T : TypeId} {fv : Value} {s : St} (hT : T ≠ 3) (h : PeerAt w base T b fv s) (n : Nat) (x : Int) (w1 : World) (v' : Value)
    (hg1 : ((w.drewN n).alloc (.cells #[.int .i64 x] 3)).grownBy w1 fv.ownBlock) (ho1 : w1.ownsRow base 3 1 v' (s.fl.length + 1) (ints s.fl ++ [.int .i64 x])) :
    PeerAt (w1.setCell ⟨b, 3, none⟩ v') base T b v' { s with fl := s.fl ++ [x] } ∧ Kept (OwnsB b fv) w (w1.setCell ⟨b, 3, none⟩ v') ∧ Box w1 b T (s.cells fv) := by
  have hk1 : Kept (OwnsB b fv) w ((w.drewN n).alloc (.cells #[.int .i64 x] 3)) := (Kept.drewN_eq n).alloc _
  have hk2 : Kept (OwnsB b fv) w w1 := hk1.grown hg1 fun k' _ e => .inr e
  have hne := own_box_ne h.row h.box (fun e => hT e.symm)
  have hbx : Box w1 b T (s.cells fv) := Box.kept (S := fun k => fv.ownBlock = some k) ((h.box.drewN n).alloc _) ((Kept.refl _ _).grown hg1 fun _ _ e => e) hne
  refine ⟨⟨hbx.set 3 v', ?_, h.base_le⟩, hk2.at 3 _ (.inl (.inl rfl)), hbx⟩
  have := Kept.own (S := fun k => k = b) ((Kept.refl _ w1).at 3 v' (.inl rfl)) ho1 fun k hk e => own_box_ne ho1 hbx (fun e => hT e.symm) (e ▸ hk)
  simpa [ints] using this

theorem last_fact (fl : List Int) (nx : Int) (hr : fl.Pairwise (· < ·)) (hm : ∀ x ∈ fl, x ≤ nx) : (nx ∈ fl ∧ ∃ h : 0 < fl.length, fl[fl.length - 1] = nx) ∨ (nx ∉ fl ∧ (fl.length = 0 ∨ ∃ h : 0 < fl.length, fl[fl.length - 1] ≠ nx)) := by
  have h := mem_of_top hr hm
  by_cases h0 : fl.length = 0
  · have : fl = [] := List.eq_nil_of_length_eq_zero h0
    subst this
    exact .inr ⟨by simp, .inl rfl⟩
  · rw [List.getElem?_eq_getElem (by omega), Option.getD_some] at h
    by_cases hx : fl[fl.length - 1] = nx
    · exact .inl ⟨h.2 ⟨fun e => h0 (by rw [e]; rfl), hx⟩, by omega, hx⟩
    · exact .inr ⟨fun hm => hx (h.1 hm).2, .inr ⟨by omega, hx⟩⟩

set_option maxRecDepth 100000 in
set_option maxHeartbeats 1600000 in
theorem RSend_next (base b : Nat) (fv : Value) (s : St) (lacks : Int) (w : World) (h : PeerAt w base 41 b fv s) (hg : Good s) (hn : s.sends lacks = true) (hf : s.full = false) (hbase : base ≤ w.heap.size) :
    Calls Try.prog 21 #[.pointer (some ⟨b, 0, none⟩), .int .i64 lacks] w (SendPost w base 41 b fv s lacks) := by
  have hl : 1 ≤ lacks ∧ s.window ≠ 0 := by simpa [St.sends] using hn
  obtain ⟨hl1, hl2⟩ := hl
  have hw0 := hg.w0
  have hw1 := hg.w1
  have hl0 := hg.l0
  have hl1 := hg.l1
  have hroom : (s.fl.length : Int) < s.window := by simpa [St.full] using hf
  have hbb := h.box.lt
  obtain ⟨i0, hi, hz0, hz1, hz2⟩ := info_parts info_int
  obtain ⟨A, c, rfl, _, _, _, hseq⟩ := h.form
  have hlen : (s.fl.length : Int) ≤ 64 := by have := hg.len; omega
  obtain ⟨m1, m2, m3, e1, e2, e3, hcnt⟩ := rcount_ifs s lacks
  obtain ⟨nx, hnx⟩ : ∃ m, m = s.next := ⟨_, rfl⟩
  have hnb := hg.next_bd
  rw [← hnx] at hnb
  obtain ⟨hnb1, hnb2, hnb3⟩ := hnb
  have hlast := last_fact s.fl nx hg.rise (fun x hx => by have := (hg.in_ x hx).2; omega)
  have hN1 : s.last < 2147483647 → nx = s.last + 1 := fun h => by rw [hnx]; simp [St.next, h]
  have hN2 : 2147483647 ≤ s.last → nx = s.last := fun h => by rw [hnx]; unfold St.next; rw [if_neg (by omega)]
  have hpn : St.num s = nx := by simp [St.num, hf, hnx]
  have hs1 : nx ∈ s.fl → s.sent lacks = { s with last := nx } := fun hm => by simp [St.sent, hn, hf, ← hnx, hm]
  have hs2 : nx ∉ s.fl → s.sent lacks = { s with last := nx, fl := s.fl ++ [nx] } := fun hm => by simp [St.sent, hn, hf, ← hnx, hm]
  have hr2 : Ending.returned (.tuple #[.int .i64 nx, .int .i64 m3]) = .returned (.tuple #[.int .i64 (s.sendNum lacks), .int .i64 (s.sendCount lacks)]) := ret2 (by simp [St.sendNum, hn, hpn]) (by simp [St.sendCount, hn, hcnt])
  have HR := Lib.hid hr2
  have HN1 := Lib.hid hN1
  have HN2 := Lib.hid hN2
  have HL := Lib.hid hlast
  have HS1 := Lib.hid hs1
  have HS2 := Lib.hid hs2
  clear hcnt hn hf hg hnx hN1 hN2 hlast hs1 hs2 hr2 hpn
  have c0 : w.cell? ⟨b, 0, none⟩ = some (.int .i64 s.window) := by simpa [St.cells] using h.box.cell 0
  have c1 : w.cell? ⟨b, 1, none⟩ = some (.int .i64 s.push) := by simpa [St.cells] using h.box.cell 1
  have c2 : w.cell? ⟨b, 2, none⟩ = some (.int .i64 s.last) := by simpa [St.cells] using h.box.cell 2
  have c3 : w.cell? ⟨b, 3, none⟩ = some (.slice A s.fl.length c) := by simpa [St.cells] using h.box.cell 3
  have c5 : w.cell? ⟨b, 5, none⟩ = some (.int .i64 s.credit) := by simpa [St.cells] using h.box.cell 5
  have f2 := h.box.frozen 2
  have hwb : (s.window == 0) = false := beq_eq_false_iff_ne.2 hl2
  go_enter Try.func21, Try.ntmps21
  go_wp2
  go_quiet (fail)
  go_upto_if 49 with (fail)
  go_cut [6] (fun c6 wx => c6 = .int .i64 m3 ∧ AtNext w base b (.slice A s.fl.length c) s nx wx)
  case first =>
    by_cases hl : s.last < 2147483647
    · have HX := Lib.hid (HN1.out hl)
      go_wp2
      go_meet
      case rel => exact ⟨rfl, by rw [HX.out]; exact at_next h _ _⟩
    · have HX := Lib.hid (HN2.out (by omega))
      go_wp2
      go_meet
      case rel => exact ⟨rfl, by rw [HX.out]; exact at_next_same h _⟩
  case rest =>
    obtain ⟨rfl, hP, hK⟩ := hcut
    have HP := Lib.hid hP
    have HK := Lib.hid hK
    have c2' : wc.cell? ⟨b, 2, none⟩ = some (.int .i64 nx) := by simpa [St.cells] using hP.box.cell 2
    have c3' : wc.cell? ⟨b, 3, none⟩ = some (.slice A s.fl.length c) := by simpa [St.cells] using hP.box.cell 3
    have f3' := hP.box.frozen 3
    have hbb' := hP.box.lt
    have hbase' : base ≤ wc.heap.size := Nat.le_trans hbase hK.size
    obtain ⟨A', c', hv', _, _, _, hseq'⟩ := hP.form
    injection hv' with hA' _ hc'
    subst hA' hc'
    clear h hseq c0 c1 c2 c3 c5 f2 hP hK
    rcases HL.out with ⟨hm, hp, hx⟩ | ⟨hm, hx⟩
    · obtain ⟨ad, rfl, hc⟩ := hseq' (s.fl.length - 1) (by show _ < s.fl.length; omega)
      have hc' : wc.cell? (ad.add (s.fl.length - 1)) = some (.int .i64 nx) := by rw [← hx]; exact hc
      have HS := Lib.hid (HS1.out hm)
      have h0 : ((s.fl.length : Int) == 0) = false := beq_eq_false_iff_ne.2 (by omega)
      clear hm hc hx
      go_wp2
      go_quiet (fail)
      go_wp2
      go_ret2
      exact ⟨HR.out, _, by rw [HS.out]; exact HP.out.drewN _, (HK.out.more fun k _ e => .inl e).drewN _, fun k hk => .inl hk⟩
    · have HS := Lib.hid (HS2.out hm)
      have hcl : ∀ k (h : k < s.fl.length), ∃ ad, A = some ad ∧ wc.cell? (ad.add k) = some (.int .i64 s.fl[k]) := hseq'
      have hbx : Box wc b 41 (St.cells { s with last := nx } (.slice A s.fl.length c)) := HP.out.box
      have hrow := HP.out.row
      have hfin : ∀ (n : Nat) (w1 : World) v' e, ((wc.drewN n).alloc (.cells #[.int .i64 nx] 3)).grownBy w1 (Value.slice A s.fl.length c).ownBlock → w1.ownsRow base 3 1 v' (s.fl.length + 1) (ints s.fl ++ [.int .i64 nx]) →
          (∀ k, v'.ownBlock = some k → (Value.slice A s.fl.length c).ownBlock = some k ∨ wc.heap.size ≤ k) → e = .returned (.tuple #[.int .i64 nx, .int .i64 m3]) → SendPost w base 41 b (.slice A s.fl.length c) s lacks e (w1.setCell ⟨b, 3, none⟩ v') := fun n w1 v' e hg1 ho1 hat he => by
        have hq := peer_append (by decide) HP.out n nx w1 v' hg1 ho1
        exact ⟨he.trans HR.out, v', by rw [HS.out]; exact hq.1, (HK.out.more fun k _ e => .inl e).trans hq.2.1 (fun k _ e => e), fun k hk => (hat k hk).imp id fun e => Nat.le_trans HK.out.size e⟩
      have hb3 : ∀ (n : Nat) (w1 : World), ((wc.drewN n).alloc (.cells #[.int .i64 nx] 3)).grownBy w1 (Value.slice A s.fl.length c).ownBlock → w1.cell? ⟨b, 3, none⟩ = some (.slice A s.fl.length c) ∧ w1.frozen? ⟨b, 3, none⟩ = false ∧ w1.cell? ⟨b, 2, none⟩ = some (.int .i64 nx) := fun n w1 hg1 => by
        have hbx1 : Box w1 b 41 (St.cells { s with last := nx } (.slice A s.fl.length c)) :=
          Box.kept (S := fun k => (Value.slice A s.fl.length c).ownBlock = some k) ((hbx.drewN n).alloc _) ((Kept.refl _ _).grown hg1 fun _ _ e => e) (own_box_ne hrow hbx (by decide))
        exact ⟨by simpa [St.cells] using hbx1.cell 3, hbx1.frozen 3, by simpa [St.cells] using hbx1.cell 2⟩
      have HF := Lib.hid hfin
      have HX := Lib.hid hx
      have HC := Lib.hid hcl
      clear hfin hm hx hcl hseq'
      go_upto_region 9 with (fail)
      go_cut [81] (fun t wx => t = .bool true ∧ ∃ n, wx = wc.drewN n)
      case first =>
        rcases HX.out with h0 | ⟨h0, hne⟩
        · have h0' : ((s.fl.length : Int) == 0) = true := by rw [h0]; rfl
          clear h0
          go_quiet (fail)
          go_wp2
          go_meet
          case rel => exact ⟨rfl, _, rfl⟩
        · obtain ⟨ad, y, rfl, hc, hne⟩ : ∃ ad y, A = some ad ∧ wc.cell? (ad.add (s.fl.length - 1)) = some (.int .i64 y) ∧ y ≠ nx := by
            obtain ⟨ad, h1, h2⟩ := HC.out (s.fl.length - 1) (by omega)
            exact ⟨ad, _, h1, h2, hne⟩
          have hne' : (y != nx) = true := by rw [bne_iff_ne]; exact hne
          have h0' : ((s.fl.length : Int) == 0) = false := beq_eq_false_iff_ne.2 (by omega)
          clear hne
          go_quiet (fail)
          go_wp2
          go_meet
          case rel => exact ⟨rfl, _, rfl⟩
      case rest =>
        obtain ⟨rfl, n, rfl⟩ := hcut
        have ca : ∀ (n : Nat) (o : Obj), ((wc.drewN n).alloc o).cell? ⟨b, 3, none⟩ = some (.slice A s.fl.length c) := fun n o => by simpa [St.cells] using ((hbx.drewN n).alloc o).cell 3
        go_wp2
        go_region_law ((refine step_append_lies _ rfl (.tmp 86) (.tmp 91) 37 rfl base 3 i0 (.int .i64 0) 1 8 Try.underlying37 hi hz0 hz1 hz2 rfl (by decide) (.slice A s.fl.length c) s.fl.length (ints s.fl) (by rfl) (by exact hrow.alloc _) ⟨wc.heap.size, 0, none⟩ 1 1 [.int .i64 nx] (by rfl) rfl (by exact news_one _ _ _ _ (by simp)) (one_int _ _) (by omega) (by unfold maxLen; omega) (by omega) (by simp; omega) (wc.heap.size + 1) (by simp) ?_; intro g cap w1 hown1 hg1 hat hlt; obtain ⟨c3x, f3x, c2x⟩ := hb3 _ _ hg1; have HG := Lib.hid hg1; have HO := Lib.hid hown1; have HA := Lib.hid hat; clear hg1 hown1 hat))
        all_goals go_wp2
        all_goals go_ret2
        all_goals exact HF.out _ _ _ _ HG.out HO.out (fun k hk => by simp [Value.ownBlock] at hk; subst hk; exact HA.out.imp id fun e => by omega) rfl

theorem RSend_any (base b : Nat) (fv : Value) (s : St) (lacks : Int) (w : World) (h : PeerAt w base 41 b fv s) (hg : Good s) (hbase : base ≤ w.heap.size) :
    Calls Try.prog 21 #[.pointer (some ⟨b, 0, none⟩), .int .i64 lacks] w (SendPost w base 41 b fv s lacks) := by
  cases hn : s.sends lacks with
  | false => exact RSend_no base b fv s lacks w h hn
  | true =>
    cases hf : s.full with
    | true => exact RSend_full base b fv s lacks w h hg hn hf
    | false => exact RSend_next base b fv s lacks w h hg hn hf hbase
end Go.Proofs.Ytadamldglebgmaa
