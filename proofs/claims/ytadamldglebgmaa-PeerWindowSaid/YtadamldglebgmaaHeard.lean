/- The walk of the program's Heard. Conditions: the Peer lies in memory as PeerAt says, and is Good. -/
import Derived.Test.YtadamldglebgmaaLaws
import Derived.Test.YtadamldglebgmaaSendB
import Derived.Test.YtadamldglebgmaaFlight
import Derived.Deep.RegionLaw
import Derived.Deep.CutBlock
namespace Go.Proofs.Ytadamldglebgmaa
open Go.RowKit

def HeardPost (w : World) (base : Nat) (T : TypeId) (b : Nat) (fv : Value) (s : St) (num got credit : Int) (e : Ending) (w' : World) : Prop :=
  e = .returned (.bool (s.heardSome got)) ∧ ∃ fv', PeerAt w' base T b fv' (s.heard num got credit) ∧ Kept (OwnsB b fv) w w' ∧ Moved w fv fv'

theorem heard_credit (c : Int) : ∃ m1 m2 : Int, (if 256 < c then 256 else c) = m1 ∧ (if 0 < m1 then m1 else 0) = m2 ∧ m2 = max 0 (min c 256) := ⟨_, _, rfl, rfl, by split <;> split <;> omega⟩

theorem PeerAt.set4 {w : World} {base b : Nat} {T : TypeId} {fv : Value} {s : St} (hT : T ≠ 3) (h : PeerAt w base T b fv s) (x : Int) : PeerAt (w.setCell ⟨b, 4, none⟩ (.int .i64 x)) base T b fv { s with got := x } ∧ Kept (fun k => k = b) w (w.setCell ⟨b, 4, none⟩ (.int .i64 x)) :=
  ⟨⟨h.box.set 4 (.int .i64 x), own_set hT h 4 _ 0, h.base_le⟩, (Kept.refl _ _).at 4 _ (.inl rfl)⟩
theorem PeerAt.set5 {w : World} {base b : Nat} {T : TypeId} {fv : Value} {s : St} (hT : T ≠ 3) (h : PeerAt w base T b fv s) (x : Int) : PeerAt (w.setCell ⟨b, 5, none⟩ (.int .i64 x)) base T b fv { s with credit := x } ∧ Kept (fun k => k = b) w (w.setCell ⟨b, 5, none⟩ (.int .i64 x)) :=
  ⟨⟨h.box.set 5 (.int .i64 x), own_set hT h 5 _ 0, h.base_le⟩, (Kept.refl _ _).at 5 _ (.inl rfl)⟩

def AllLe (fl : List Int) (got : Int) (k : Nat) : Prop := ∀ j (hj : j < fl.length), j < k → fl[j] ≤ got
theorem AllLe.succ {fl : List Int} {got : Int} {k : Nat} (h : AllLe fl got k) (hk : k < fl.length) (hle : fl[k] ≤ got) : AllLe fl got (k + 1) := fun j hj hjk => by
  rcases Nat.lt_or_ge j k with h1 | h1
  · exact h j hj h1
  · obtain rfl : j = k := by omega
    exact hle
def OutAt (fl : List Int) (got : Int) (k : Nat) : Prop := AllLe fl got k ∧ ∀ h : k < fl.length, got < fl[k]

theorem copy_len {fr : List Int} {k n : Nat} (h : fr.length + k = n) : (ints fr).length = Nat.min (n - k) n := by
  have : Nat.min (n - k) n = n - k := Nat.min_eq_left (Nat.sub_le ..)
  rw [this]; simp [ints]; omega
theorem copy_src {w : World} {fl fr : List Int} {g k : Nat} (hfr : fr = fl.drop k) (h : fr.length + k = fl.length) (hseq : Seq w (some ⟨g, 0, none⟩) fl) :
    0 < (ints fr).length → (some ⟨g, 0, none⟩ : Option Addr) = some ⟨g, 0, none⟩ ∧ ∃ ad, (some ⟨g, k, none⟩ : Option Addr) = some ad ∧ ∀ j v, (ints fr)[j]? = some v → w.drew.cell? (ad.add j) = some v := by
  intro _
  refine ⟨rfl, ⟨g, k, none⟩, rfl, fun j v hj => ?_⟩
  have hadd : (⟨g, k, none⟩ : Addr).add j = ⟨g, k + j, none⟩ := by unfold Addr.add; split <;> simp_all
  rw [hadd]
  by_cases hjl : j < fr.length
  · obtain ⟨ad, he, hcell⟩ := hseq (k + j) (by omega)
    injection he with he
    subst he
    rw [add_none] at hcell
    have e : (ints fr)[j]? = some (.int .i64 fl[k + j]) := by subst hfr; simp [ints, List.getElem?_drop]
    rw [e] at hj
    injection hj with hj
    rw [← hj]
    exact hcell
  · rw [List.getElem?_eq_none (by simpa [ints] using hjl)] at hj
    cases hj

theorem clear_fit (cur : Array Value) (fr : List Int) {c n : Nat} (h : cur.size = c * 1) (h1 : fr.length ≤ n) (h2 : n ≤ c) : fr.length + (n - fr.length) ≤ (splice cur.toList 0 (ints fr)).toArray.size := by
  have hl : (splice cur.toList 0 (ints fr)).length = c := by rw [length_splice _ _ _ (by simp [ints]; omega)]; simp [h]
  simp [hl]; omega

theorem heard_done {w : World} {base b g c : Nat} {T : TypeId} {fv : Value} {s : St} {fr : List Int} {cur : Array Value} {zs : List Value} (hT : T ≠ 3) (hbg : base ≤ g) (hbb : base ≤ b) (hb : Box w b T (s.cells fv))
    (hg : Box w g 3 (splice (splice cur.toList 0 (ints fr)) fr.length zs).toArray) (hc : cur.size = c * 1) (hm : fr.length + zs.length ≤ c) (hcm : c ≤ maxLen) :
    PeerAt (w.setCell ⟨b, 3, none⟩ (.slice (some ⟨g, 0, none⟩) fr.length c)) base T b (.slice (some ⟨g, 0, none⟩) fr.length c) { s with fl := fr } := by
  have hne : g ≠ b := fun e => by subst e; exact Box.ne hg hb (fun e => hT e.symm) rfl
  have hl1 : (splice cur.toList 0 (ints fr)).length = c := by rw [length_splice _ _ _ (by simp [ints]; omega)]; simp [hc]
  have hl2 : (splice (splice cur.toList 0 (ints fr)) fr.length zs).length = c := by rw [length_splice _ _ _ (by rw [hl1]; exact hm), hl1]
  refine ⟨hb.set 3 _, ⟨by simp [ints], .inr ⟨g, c, _, rfl, hbg, (hg.far (p := ⟨b, 3, none⟩) hne _), by show fr.length ≤ c; omega, hcm, by simpa using hl2, ?_⟩⟩, hbb⟩
  simp [splice, ints]

set_option maxRecDepth 100000 in
set_option maxHeartbeats 800000 in
theorem Heard_any (base b : Nat) (fv : Value) (s : St) (num got credit : Int) (w : World) (h : PeerAt w base 39 b fv s) (hg : Good s) :
    Calls Try.prog 15 #[.pointer (some ⟨b, 0, none⟩), .int .i64 num, .int .i64 got, .int .i64 credit] w (HeardPost w base 39 b fv s num got credit) := by
  have c4 : w.cell? ⟨b, 4, none⟩ = some (.int .i64 s.got) := by simpa [St.cells] using h.box.cell 4
  have f4 := h.box.frozen 4
  have hlen : s.fl.length ≤ 64 := by have := hg.len; have := hg.w1; omega
  obtain ⟨m1, m2, e1, e2, hm2⟩ := heard_credit credit
  have HM := Lib.hid hm2
  obtain ⟨ng, hng⟩ : ∃ x, x = if 1 ≤ num ∧ num ≤ 2147483647 then max s.got num else s.got := ⟨_, rfl⟩
  have HN := Lib.hid hng
  have HP := Lib.hid h
  clear hm2 hng h
  go_enter Try.func15, Try.ntmps15
  go_upto_region 3 with (fail)
  go_cut [18] (fun t wx => t = .bool (decide (1 ≤ num ∧ num ≤ 2147483647)) ∧ w = wx)
  case first =>
    by_cases h1 : 1 ≤ num
    · go_wp2
      go_meet
      case rel => exact ⟨congrArg Value.bool (by simp [h1]), rfl⟩
    · go_wp2
      go_meet
      case rel => exact ⟨congrArg Value.bool (by rw [decide_eq_false]; omega), rfl⟩
  case rest =>
  obtain ⟨rfl, rfl⟩ := hcut
  go_upto_if 18 with (fail)
  go_cut [18] (fun _ wx => PeerAt wx base 39 b fv { s with got := ng } ∧ Kept (fun k => k = b) w wx)
  case first =>
    by_cases h1 : 1 ≤ num ∧ num ≤ 2147483647
    · have e0 : (if s.got < num then num else s.got) = ng := by rw [HN.out, if_pos h1]; split <;> omega
      go_wp2
      go_meet
      case rel => exact PeerAt.set4 (by decide) HP.out ng
    · have HX := Lib.hid (show ng = s.got by rw [HN.out, if_neg h1])
      have hd : decide (1 ≤ num ∧ num ≤ 2147483647) = false := decide_eq_false h1
      go_wp2
      go_meet
      case rel => rw [HX.out]; exact ⟨HP.out, Kept.refl _ _⟩
  case rest =>
    obtain ⟨hP, hK⟩ := hcut
    have HK := Lib.hid hK
    have c5' : wc.cell? ⟨b, 5, none⟩ = some (.int .i64 s.credit) := by simpa [St.cells] using hP.box.cell 5
    have f5' := hP.box.frozen 5
    obtain ⟨hP5, hK5⟩ := PeerAt.set5 (by decide) hP m2
    have HP5 := Lib.hid hP5
    have HK5 := Lib.hid hK5
    clear hP hK hP5 hK5 c4 f4
    go_upto_block 0 with (fail)
    generalize wc.setCell ⟨b, 5, none⟩ (.int .i64 m2) = wd at HP5 HK5 ⊢
    clear c5' f5' e1 e2
    have c3 : wd.cell? ⟨b, 3, none⟩ = some fv := by simpa [St.cells] using HP5.out.box.cell 3
    have f3 := HP5.out.box.frozen 3
    obtain ⟨A, c, rfl, hA, hlc, hcm, hseq⟩ := HP5.out.form
    simp only at c3 hA hlc hseq
    go_cut [9] (fun n wx => ∃ k : Nat, n = .int .i64 k ∧ k ≤ s.fl.length ∧ OutAt s.fl got k ∧ wd = wx)
    case first =>
      go_wp2_with (fail)
      go_loop [9] (fun n => ∃ k : Nat, n = .int .i64 k ∧ k ≤ s.fl.length ∧ AllLe s.fl got k) (fun n => s.fl.length - (intOf n).toNat)
      case atStart => exact ⟨0, rfl, Nat.zero_le _, fun j _ h => absurd h (by omega)⟩
      case round =>
        obtain ⟨k, rfl, hk, hle⟩ := hrel
        have HL := Lib.hid hle
        clear hle
        by_cases hlt : k < s.fl.length
        · obtain ⟨ad, rfl, hc⟩ := hseq k hlt
          by_cases hle : s.fl[k] ≤ got
          · go_wp2
            go_round
            case rel => exact ⟨k + 1, by go_num, by omega, HL.out.succ hlt hle⟩
            case measure => simp [intOf]; omega
          · go_wp2
            go_meet
            case rel => exact ⟨k, rfl, hk, ⟨HL.out, fun _ => by omega⟩, rfl⟩
        · go_wp2
          go_meet
          case rel => exact ⟨k, rfl, hk, ⟨HL.out, fun h => absurd h hlt⟩, rfl⟩
    case rest =>
      obtain ⟨k, rfl, hk, hout, rfl⟩ := hcut
      have HO := Lib.hid hout
      clear hout
      obtain ⟨fr, hfr⟩ : ∃ fr, fr = s.fl.drop k := ⟨_, rfl⟩
      have hfl : s.fl.filter (got < ·) = fr := by rw [hfr]; exact filter_drop hg.rise got k hk HO.out.1 HO.out.2
      have hfl2 : fr.length + k = s.fl.length := by rw [hfr, List.length_drop]; omega
      have hfl3 : s.heard num got credit = { s with got := ng, credit := m2, fl := fr } := by unfold St.heard; rw [hfl, ← HN.out, ← HM.out]
      have hsm : decide (0 < k) = s.heardSome got := by unfold St.heardSome; rw [hfl, decide_eq_decide]; omega
      have hflk : fr.length ≤ s.fl.length := by omega
      have HFR := Lib.hid hfr
      have HFL2 := Lib.hid hfl2
      have HFL3 := Lib.hid hfl3
      have HSM := Lib.hid hsm
      clear hfr hfl hfl2 hfl3 hsm hg
      rcases HP5.out.row.2 with ⟨h1, h2⟩ | ⟨g, cap, cur, hv, hbg, hgg, hnc, hcm', hcs, htake⟩
      · injection h1 with hv1 hv2 hv3
        have hf0 : fr = [] := List.eq_nil_of_length_eq_zero (by omega)
        have hk0 : k = 0 := by omega
        subst hv1 hv3 hf0 hk0
        have HV := Lib.hid hv2
        rw [hv2] at c3
        clear hv2 h2
        have hcp : ∀ W : World, (Builtin.copy_ #[37, 37] 3 #[.slice none 0 0, .slice none 0 0]).run Try.prog W = .ok (.int .i64 0) W := fun W => run_copy_none W 37 37 3 3 none none 0 0 0 0 Try.underlying37 (by kernel_rfl) rfl
        have hcl : ∀ W : World, (Builtin.clear_ #[37] 0 #[.slice none 0 0]).run Try.prog W = .ok (.tuple #[]) W := fun W => by simp [Builtin.clear_, run_underlying Try.underlying37]
        go_wp2
        go_region
        all_goals
          go_wp2
          go_ret
          refine ⟨ret_bool (by have := HSM.out; simpa using this), .slice none 0 0, by rw [HFL3.out]; exact ⟨HP5.out.box.drew.set 3 _, World.ownsRow_nil _ _ _ _, HP5.out.base_le⟩, ?_, fun k hk => by cases hk⟩
          exact (((HK.out.trans HK5.out fun _ _ e => e).drewN 1).more fun _ _ e => .inl e).at 3 _ (.inl (.inl rfl))
      · injection hv with hv1 _ hv3
        subst hv1 hv3
        have hne := own_box_ne HP5.out.row HP5.out.box (by decide)
        have hbgne : b ≠ g := fun e => hne (by simp [Value.ownBlock, e])
        have hb3 : ∀ w2, Kept (fun k => k = g) wd w2 → Box w2 b 39 (St.cells { s with got := ng, credit := m2 } (.slice (some ⟨g, 0, none⟩) s.fl.length c)) := fun w2 hk => HP5.out.box.kept hk hbgne
        have hcell : ∀ w2, Kept (fun k => k = g) wd w2 → w2.cell? ⟨b, 3, none⟩ = some (.slice (some ⟨g, 0, none⟩) s.fl.length c) ∧ w2.frozen? ⟨b, 3, none⟩ = false := fun w2 hk => ⟨by simpa [St.cells] using (hb3 w2 hk).cell 3, (hb3 w2 hk).frozen 3⟩
        have HCS := Lib.hid hcs
        have HTK := Lib.hid htake
        have HGG : Hid (Box wd g 3 cur) := hgg
        have HHC := Lib.hid hcell
        clear hcs htake hgg hA hcell hne
        rcases (show c = k ∨ k < c by omega) with rfl | hck
        case' inl =>
          have hf0 := Lib.hid (show (ints fr).length = 0 by have := HFL2.out; rw [ints, List.length_map]; omega)
          go_wp2
          go_region_law ((refine step_copy_box rfl (.tmp 57) (.tmp 63) 37 37 rfl 3 Try.underlying37 (by kernel_rfl) (some ⟨g, 0, none⟩) _ s.fl.length _ _ _ (by rfl) (by rfl) g 0 cur 3 (by exact HGG.out) (ints fr) (by rw [hf0.out]; first | exact (Nat.zero_min _).symm | exact hf0.out.symm.trans (copy_len HFL2.out)) (fun h => absurd h (by rw [hf0.out]; omega)) (by rw [hf0.out]; omega) (ints_one fr) ?_; intro w2 HB2 hK2))
        case' inr =>
          go_wp2
          go_region_law ((refine step_copy_box rfl (.tmp 57) (.tmp 63) 37 37 rfl 3 Try.underlying37 (by kernel_rfl) (some ⟨g, 0, none⟩) _ s.fl.length c (s.fl.length - k) (c - k) (by rfl) (by rfl) g 0 cur 3 (by exact HGG.out) (ints fr) (copy_len HFL2.out) (by first | exact copy_src HFR.out HFL2.out hseq | (rw [if_neg (by omega)]; exact copy_src HFR.out HFL2.out hseq)) (by rw [HCS.out]; have := HFL2.out; simp [ints]; omega) (ints_one fr) ?_; intro w2 HB2 hK2))
        all_goals
          obtain ⟨c3', f3'⟩ := HHC.out w2 ((Kept.drewN_eq 1).trans hK2 fun _ _ e => e)
          have HK2 := Lib.hid hK2
          have hil : (ints fr).length = fr.length := by simp [ints]
          have hcm'' := Lib.hid hcm'
          clear hK2 hcm' hcm c3 f3
          have hfit := clear_fit cur fr HCS.out hflk hlc
          have hfit0 : fr.length + 0 ≤ (splice cur.toList 0 (ints fr)).toArray.size := Nat.le_trans (by omega) hfit
          rcases (show c = fr.length ∨ fr.length < c by omega) with rfl | hcf
          all_goals
            go_wp2_with (refine wpList_clear_box rfl (.tmp 70) 37 3 rfl (.int .i64 0) Try.underlying37 (fun _ => by kernel_rfl) rfl rfl _ _ _ rfl g fr.length _ HB2.out ?_ ?_ ?_)
            any_goals first | exact fun _ => rfl | (intro h0; exact absurd h0 (by omega)) | exact hfit | exact hfit0
            · intro w3 HB3 hK3
              obtain ⟨c3', f3'⟩ := HHC.out w3 (((Kept.drewN_eq 1).trans HK2.out fun _ _ e => e).trans hK3 fun _ _ e => e)
              have HK3 := Lib.hid hK3
              clear hK3
              go_wp2
              go_ret
              have hk := ((Kept.drewN_eq (w := wd) (S := fun k => k = g) 1).trans HK2.out fun _ _ e => e).trans HK3.out fun _ _ e => e
              refine ⟨?_, .slice (some ⟨g, 0, none⟩) fr.length _, by rw [HFL3.out]; exact heard_done (by decide) hbg HP5.out.base_le (hb3 w3 hk) HB3.out HCS.out (by first | (simp; done) | (simp; omega)) hcm''.out, ?_, fun k hk => .inl hk⟩
              · exact ret_bool HSM.out
              · exact (((HK.out.trans HK5.out fun _ _ e => e).more fun _ _ e => .inl e).trans hk fun k _ e => .inr (by rw [e]; rfl)).at 3 _ (.inl (.inl rfl))
end Go.Proofs.Ytadamldglebgmaa
