/- The walk of the reference's Heard. Conditions: the Peer lies in memory as PeerAt says, and is Good. -/
import Derived.Test.YtadamldglebgmaaHeard
import Derived.Lib.SmallJoins
namespace Go.Proofs.Ytadamldglebgmaa
open Go.RowKit

theorem rheard_credit (c : Int) : ∃ m1 m2 : Int, (if c < 0 then 0 else c) = m1 ∧ (if 256 < m1 then 256 else m1) = m2 ∧ m2 = max 0 (min c 256) := ⟨_, _, rfl, rfl, by split <;> split <;> omega⟩

def above (got : Int) (l : List Int) : List Int := l.filter (got < ·)
theorem above_yes (got : Int) (fl : List Int) (k : Nat) (hk : k < fl.length) (h : got < fl[k]) : ints (above got (fl.take k)) ++ [.int .i64 fl[k]] = ints (above got (fl.take (k + 1))) ∧ (above got (fl.take k)).length + 1 = (above got (fl.take (k + 1))).length := by
  have e : above got (fl.take (k + 1)) = above got (fl.take k) ++ [fl[k]] := by
    unfold above
    rw [List.take_succ_eq_append_getElem hk, List.filter_append, List.filter_cons_of_pos (by simpa using h)]
    rfl
  rw [e]; simp [ints]
theorem above_no (got : Int) (fl : List Int) (k : Nat) (hk : k < fl.length) (h : ¬ got < fl[k]) : above got (fl.take (k + 1)) = above got (fl.take k) := by
  unfold above
  rw [List.take_succ_eq_append_getElem hk, List.filter_append, List.filter_cons_of_neg (by simpa using h)]
  simp
theorem above_le (got : Int) (fl : List Int) (k : Nat) : (above got (fl.take k)).length ≤ fl.length :=
  Nat.le_trans (List.length_filter_le _ _) (by rw [List.length_take]; omega)

set_option maxRecDepth 100000 in
set_option maxHeartbeats 1600000 in
theorem RHeard_any (base b : Nat) (fv : Value) (s : St) (num got credit : Int) (w : World) (h : PeerAt w base 41 b fv s) (hg : Good s) (hbase : base ≤ w.heap.size) :
    Calls Try.prog 22 #[.pointer (some ⟨b, 0, none⟩), .int .i64 num, .int .i64 got, .int .i64 credit] w (HeardPost w base 41 b fv s num got credit) := by
  obtain ⟨i0, hi, hz0, hz1, hz2⟩ := info_parts info_int
  have c4 : w.cell? ⟨b, 4, none⟩ = some (.int .i64 s.got) := by simpa [St.cells] using h.box.cell 4
  have f4 := h.box.frozen 4
  have hlen : s.fl.length ≤ 64 := by have := hg.len; have := hg.w1; omega
  obtain ⟨m1, m2, e1, e2, hm2⟩ := rheard_credit credit
  have HM := Lib.hid hm2
  obtain ⟨ng, hng⟩ : ∃ x, x = if 1 ≤ num ∧ num ≤ 2147483647 then max s.got num else s.got := ⟨_, rfl⟩
  have HN := Lib.hid hng
  have HP := Lib.hid h
  clear hm2 hng h
  go_enter Try.func22, Try.ntmps22
  go_upto_region 1 with (fail)
  go_cut [25] (fun t wx => t = .bool (decide (1 ≤ num ∧ num ≤ 2147483647 ∧ s.got < num)) ∧ w = wx)
  case first =>
    by_cases h1 : 1 ≤ num
    · by_cases h2 : num ≤ 2147483647
      · go_wp2
        go_meet
        case rel => exact ⟨congrArg Value.bool (by simp [h1, h2]), rfl⟩
      · go_wp2
        go_meet
        case rel => exact ⟨congrArg Value.bool (by rw [decide_eq_false]; omega), rfl⟩
    · go_wp2
      go_meet
      case rel => exact ⟨congrArg Value.bool (by rw [decide_eq_false]; omega), rfl⟩
  case rest =>
  obtain ⟨rfl, rfl⟩ := hcut
  go_upto_if 25 with (fail)
  go_cut [25] (fun _ wx => PeerAt wx base 41 b fv { s with got := ng } ∧ Kept (fun k => k = b) w wx)
  case first =>
    by_cases h1 : 1 ≤ num ∧ num ≤ 2147483647 ∧ s.got < num
    · have HX := Lib.hid (show ng = num by rw [HN.out, if_pos ⟨h1.1, h1.2.1⟩]; omega)
      go_wp2
      go_meet
      case rel => rw [HX.out]; exact PeerAt.set4 (by decide) HP.out num
    · have HX := Lib.hid (show ng = s.got by rw [HN.out]; split <;> omega)
      have hd : decide (1 ≤ num ∧ num ≤ 2147483647 ∧ s.got < num) = false := decide_eq_false h1
      go_wp2
      go_meet
      case rel => rw [HX.out]; exact ⟨HP.out, Kept.refl _ _⟩
  case rest =>
    obtain ⟨hP, hK⟩ := hcut
    have HK := Lib.hid hK
    have c5' : wc.cell? ⟨b, 5, none⟩ = some (.int .i64 s.credit) := by simpa [St.cells] using hP.box.cell 5
    have f5' := hP.box.frozen 5
    obtain ⟨hP5, hK5⟩ := PeerAt.set5 (by decide) hP m2
    have HP5 := Lib.hid hP5
    have HK5 := Lib.hid hK5
    clear hP hK hP5 hK5 c4 f4
    go_upto_block 0 with (fail)
    have hsz : base ≤ (wc.setCell ⟨b, 5, none⟩ (.int .i64 m2)).heap.size := Nat.le_trans hbase (Nat.le_trans HK.out.size HK5.out.size)
    generalize wc.setCell ⟨b, 5, none⟩ (.int .i64 m2) = wd at HP5 HK5 hsz ⊢
    clear c5' f5' e1 e2
    have c3 : wd.cell? ⟨b, 3, none⟩ = some fv := by simpa [St.cells] using HP5.out.box.cell 3
    obtain ⟨A, c, rfl, hA, hlc, hcm, hseq⟩ := HP5.out.form
    simp only at c3 hA hlc hseq
    have hk3 : ∀ wx, Kept (fun _ => False) wd wx → wx.cell? ⟨b, 3, none⟩ = some (.slice A s.fl.length c) ∧ wx.frozen? ⟨b, 3, none⟩ = false := fun wx hk => ⟨by simpa [St.cells] using (HP5.out.box.kept hk fun h => h).cell 3, (HP5.out.box.kept hk fun h => h).frozen 3⟩
    have HK3 := Lib.hid hk3
    have HSQ := Lib.hid hseq
    clear hk3 hA hseq hcm
    go_cut [9] (fun v wx => ∃ A' c', v = .slice A' (above got s.fl).length c' ∧ wx.ownsRow wd.heap.size 3 1 v (above got s.fl).length (ints (above got s.fl)) ∧ Kept (fun _ => False) wd wx)
    case first =>
      go_wp2_with (fail)
      go_loopw [9, 10] (fun v i wr => ∃ k : Nat, i = .int .i64 k ∧ k ≤ s.fl.length ∧ wr.ownsRow wd.heap.size 3 1 v (above got (s.fl.take k)).length (ints (above got (s.fl.take k))) ∧ Kept (fun _ => False) wd wr) (fun _ i _ => s.fl.length - (intOf i).toNat)
      case atStart => exact ⟨0, rfl, Nat.zero_le _, World.ownsRow_nil _ _ _ _, Kept.refl _ _⟩
      case round =>
        obtain ⟨k, rfl, hk, hown, hkept⟩ := hrel
        have HO := Lib.hid hown
        have HKr := Lib.hid hkept
        obtain ⟨c3r, f3r⟩ := HK3.out _ hkept
        clear hown hkept
        by_cases hlt : k < s.fl.length
        · obtain ⟨ad, rfl, hc0⟩ := HSQ.out k hlt
          have hc : wr.cell? (ad.add k) = some (.int .i64 s.fl[k]) := by
            rw [← hc0]
            exact World.cell?_of_block (HKr.out.block _ (World.block_lt_of_cell? wd _ hc0) fun h => h)
          have hable := above_le got s.fl k
          by_cases hle : got < s.fl[k]
          · have hsz' := HKr.out.size
            go_wp2_with (at_builtin; refine wpList_append_own_at _ rfl (.tmp 54) (.tmp 62) 37 rfl wd.heap.size 3 i0 (.int .i64 0) 1 8 Try.underlying37 hi hz0 hz1 hz2 rfl (by decide) _ _ _ rfl (HO.out.alloc _) ⟨wr.heap.size, 0, none⟩ 1 1 [.int .i64 s.fl[k]] rfl rfl ?c1 ?c2 ?c3 ?c4 ?c5 ?_)
            case c1 => exact news_one _ _ _ _ rfl
            case c2 => exact one_int _ _
            case c3 => unfold maxLen; omega
            case c4 => omega
            case c5 => simp; omega
            intro v' w1 hown1 hg1 _ hat
            have HO1 := Lib.hid hown1
            have HG1 := Lib.hid hg1
            clear hown1 hg1 hat
            go_wp2
            go_roundw
            case rel =>
              have ha := above_yes got s.fl k hlt hle
              refine ⟨k + 1, by go_num, by omega, by have := HO1.out; rw [ha.1, ha.2] at this; exact this, (HKr.out.alloc _).grown HG1.out fun j hj e => ?_⟩
              have := HO.out.lt j e
              omega
            case measure => simp [intOf]; omega
          · go_wp2
            go_roundw
            case rel => exact ⟨k + 1, by go_num, by omega, by rw [above_no got s.fl k hlt hle]; exact HO.out, HKr.out⟩
            case measure => simp [intOf]; omega
        · obtain rfl : k = s.fl.length := by omega
          have e : s.fl.take s.fl.length = s.fl := List.take_length
          go_wp2
          go_meet
          case rel =>
            have ho := HO.out
            rw [e] at ho
            rcases Go.Joins.ownsRow_forms ho with ⟨hv, h0⟩ | ⟨g, cap, hv⟩
            · exact ⟨none, 0, by rw [hv, h0], ho, HKr.out⟩
            · exact ⟨_, _, hv, ho, HKr.out⟩
    case rest =>
      obtain ⟨A', c', rfl, hown, hkept⟩ := hcut
      obtain ⟨c3r, f3r⟩ := HK3.out _ hkept
      have HO := Lib.hid hown
      have HKr := Lib.hid hkept
      clear hown hkept
      go_wp2
      go_ret
      have hHN := HN.out
      have hHM := HM.out
      refine ⟨ret_bool rfl, .slice A' (above got s.fl).length c', ?_, ?_, fun k hk => ?_⟩
      · have e : s.heard num got credit = { s with got := ng, credit := m2, fl := above got s.fl } := by unfold St.heard above; rw [← hHN, ← hHM]
        rw [e]
        have hb := (HP5.out.box.kept HKr.out fun h => h)
        refine ⟨hb.set 3 _, ?_, HP5.out.base_le⟩
        exact own_base (Kept.own (S := fun k => k = b) ((Kept.refl _ _).at 3 _ (.inl rfl)) HO.out fun k hk e => own_box_ne HO.out hb (by decide) (e ▸ hk)) hsz
      · exact (((HK.out.trans HK5.out fun _ _ e => e).trans HKr.out fun _ _ e => e.elim).more fun _ _ e => .inl e).at 3 _ (.inl (.inl rfl))
      · have := (HO.out.lt k hk).1
        have := HK.out.size
        have := HK5.out.size
        exact .inr (by omega)
end Go.Proofs.Ytadamldglebgmaa
