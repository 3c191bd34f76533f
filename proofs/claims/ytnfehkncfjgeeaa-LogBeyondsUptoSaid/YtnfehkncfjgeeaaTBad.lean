/- The walk of glyph.BadAt. Conditions: what Go's own sizes hold. -/
import Derived.Test.YtnfehkncfjgeeaaTGlyph
namespace Go.Proofs.Ytnfehkncfjgeeaa
open Go Go.RowKit

theorem begN_extract {s : ByteArray} {i : Nat} (h : i ≤ s.size) : begN (s.extract i s.size) 0 = begN s i := by
  unfold begN
  rw [byt_extract h, byt_extract h, byt_extract h, byt_extract h]
  rfl
theorem firstBad_step {s : ByteArray} {i f : Nat} (h : i < s.size) (hf : s.size ≤ i + f) : firstBad (pcs s f i) = if bad s i then (i : Int) else firstBad (pcs s f (i + (dec s i).2)) := by
  rw [pcs_step h hf, firstBad]
  cases bad s i <;> rfl

set_option maxRecDepth 100000 in
set_option maxHeartbeats 1600000 in
theorem BadAt_any (s : ByteArray) (w : World) (hs : s.size ≤ 4611686018427387904) : Calls Try.prog 103 #[.string s] w (IntPost w (badAt s)) := by
  obtain ⟨c, hcc⟩ : ∃ c, badAt s = c := ⟨_, rfl⟩
  have HC := Lib.hid hcc
  rw [hcc]
  clear hcc
  go_enter Try.func103, Try.ntmps103
  go_wp2_with (fail)
  go_loopw [] (fun wr => ∃ (pos : Nat), wr.heap[w.heap.size]? = some (.stringIter s pos) ∧ firstBad (pcs s s.size pos) = c ∧ Kept (fun _ => False) w wr) (fun wr => s.size - wr.iterPos w.heap.size)
  case atStart => exact ⟨0, World.iter_heap w s 0, HC.out, (Kept.refl _ _).alloc _⟩
  case round =>
    obtain ⟨pos, hit, hsum, hk⟩ := hrel
    have HK := Lib.hid hk
    have HIT := Lib.hid hit
    by_cases hp : pos < s.size
    · have hnx : ∀ ty, (Instr.next (.pointer (some ⟨w.heap.size, 0, none⟩)) true ty).run Try.prog wr = _ := fun ty => Lib.run_next_any_at wr w.heap.size s pos ty hit hp
      rw [firstBad_step hp (by omega)] at hsum
      have hbb := beg_bad s pos
      have hd := dec_pos s pos
      obtain ⟨d, hdd⟩ : ∃ d, dec s pos = d := ⟨_, rfl⟩
      obtain ⟨r, n⟩ := d
      have hdd' : Utf8.decode s pos = (r, n) := hdd
      rw [hdd'] at hnx
      rw [hdd] at hsum hbb hd
      have hbad : bad s pos = decide ((r, n) = (65533, 1)) := by unfold bad; rw [hdd]
      simp only at hnx hsum hbb hd
      have hr32 : r ≤ 2147483647 := by have := decode_le s pos; rw [hdd'] at this; exact this
      have HKI := Lib.hid (HK.out.iterAt s (pos + n) (Nat.le_refl _))
      have HIT2 := Lib.hid (Lib.iterAt_heap _ _ _ _ (pos + n) HIT.out)
      have HPOS : wr.iterPos w.heap.size = pos := by
        unfold World.iterPos
        rw [HIT.out]
      have HP1 := Lib.hid HPOS
      have HP2 := Lib.hid (show (wr.iterAt w.heap.size s (pos + n)).iterPos w.heap.size = pos + n by
        unfold World.iterPos
        rw [HIT2.out])
      clear HPOS hdd hdd' hk hit
      by_cases hr : r = 65533
      · subst hr
        have hbe : begN (s.extract pos s.size) 0 = begN s pos := begN_extract (by omega)
        have hsz : (s.extract pos s.size).size = s.size - pos := by simp
        cases hb : bad s pos with
        | true =>
          rw [hb] at hsum hbb
          simp only [if_true] at hsum hbb
          have HW := Lib.hid (hbe.trans hbb)
          have HS := Lib.hid hsum
          clear hbad hb hsum hbb hbe
          go_wp2_with (fail)
          refine (width_any (s.extract pos s.size) _ (by omega) (by omega)).mono ?_
          rintro e w' ⟨rfl, rfl⟩
          rw [HW.out]
          go_wp2
          go_ret
          exact ⟨by rw [← HS.out]; rfl, HKI.out⟩
        | false =>
          rw [hb] at hsum hbb
          simp only [Bool.false_eq_true, if_false] at hsum hbb
          have HW := Lib.hid (hbe.trans hbb)
          have HS := Lib.hid hsum
          clear hbad hb hsum hbb hbe
          go_wp2_with (fail)
          refine (width_any (s.extract pos s.size) _ (by omega) (by omega)).mono ?_
          rintro e w' ⟨rfl, rfl⟩
          rw [HW.out]
          have hn0 : ((n : Nat) : Int) ≠ 0 := by omega
          go_wp2
          go_roundw
          case rel => exact ⟨pos + n, HIT2.out, HS.out, HKI.out⟩
          case measure => rw [HP1.out, HP2.out]; omega
      · have hb : bad s pos = false := by
          rw [hbad]
          exact decide_eq_false fun e => hr (by injection e)
        rw [hb] at hsum
        simp only [Bool.false_eq_true, if_false] at hsum
        have HS := Lib.hid hsum
        have hr' : ((r : Nat) : Int) ≠ 65533 := by omega
        clear hbad hb hsum hbb hr
        go_wp2
        go_roundw
        case rel => exact ⟨pos + n, HIT2.out, HS.out, HKI.out⟩
        case measure => rw [HP1.out, HP2.out]; omega
    · have hnx : ∀ ty, (Instr.next (.pointer (some ⟨w.heap.size, 0, none⟩)) true ty).run Try.prog wr = _ := fun ty => Lib.run_next_end_at wr w.heap.size s pos ty hit hp
      rw [pcs_end _ (by omega)] at hsum
      have HS := Lib.hid hsum
      clear hk hsum
      go_wp2
      go_ret
      exact ⟨by rw [← HS.out]; rfl, HK.out⟩
end Go.Proofs.Ytnfehkncfjgeeaa
