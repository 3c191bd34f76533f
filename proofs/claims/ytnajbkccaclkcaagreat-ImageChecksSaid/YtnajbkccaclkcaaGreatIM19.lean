/- The walk of glyph.BadAt. Conditions: what Go's own sizes hold. · The walks of hearsayref1.within, low, begins. Conditions: what Go's own sizes hold. · The walks of hearsayref1.Decode, Pieces, BadAt, Good, Count. Conditions: the text has at most a million bytes. -/
import Derived.Test.YtnajbkccaclkcaaGreatIM18
namespace Go.Proofs.YtnajbkccaclkcaaGreat
open Go Go.RowKit

theorem begN_extract {s : ByteArray} {i : Nat} (h : i ≤ s.size) : begN (s.extract i s.size) 0 = begN s i := by
  unfold begN
  rw [byt_extract h, byt_extract h, byt_extract h, byt_extract h]
  rfl
theorem firstBad_step {s : ByteArray} {i f : Nat} (h : i < s.size) (hf : s.size ≤ i + f) : firstBad (pcs s f i) = if bad s i then (i : Int) else firstBad (pcs s f (i + (dec s i).2)) := by
  rw [pcs_step h hf, firstBad]
  cases bad s i <;> rfl

set_option maxRecDepth 100000 in
set_option maxHeartbeats 1600000 in
theorem BadAt_any (s : ByteArray) (w : World) (hs : s.size ≤ 4611686018427387904) : Calls Tryz.prog 145 #[.string s] w (IntPost w (badAt s)) := by
  obtain ⟨c, hcc⟩ : ∃ c, badAt s = c := ⟨_, rfl⟩
  have HC := Lib.hid hcc
  rw [hcc]
  clear hcc
  go_enter Tryz.func145, Tryz.ntmps145
  go_wp2_with (fail)
  go_loopw [] (fun wr => ∃ (pos : Nat), wr.heap[w.heap.size]? = some (.stringIter s pos) ∧ firstBad (pcs s s.size pos) = c ∧ Kept (fun _ => False) w wr) (fun wr => s.size - wr.iterPos w.heap.size)
  case atStart => exact ⟨0, World.iter_heap w s 0, HC.out, (Kept.refl _ _).alloc _⟩
  case round =>
    obtain ⟨pos, hit, hsum, hk⟩ := hrel
    have HK := Lib.hid hk
    have HIT := Lib.hid hit
    by_cases hp : pos < s.size
    · have hnx : ∀ ty, (Instr.next (.pointer (some ⟨w.heap.size, 0, none⟩)) true ty).run Tryz.prog wr = _ := fun ty => Lib.run_next_any_at wr w.heap.size s pos ty hit hp
      rw [firstBad_step hp (by omega)] at hsum
      have hbb := beg_bad s pos
      have hd := dec_pos s pos
      obtain ⟨d, hdd⟩ : ∃ d, dec s pos = d := ⟨_, rfl⟩
      obtain ⟨r, n⟩ := d
      have hdd' : Utf8.decode s pos = (r, n) := hdd
      rw [hdd'] at hnx
      rw [hdd] at hsum hbb hd
      have hbad : bad s pos = decide ((r, n) = (65533, 1)) := by unfold bad; rw [hdd]
      simp only at hnx hsum hbb hd
      have hr32 : r ≤ 2147483647 := by have := decode_le s pos; rw [hdd'] at this; exact this
      have HKI := Lib.hid (HK.out.iterAt s (pos + n) (Nat.le_refl _))
      have HIT2 := Lib.hid (Lib.iterAt_heap _ _ _ _ (pos + n) HIT.out)
      have HPOS : wr.iterPos w.heap.size = pos := by
        unfold World.iterPos
        rw [HIT.out]
      have HP1 := Lib.hid HPOS
      have HP2 := Lib.hid (show (wr.iterAt w.heap.size s (pos + n)).iterPos w.heap.size = pos + n by
        unfold World.iterPos
        rw [HIT2.out])
      clear HPOS hdd hdd' hk hit
      by_cases hr : r = 65533
      · subst hr
        have hbe : begN (s.extract pos s.size) 0 = begN s pos := begN_extract (by omega)
        have hsz : (s.extract pos s.size).size = s.size - pos := by simp
        cases hb : bad s pos with
        | true =>
          rw [hb] at hsum hbb
          simp only [if_true] at hsum hbb
          have HW := Lib.hid (hbe.trans hbb)
          have HS := Lib.hid hsum
          clear hbad hb hsum hbb hbe
          go_wp2_with (fail)
          refine (width_any (s.extract pos s.size) _ (by omega) (by omega)).mono ?_
          rintro e w' ⟨rfl, rfl⟩
          rw [HW.out]
          go_wp2
          go_ret
          exact ⟨by rw [← HS.out]; rfl, HKI.out⟩
        | false =>
          rw [hb] at hsum hbb
          simp only [Bool.false_eq_true, if_false] at hsum hbb
          have HW := Lib.hid (hbe.trans hbb)
          have HS := Lib.hid hsum
          clear hbad hb hsum hbb hbe
          go_wp2_with (fail)
          refine (width_any (s.extract pos s.size) _ (by omega) (by omega)).mono ?_
          rintro e w' ⟨rfl, rfl⟩
          rw [HW.out]
          have hn0 : ((n : Nat) : Int) ≠ 0 := by omega
          go_wp2
          go_roundw
          case rel => exact ⟨pos + n, HIT2.out, HS.out, HKI.out⟩
          case measure => rw [HP1.out, HP2.out]; omega
      · have hb : bad s pos = false := by
          rw [hbad]
          exact decide_eq_false fun e => hr (by injection e)
        rw [hb] at hsum
        simp only [Bool.false_eq_true, if_false] at hsum
        have HS := Lib.hid hsum
        have hr' : ((r : Nat) : Int) ≠ 65533 := by omega
        clear hbad hb hsum hbb hr
        go_wp2
        go_roundw
        case rel => exact ⟨pos + n, HIT2.out, HS.out, HKI.out⟩
        case measure => rw [HP1.out, HP2.out]; omega
    · have hnx : ∀ ty, (Instr.next (.pointer (some ⟨w.heap.size, 0, none⟩)) true ty).run Tryz.prog wr = _ := fun ty => Lib.run_next_end_at wr w.heap.size s pos ty hit hp
      rw [pcs_end _ (by omega)] at hsum
      have HS := Lib.hid hsum
      clear hk hsum
      go_wp2
      go_ret
      exact ⟨by rw [← HS.out]; rfl, HK.out⟩
end Go.Proofs.YtnajbkccaclkcaaGreat

namespace Go.Proofs.YtnajbkccaclkcaaGreat
open Go Go.RowKit

def WithPost (w : World) (b lo hi : Nat) (e : Ending) (w' : World) : Prop := e = .returned (.bool (decide (lo ≤ b ∧ b ≤ hi))) ∧ w' = w
set_option maxRecDepth 100000 in
theorem within_any (b lo hi : Nat) (w : World) : Calls Tryz.prog 118 #[.int .u8 b, .int .u8 lo, .int .u8 hi] w (WithPost w b lo hi) := by
  unfold WithPost
  by_cases h1 : lo ≤ b
  · by_cases h2 : b ≤ hi
    · have h3 : decide (lo ≤ b ∧ b ≤ hi) = true := by simp [h1, h2]
      rw [h3]
      clear h3
      go_enter Tryz.func118, Tryz.ntmps118
      go_wp2
      go_ret
      exact ⟨rfl, rfl⟩
    · have h3 : decide (lo ≤ b ∧ b ≤ hi) = false := by simp [h2]
      rw [h3]
      clear h3
      have h2' : hi < b := by omega
      go_enter Tryz.func118, Tryz.ntmps118
      go_wp2
      go_ret
      exact ⟨rfl, rfl⟩
  · have h3 : decide (lo ≤ b ∧ b ≤ hi) = false := by simp [h1]
    rw [h3]
    clear h3
    have h1' : b < lo := by omega
    go_enter Tryz.func118, Tryz.ntmps118
    go_wp2
    go_ret
    exact ⟨rfl, rfl⟩
/-- Do so many bytes from a place on go on a rune? -/
def lowB (s : ByteArray) : Nat → Nat → Bool
  | 0, _ => true
  | n + 1, k => goesOn (byt s k) && lowB s n (k + 1)
theorem lowB_at (s : ByteArray) : ∀ n k, lowB s n k = true ↔ ∀ j, j < n → goesOn (byt s (k + j)) = true
  | 0, k => ⟨fun _ j h => by omega, fun _ => rfl⟩
  | n + 1, k => by
    rw [lowB, Bool.and_eq_true, lowB_at s n (k + 1)]
    constructor
    · rintro ⟨h1, h2⟩ j hj
      rcases Nat.eq_zero_or_pos j with rfl | h0
      · exact h1
      · have := h2 (j - 1) (by omega)
        rwa [show k + 1 + (j - 1) = k + j by omega] at this
    · intro h
      refine ⟨h 0 (by omega), fun j hj => ?_⟩
      have := h (j + 1) (by omega)
      rwa [show k + (j + 1) = k + 1 + j by omega] at this
theorem goesOn_lt {s : ByteArray} {k : Nat} (h : goesOn (byt s k) = true) : k < s.size := by
  rw [goesOn_iff] at h
  rcases Nat.lt_or_ge k s.size with h1 | h1
  · exact h1
  · rw [byt_end h1] at h; omega
def LowPost (w : World) (s : ByteArray) (k n : Nat) (e : Ending) (w' : World) : Prop := e = .returned (.bool (lowB s n k)) ∧ w' = w
set_option maxRecDepth 100000 in
theorem low_any (s : ByteArray) (k n : Nat) (w : World) (hk : k ≤ s.size) (hn : n ≤ 3) (hs : s.size ≤ 4611686018427387904) : Calls Tryz.prog 119 #[.string s, .int .i64 k, .int .i64 n] w (LowPost w s k n) := by
  obtain ⟨x, hx⟩ : ∃ x, lowB s n k = x := ⟨_, rfl⟩
  have hat := lowB_at s n k
  rw [hx] at hat
  have HAT := Lib.hid hat
  unfold LowPost
  rw [hx]
  clear hx hat
  go_enter Tryz.func119, Tryz.ntmps119
  go_wp2_with (fail)
  go_loopw [7] (fun i wr => wr = w ∧ ∃ j : Nat, i = .int .i64 j ∧ j ≤ n ∧ ∀ t, t < j → goesOn (byt s (k + t)) = true) (fun i _ => n - (intOf i).toNat)
  case atStart => exact ⟨rfl, 0, rfl, by omega, fun t h => by omega⟩
  case round =>
    obtain ⟨rfl, j, rfl, hj, hall⟩ := hrel
    have HALL := Lib.hid hall
    clear hall
    by_cases hlt : j < n
    · by_cases hp : k + j < s.size
      · obtain ⟨c, hc⟩ : ∃ c, (s[k + j]'hp).toNat = c := ⟨_, rfl⟩
        have hcc : byt s (k + j) = c := by rw [← byt_get hp, hc]
        have HCC := Lib.hid hcc
        clear hcc
        cases hg : goesOn c with
        | true =>
          have HG := Lib.hid hg
          have h3 : decide (128 ≤ c ∧ c ≤ 191) = true := hg
          clear hg
          go_wp2_with (fail)
          refine (within_any c 128 191 _).mono ?_
          unfold WithPost
          rw [h3]
          rintro e w' ⟨rfl, rfl⟩
          clear h3
          go_wp2
          go_roundw
          case rel => exact ⟨trivial, j + 1, by go_num, by omega, fun t ht => by
            by_cases h : t < j
            · exact HALL.out t h
            · obtain rfl : t = j := by omega
              rw [HCC.out]
              exact HG.out⟩
          case measure => simp [intOf]; omega
        | false =>
          have HG := Lib.hid hg
          have h3 : decide (128 ≤ c ∧ c ≤ 191) = false := hg
          clear hg
          have hx : x = false := by
            cases x with
            | false => rfl
            | true =>
              have := HAT.out.1 rfl j hlt
              rw [HCC.out, HG.out] at this
              cases this
          subst hx
          go_wp2_with (fail)
          refine (within_any c 128 191 _).mono ?_
          unfold WithPost
          rw [h3]
          rintro e w' ⟨rfl, rfl⟩
          clear h3
          go_wp2
          go_ret
          exact ⟨rfl, rfl⟩
      · have hx : x = false := by
          cases x with
          | false => rfl
          | true => exact absurd (goesOn_lt (HAT.out.1 rfl j hlt)) hp
        subst hx
        have hp' : s.size ≤ k + j := by omega
        go_wp2_with (fail)
        go_ret
        exact ⟨rfl, rfl⟩
    · obtain rfl : j = n := by omega
      have hx : x = true := HAT.out.2 HALL.out
      subst hx
      go_wp2_with (fail)
      go_ret
      exact ⟨rfl, rfl⟩
def BegPost (w : World) (s : ByteArray) (i : Nat) (e : Ending) (w' : World) : Prop := ∃ r : Int, e = .returned (.tuple #[.int .i32 r, .int .i64 (begN s i)]) ∧ Kept (fun _ => False) w w'

theorem low_at (s : ByteArray) (k n : Nat) (kk : Int) (w : World) (b : Bool) (hkk : kk = ((k : Nat) : Int)) (hb : lowB s n k = b) (hk : k ≤ s.size) (hn : n ≤ 3) (hs : s.size ≤ 4611686018427387904) : Calls Tryz.prog 119 #[.string s, .int .i64 kk, .int .i64 n] w fun e w' => e = .returned (.bool b) ∧ w' = w := by
  subst hkk hb
  exact low_any s k n w hk hn hs
theorem within_is (a lo hi : Nat) (aa : Int) (w : World) (b : Bool) (ha : aa = ((a : Nat) : Int)) (hb : decide (lo ≤ a ∧ a ≤ hi) = b) : Calls Tryz.prog 118 #[.int .u8 aa, .int .u8 lo, .int .u8 hi] w fun e w' => e = .returned (.bool b) ∧ w' = w := by
  subst ha hb
  exact within_any a lo hi w

set_option maxRecDepth 100000 in
set_option maxHeartbeats 3200000 in
theorem beg_p0 (s : ByteArray) (i : Nat) (w : World) (a b : Nat) (hi : i < s.size) (hs : s.size ≤ 4611686018427387904) (ha : (s[i]'hi).toNat = a) (hA : a ≤ 127) (hm : i + 1 < s.size) (hb : (s[i + 1]'hm).toNat = b) (hx : begN s i = 1) :
    Calls Tryz.prog 117 #[.string s, .int .i64 i] w (BegPost w s i) := by
  unfold BegPost
  rw [hx]
  clear hx
  go_enter Tryz.func117, Tryz.ntmps117
  go_wp2_with (fail)
  go_ret2
  exact ⟨_, rfl, Kept.refl _ _⟩
set_option maxRecDepth 100000 in
set_option maxHeartbeats 3200000 in
theorem beg_p1 (s : ByteArray) (i : Nat) (w : World) (a b : Nat) (hi : i < s.size) (hs : s.size ≤ 4611686018427387904) (ha : (s[i]'hi).toNat = a) (hA : a < 256 ∧ (127 < a ∧ a < 194 ∨ 244 < a)) (hm : i + 1 < s.size) (hb : (s[i + 1]'hm).toNat = b) (hx : begN s i = 0) :
    Calls Tryz.prog 117 #[.string s, .int .i64 i] w (BegPost w s i) := by
  unfold BegPost
  rw [hx]
  clear hx
  go_enter Tryz.func117, Tryz.ntmps117
  go_wp2_with (fail)
  refine (within_is a 194 223 _ _ false rfl (decide_eq_false (by omega))).mono ?_
  rintro e w' ⟨rfl, rfl⟩
  go_wp2_with (fail)
  refine (within_is a 225 236 _ _ false rfl (decide_eq_false (by omega))).mono ?_
  rintro e w' ⟨rfl, rfl⟩
  go_wp2_with (fail)
  refine (within_is a 238 239 _ _ false rfl (decide_eq_false (by omega))).mono ?_
  rintro e w' ⟨rfl, rfl⟩
  go_wp2_with (fail)
  refine (within_is a 241 243 _ _ false rfl (decide_eq_false (by omega))).mono ?_
  rintro e w' ⟨rfl, rfl⟩
  go_wp2_with (fail)
  go_ret2
  exact ⟨_, rfl, Kept.refl _ _⟩
set_option maxRecDepth 100000 in
set_option maxHeartbeats 3200000 in
theorem beg_p2 (s : ByteArray) (i : Nat) (w : World) (a b : Nat) (hi : i < s.size) (hs : s.size ≤ 4611686018427387904) (ha : (s[i]'hi).toNat = a) (hA : 194 ≤ a ∧ a ≤ 223) (hm : i + 1 < s.size) (hb : (s[i + 1]'hm).toNat = b) (hL : lowB s 1 (i + 1) = false) (hx : begN s i = 0) :
    Calls Tryz.prog 117 #[.string s, .int .i64 i] w (BegPost w s i) := by
  unfold BegPost
  rw [hx]
  clear hx
  have HL := Lib.hid hL
  clear hL
  go_enter Tryz.func117, Tryz.ntmps117
  go_wp2_with (fail)
  refine (within_is a 194 223 _ _ true rfl (decide_eq_true (by omega))).mono ?_
  rintro e w' ⟨rfl, rfl⟩
  go_wp2_with (fail)
  refine (low_at s (i + 1) 1 _ _ false (by omega) HL.out (by omega) (by omega) hs).mono ?_
  rintro e w' ⟨rfl, rfl⟩
  go_wp2_with (fail)
  refine (within_is a 225 236 _ _ false rfl (decide_eq_false (by omega))).mono ?_
  rintro e w' ⟨rfl, rfl⟩
  go_wp2_with (fail)
  refine (within_is a 238 239 _ _ false rfl (decide_eq_false (by omega))).mono ?_
  rintro e w' ⟨rfl, rfl⟩
  go_wp2_with (fail)
  refine (within_is a 241 243 _ _ false rfl (decide_eq_false (by omega))).mono ?_
  rintro e w' ⟨rfl, rfl⟩
  go_wp2_with (fail)
  go_ret2
  exact ⟨_, rfl, Kept.refl _ _⟩
set_option maxRecDepth 100000 in
set_option maxHeartbeats 3200000 in
theorem beg_p3 (s : ByteArray) (i : Nat) (w : World) (a b : Nat) (hi : i < s.size) (hs : s.size ≤ 4611686018427387904) (ha : (s[i]'hi).toNat = a) (hA : 194 ≤ a ∧ a ≤ 223) (hm : i + 1 < s.size) (hb : (s[i + 1]'hm).toNat = b) (hL : lowB s 1 (i + 1) = true) (hx : begN s i = 2) :
    Calls Tryz.prog 117 #[.string s, .int .i64 i] w (BegPost w s i) := by
  unfold BegPost
  rw [hx]
  clear hx
  have HL := Lib.hid hL
  clear hL
  go_enter Tryz.func117, Tryz.ntmps117
  go_wp2_with (fail)
  refine (within_is a 194 223 _ _ true rfl (decide_eq_true (by omega))).mono ?_
  rintro e w' ⟨rfl, rfl⟩
  go_wp2_with (fail)
  refine (low_at s (i + 1) 1 _ _ true (by omega) HL.out (by omega) (by omega) hs).mono ?_
  rintro e w' ⟨rfl, rfl⟩
  go_wp2_with (fail)
  go_ret2
  exact ⟨_, rfl, Kept.refl _ _⟩
set_option maxRecDepth 100000 in
set_option maxHeartbeats 3200000 in
theorem beg_p4 (s : ByteArray) (i : Nat) (w : World) (a b : Nat) (hi : i < s.size) (hs : s.size ≤ 4611686018427387904) (ha : (s[i]'hi).toNat = a) (hA : a = 224) (hm : i + 1 < s.size) (hb : (s[i + 1]'hm).toNat = b) (hB : decide (160 ≤ b ∧ b ≤ 191) = false) (hx : begN s i = 0) :
    Calls Tryz.prog 117 #[.string s, .int .i64 i] w (BegPost w s i) := by
  unfold BegPost
  rw [hx]
  clear hx
  subst hA
  have HB := Lib.hid hB
  clear hB
  go_enter Tryz.func117, Tryz.ntmps117
  go_wp2_with (fail)
  refine (within_is 224 194 223 _ _ false rfl (decide_eq_false (by omega))).mono ?_
  rintro e w' ⟨rfl, rfl⟩
  go_wp2_with (fail)
  refine (within_is b 160 191 _ _ false rfl HB.out).mono ?_
  rintro e w' ⟨rfl, rfl⟩
  go_wp2_with (fail)
  refine (within_is 224 225 236 _ _ false rfl (decide_eq_false (by omega))).mono ?_
  rintro e w' ⟨rfl, rfl⟩
  go_wp2_with (fail)
  refine (within_is 224 238 239 _ _ false rfl (decide_eq_false (by omega))).mono ?_
  rintro e w' ⟨rfl, rfl⟩
  go_wp2_with (fail)
  refine (within_is 224 241 243 _ _ false rfl (decide_eq_false (by omega))).mono ?_
  rintro e w' ⟨rfl, rfl⟩
  go_wp2_with (fail)
  go_ret2
  exact ⟨_, rfl, Kept.refl _ _⟩
set_option maxRecDepth 100000 in
set_option maxHeartbeats 3200000 in
theorem beg_p5 (s : ByteArray) (i : Nat) (w : World) (a b : Nat) (hi : i < s.size) (hs : s.size ≤ 4611686018427387904) (ha : (s[i]'hi).toNat = a) (hA : a = 224) (hm : i + 1 < s.size) (hb : (s[i + 1]'hm).toNat = b) (hB : decide (160 ≤ b ∧ b ≤ 191) = true) (hL : lowB s 2 (i + 1) = true) (hx : begN s i = 3) :
    Calls Tryz.prog 117 #[.string s, .int .i64 i] w (BegPost w s i) := by
  unfold BegPost
  rw [hx]
  clear hx
  have hl := (lowB_at s 2 (i + 1)).1 hL
  have h2 : i + 2 < s.size := goesOn_lt (hl 1 (by omega))
  clear hl
  subst hA
  have HL := Lib.hid hL
  clear hL
  have HB := Lib.hid hB
  clear hB
  go_enter Tryz.func117, Tryz.ntmps117
  go_wp2_with (fail)
  refine (within_is 224 194 223 _ _ false rfl (decide_eq_false (by omega))).mono ?_
  rintro e w' ⟨rfl, rfl⟩
  go_wp2_with (fail)
  refine (within_is b 160 191 _ _ true rfl HB.out).mono ?_
  rintro e w' ⟨rfl, rfl⟩
  go_wp2_with (fail)
  refine (low_at s (i + 1) 2 _ _ true (by omega) HL.out (by omega) (by omega) hs).mono ?_
  rintro e w' ⟨rfl, rfl⟩
  go_wp2_with (fail)
  go_ret2
  exact ⟨_, rfl, Kept.refl _ _⟩
set_option maxRecDepth 100000 in
set_option maxHeartbeats 3200000 in
theorem beg_p6 (s : ByteArray) (i : Nat) (w : World) (a b : Nat) (hi : i < s.size) (hs : s.size ≤ 4611686018427387904) (ha : (s[i]'hi).toNat = a) (hA : a = 224) (hm : i + 1 < s.size) (hb : (s[i + 1]'hm).toNat = b) (hB : decide (160 ≤ b ∧ b ≤ 191) = true) (hL : lowB s 2 (i + 1) = false) (hx : begN s i = 0) :
    Calls Tryz.prog 117 #[.string s, .int .i64 i] w (BegPost w s i) := by
  unfold BegPost
  rw [hx]
  clear hx
  subst hA
  have HL := Lib.hid hL
  clear hL
  have HB := Lib.hid hB
  clear hB
  go_enter Tryz.func117, Tryz.ntmps117
  go_wp2_with (fail)
  refine (within_is 224 194 223 _ _ false rfl (decide_eq_false (by omega))).mono ?_
  rintro e w' ⟨rfl, rfl⟩
  go_wp2_with (fail)
  refine (within_is b 160 191 _ _ true rfl HB.out).mono ?_
  rintro e w' ⟨rfl, rfl⟩
  go_wp2_with (fail)
  refine (low_at s (i + 1) 2 _ _ false (by omega) HL.out (by omega) (by omega) hs).mono ?_
  rintro e w' ⟨rfl, rfl⟩
  go_wp2_with (fail)
  refine (within_is 224 225 236 _ _ false rfl (decide_eq_false (by omega))).mono ?_
  rintro e w' ⟨rfl, rfl⟩
  go_wp2_with (fail)
  refine (within_is 224 238 239 _ _ false rfl (decide_eq_false (by omega))).mono ?_
  rintro e w' ⟨rfl, rfl⟩
  go_wp2_with (fail)
  refine (within_is 224 241 243 _ _ false rfl (decide_eq_false (by omega))).mono ?_
  rintro e w' ⟨rfl, rfl⟩
  go_wp2_with (fail)
  go_ret2
  exact ⟨_, rfl, Kept.refl _ _⟩
set_option maxRecDepth 100000 in
set_option maxHeartbeats 3200000 in
theorem beg_p7 (s : ByteArray) (i : Nat) (w : World) (a b : Nat) (hi : i < s.size) (hs : s.size ≤ 4611686018427387904) (ha : (s[i]'hi).toNat = a) (hA : 225 ≤ a ∧ a ≤ 236) (hm : i + 1 < s.size) (hb : (s[i + 1]'hm).toNat = b) (hL : lowB s 2 (i + 1) = false) (hx : begN s i = 0) :
    Calls Tryz.prog 117 #[.string s, .int .i64 i] w (BegPost w s i) := by
  unfold BegPost
  rw [hx]
  clear hx
  have HL := Lib.hid hL
  clear hL
  go_enter Tryz.func117, Tryz.ntmps117
  go_wp2_with (fail)
  refine (within_is a 194 223 _ _ false rfl (decide_eq_false (by omega))).mono ?_
  rintro e w' ⟨rfl, rfl⟩
  go_wp2_with (fail)
  refine (within_is a 225 236 _ _ true rfl (decide_eq_true (by omega))).mono ?_
  rintro e w' ⟨rfl, rfl⟩
  go_wp2_with (fail)
  refine (low_at s (i + 1) 2 _ _ false (by omega) HL.out (by omega) (by omega) hs).mono ?_
  rintro e w' ⟨rfl, rfl⟩
  go_wp2_with (fail)
  refine (within_is a 238 239 _ _ false rfl (decide_eq_false (by omega))).mono ?_
  rintro e w' ⟨rfl, rfl⟩
  go_wp2_with (fail)
  refine (within_is a 241 243 _ _ false rfl (decide_eq_false (by omega))).mono ?_
  rintro e w' ⟨rfl, rfl⟩
  go_wp2_with (fail)
  go_ret2
  exact ⟨_, rfl, Kept.refl _ _⟩
set_option maxRecDepth 100000 in
set_option maxHeartbeats 3200000 in
theorem beg_p8 (s : ByteArray) (i : Nat) (w : World) (a b : Nat) (hi : i < s.size) (hs : s.size ≤ 4611686018427387904) (ha : (s[i]'hi).toNat = a) (hA : 225 ≤ a ∧ a ≤ 236) (hm : i + 1 < s.size) (hb : (s[i + 1]'hm).toNat = b) (hL : lowB s 2 (i + 1) = true) (hx : begN s i = 3) :
    Calls Tryz.prog 117 #[.string s, .int .i64 i] w (BegPost w s i) := by
  unfold BegPost
  rw [hx]
  clear hx
  have hl := (lowB_at s 2 (i + 1)).1 hL
  have h2 : i + 2 < s.size := goesOn_lt (hl 1 (by omega))
  clear hl
  have HL := Lib.hid hL
  clear hL
  go_enter Tryz.func117, Tryz.ntmps117
  go_wp2_with (fail)
  refine (within_is a 194 223 _ _ false rfl (decide_eq_false (by omega))).mono ?_
  rintro e w' ⟨rfl, rfl⟩
  go_wp2_with (fail)
  refine (within_is a 225 236 _ _ true rfl (decide_eq_true (by omega))).mono ?_
  rintro e w' ⟨rfl, rfl⟩
  go_wp2_with (fail)
  refine (low_at s (i + 1) 2 _ _ true (by omega) HL.out (by omega) (by omega) hs).mono ?_
  rintro e w' ⟨rfl, rfl⟩
  go_wp2_with (fail)
  go_ret2
  exact ⟨_, rfl, Kept.refl _ _⟩
set_option maxRecDepth 100000 in
set_option maxHeartbeats 3200000 in
theorem beg_p9 (s : ByteArray) (i : Nat) (w : World) (a b : Nat) (hi : i < s.size) (hs : s.size ≤ 4611686018427387904) (ha : (s[i]'hi).toNat = a) (hA : a = 237) (hm : i + 1 < s.size) (hb : (s[i + 1]'hm).toNat = b) (hB : decide (128 ≤ b ∧ b ≤ 159) = false) (hx : begN s i = 0) :
    Calls Tryz.prog 117 #[.string s, .int .i64 i] w (BegPost w s i) := by
  unfold BegPost
  rw [hx]
  clear hx
  subst hA
  have HB := Lib.hid hB
  clear hB
  go_enter Tryz.func117, Tryz.ntmps117
  go_wp2_with (fail)
  refine (within_is 237 194 223 _ _ false rfl (decide_eq_false (by omega))).mono ?_
  rintro e w' ⟨rfl, rfl⟩
  go_wp2_with (fail)
  refine (within_is 237 225 236 _ _ false rfl (decide_eq_false (by omega))).mono ?_
  rintro e w' ⟨rfl, rfl⟩
  go_wp2_with (fail)
  refine (within_is b 128 159 _ _ false rfl HB.out).mono ?_
  rintro e w' ⟨rfl, rfl⟩
  go_wp2_with (fail)
  refine (within_is 237 238 239 _ _ false rfl (decide_eq_false (by omega))).mono ?_
  rintro e w' ⟨rfl, rfl⟩
  go_wp2_with (fail)
  refine (within_is 237 241 243 _ _ false rfl (decide_eq_false (by omega))).mono ?_
  rintro e w' ⟨rfl, rfl⟩
  go_wp2_with (fail)
  go_ret2
  exact ⟨_, rfl, Kept.refl _ _⟩
set_option maxRecDepth 100000 in
set_option maxHeartbeats 3200000 in
theorem beg_p10 (s : ByteArray) (i : Nat) (w : World) (a b : Nat) (hi : i < s.size) (hs : s.size ≤ 4611686018427387904) (ha : (s[i]'hi).toNat = a) (hA : a = 237) (hm : i + 1 < s.size) (hb : (s[i + 1]'hm).toNat = b) (hB : decide (128 ≤ b ∧ b ≤ 159) = true) (hL : lowB s 2 (i + 1) = true) (hx : begN s i = 3) :
    Calls Tryz.prog 117 #[.string s, .int .i64 i] w (BegPost w s i) := by
  unfold BegPost
  rw [hx]
  clear hx
  have hl := (lowB_at s 2 (i + 1)).1 hL
  have h2 : i + 2 < s.size := goesOn_lt (hl 1 (by omega))
  clear hl
  subst hA
  have HL := Lib.hid hL
  clear hL
  have HB := Lib.hid hB
  clear hB
  go_enter Tryz.func117, Tryz.ntmps117
  go_wp2_with (fail)
  refine (within_is 237 194 223 _ _ false rfl (decide_eq_false (by omega))).mono ?_
  rintro e w' ⟨rfl, rfl⟩
  go_wp2_with (fail)
  refine (within_is 237 225 236 _ _ false rfl (decide_eq_false (by omega))).mono ?_
  rintro e w' ⟨rfl, rfl⟩
  go_wp2_with (fail)
  refine (within_is b 128 159 _ _ true rfl HB.out).mono ?_
  rintro e w' ⟨rfl, rfl⟩
  go_wp2_with (fail)
  refine (low_at s (i + 1) 2 _ _ true (by omega) HL.out (by omega) (by omega) hs).mono ?_
  rintro e w' ⟨rfl, rfl⟩
  go_wp2_with (fail)
  go_ret2
  exact ⟨_, rfl, Kept.refl _ _⟩
set_option maxRecDepth 100000 in
set_option maxHeartbeats 3200000 in
theorem beg_p11 (s : ByteArray) (i : Nat) (w : World) (a b : Nat) (hi : i < s.size) (hs : s.size ≤ 4611686018427387904) (ha : (s[i]'hi).toNat = a) (hA : a = 237) (hm : i + 1 < s.size) (hb : (s[i + 1]'hm).toNat = b) (hB : decide (128 ≤ b ∧ b ≤ 159) = true) (hL : lowB s 2 (i + 1) = false) (hx : begN s i = 0) :
    Calls Tryz.prog 117 #[.string s, .int .i64 i] w (BegPost w s i) := by
  unfold BegPost
  rw [hx]
  clear hx
  subst hA
  have HL := Lib.hid hL
  clear hL
  have HB := Lib.hid hB
  clear hB
  go_enter Tryz.func117, Tryz.ntmps117
  go_wp2_with (fail)
  refine (within_is 237 194 223 _ _ false rfl (decide_eq_false (by omega))).mono ?_
  rintro e w' ⟨rfl, rfl⟩
  go_wp2_with (fail)
  refine (within_is 237 225 236 _ _ false rfl (decide_eq_false (by omega))).mono ?_
  rintro e w' ⟨rfl, rfl⟩
  go_wp2_with (fail)
  refine (within_is b 128 159 _ _ true rfl HB.out).mono ?_
  rintro e w' ⟨rfl, rfl⟩
  go_wp2_with (fail)
  refine (low_at s (i + 1) 2 _ _ false (by omega) HL.out (by omega) (by omega) hs).mono ?_
  rintro e w' ⟨rfl, rfl⟩
  go_wp2_with (fail)
  refine (within_is 237 238 239 _ _ false rfl (decide_eq_false (by omega))).mono ?_
  rintro e w' ⟨rfl, rfl⟩
  go_wp2_with (fail)
  refine (within_is 237 241 243 _ _ false rfl (decide_eq_false (by omega))).mono ?_
  rintro e w' ⟨rfl, rfl⟩
  go_wp2_with (fail)
  go_ret2
  exact ⟨_, rfl, Kept.refl _ _⟩
set_option maxRecDepth 100000 in
set_option maxHeartbeats 3200000 in
theorem beg_p12 (s : ByteArray) (i : Nat) (w : World) (a b : Nat) (hi : i < s.size) (hs : s.size ≤ 4611686018427387904) (ha : (s[i]'hi).toNat = a) (hA : 238 ≤ a ∧ a ≤ 239) (hm : i + 1 < s.size) (hb : (s[i + 1]'hm).toNat = b) (hL : lowB s 2 (i + 1) = false) (hx : begN s i = 0) :
    Calls Tryz.prog 117 #[.string s, .int .i64 i] w (BegPost w s i) := by
  unfold BegPost
  rw [hx]
  clear hx
  have HL := Lib.hid hL
  clear hL
  go_enter Tryz.func117, Tryz.ntmps117
  go_wp2_with (fail)
  refine (within_is a 194 223 _ _ false rfl (decide_eq_false (by omega))).mono ?_
  rintro e w' ⟨rfl, rfl⟩
  go_wp2_with (fail)
  refine (within_is a 225 236 _ _ false rfl (decide_eq_false (by omega))).mono ?_
  rintro e w' ⟨rfl, rfl⟩
  go_wp2_with (fail)
  refine (within_is a 238 239 _ _ true rfl (decide_eq_true (by omega))).mono ?_
  rintro e w' ⟨rfl, rfl⟩
  go_wp2_with (fail)
  refine (low_at s (i + 1) 2 _ _ false (by omega) HL.out (by omega) (by omega) hs).mono ?_
  rintro e w' ⟨rfl, rfl⟩
  go_wp2_with (fail)
  refine (within_is a 241 243 _ _ false rfl (decide_eq_false (by omega))).mono ?_
  rintro e w' ⟨rfl, rfl⟩
  go_wp2_with (fail)
  go_ret2
  exact ⟨_, rfl, Kept.refl _ _⟩
set_option maxRecDepth 100000 in
set_option maxHeartbeats 3200000 in
theorem beg_p13 (s : ByteArray) (i : Nat) (w : World) (a b : Nat) (hi : i < s.size) (hs : s.size ≤ 4611686018427387904) (ha : (s[i]'hi).toNat = a) (hA : 238 ≤ a ∧ a ≤ 239) (hm : i + 1 < s.size) (hb : (s[i + 1]'hm).toNat = b) (hL : lowB s 2 (i + 1) = true) (hx : begN s i = 3) :
    Calls Tryz.prog 117 #[.string s, .int .i64 i] w (BegPost w s i) := by
  unfold BegPost
  rw [hx]
  clear hx
  have hl := (lowB_at s 2 (i + 1)).1 hL
  have h2 : i + 2 < s.size := goesOn_lt (hl 1 (by omega))
  clear hl
  have HL := Lib.hid hL
  clear hL
  go_enter Tryz.func117, Tryz.ntmps117
  go_wp2_with (fail)
  refine (within_is a 194 223 _ _ false rfl (decide_eq_false (by omega))).mono ?_
  rintro e w' ⟨rfl, rfl⟩
  go_wp2_with (fail)
  refine (within_is a 225 236 _ _ false rfl (decide_eq_false (by omega))).mono ?_
  rintro e w' ⟨rfl, rfl⟩
  go_wp2_with (fail)
  refine (within_is a 238 239 _ _ true rfl (decide_eq_true (by omega))).mono ?_
  rintro e w' ⟨rfl, rfl⟩
  go_wp2_with (fail)
  refine (low_at s (i + 1) 2 _ _ true (by omega) HL.out (by omega) (by omega) hs).mono ?_
  rintro e w' ⟨rfl, rfl⟩
  go_wp2_with (fail)
  go_ret2
  exact ⟨_, rfl, Kept.refl _ _⟩
set_option maxRecDepth 100000 in
set_option maxHeartbeats 3200000 in
theorem beg_p14 (s : ByteArray) (i : Nat) (w : World) (a b : Nat) (hi : i < s.size) (hs : s.size ≤ 4611686018427387904) (ha : (s[i]'hi).toNat = a) (hA : a = 240) (hm : i + 1 < s.size) (hb : (s[i + 1]'hm).toNat = b) (hB : decide (144 ≤ b ∧ b ≤ 191) = false) (hx : begN s i = 0) :
    Calls Tryz.prog 117 #[.string s, .int .i64 i] w (BegPost w s i) := by
  unfold BegPost
  rw [hx]
  clear hx
  subst hA
  have HB := Lib.hid hB
  clear hB
  go_enter Tryz.func117, Tryz.ntmps117
  go_wp2_with (fail)
  refine (within_is 240 194 223 _ _ false rfl (decide_eq_false (by omega))).mono ?_
  rintro e w' ⟨rfl, rfl⟩
  go_wp2_with (fail)
  refine (within_is 240 225 236 _ _ false rfl (decide_eq_false (by omega))).mono ?_
  rintro e w' ⟨rfl, rfl⟩
  go_wp2_with (fail)
  refine (within_is 240 238 239 _ _ false rfl (decide_eq_false (by omega))).mono ?_
  rintro e w' ⟨rfl, rfl⟩
  go_wp2_with (fail)
  refine (within_is b 144 191 _ _ false rfl HB.out).mono ?_
  rintro e w' ⟨rfl, rfl⟩
  go_wp2_with (fail)
  refine (within_is 240 241 243 _ _ false rfl (decide_eq_false (by omega))).mono ?_
  rintro e w' ⟨rfl, rfl⟩
  go_wp2_with (fail)
  go_ret2
  exact ⟨_, rfl, Kept.refl _ _⟩
set_option maxRecDepth 100000 in
set_option maxHeartbeats 3200000 in
theorem beg_p15 (s : ByteArray) (i : Nat) (w : World) (a b : Nat) (hi : i < s.size) (hs : s.size ≤ 4611686018427387904) (ha : (s[i]'hi).toNat = a) (hA : a = 240) (hm : i + 1 < s.size) (hb : (s[i + 1]'hm).toNat = b) (hB : decide (144 ≤ b ∧ b ≤ 191) = true) (hL : lowB s 3 (i + 1) = true) (hx : begN s i = 4) :
    Calls Tryz.prog 117 #[.string s, .int .i64 i] w (BegPost w s i) := by
  unfold BegPost
  rw [hx]
  clear hx
  have hl := (lowB_at s 3 (i + 1)).1 hL
  have h2 : i + 2 < s.size := goesOn_lt (hl 1 (by omega))
  have h3 : i + 3 < s.size := goesOn_lt (hl 2 (by omega))
  clear hl
  subst hA
  have HL := Lib.hid hL
  clear hL
  have HB := Lib.hid hB
  clear hB
  go_enter Tryz.func117, Tryz.ntmps117
  go_wp2_with (fail)
  refine (within_is 240 194 223 _ _ false rfl (decide_eq_false (by omega))).mono ?_
  rintro e w' ⟨rfl, rfl⟩
  go_wp2_with (fail)
  refine (within_is 240 225 236 _ _ false rfl (decide_eq_false (by omega))).mono ?_
  rintro e w' ⟨rfl, rfl⟩
  go_wp2_with (fail)
  refine (within_is 240 238 239 _ _ false rfl (decide_eq_false (by omega))).mono ?_
  rintro e w' ⟨rfl, rfl⟩
  go_wp2_with (fail)
  refine (within_is b 144 191 _ _ true rfl HB.out).mono ?_
  rintro e w' ⟨rfl, rfl⟩
  go_wp2_with (fail)
  refine (low_at s (i + 1) 3 _ _ true (by omega) HL.out (by omega) (by omega) hs).mono ?_
  rintro e w' ⟨rfl, rfl⟩
  go_wp2_with (fail)
  have n2 : (0 : Int) ≤ (i : Int) + 2 := by omega
  have m2 : (i : Int) + 2 < (s.size : Int) := by omega
  have t2 : ((i : Int) + 2).toNat = i + 2 := by omega
  have n3 : (0 : Int) ≤ (i : Int) + 3 := by omega
  have m3 : (i : Int) + 3 < (s.size : Int) := by omega
  have t3 : ((i : Int) + 3).toNat = i + 3 := by omega
  go_quiet (fail)
  go_wp2
  go_ret2
  exact ⟨_, rfl, (Kept.refl _ _).trans (Kept.drewN_eq nq) fun _ _ e => e⟩
set_option maxRecDepth 100000 in
set_option maxHeartbeats 3200000 in
theorem beg_p16 (s : ByteArray) (i : Nat) (w : World) (a b : Nat) (hi : i < s.size) (hs : s.size ≤ 4611686018427387904) (ha : (s[i]'hi).toNat = a) (hA : a = 240) (hm : i + 1 < s.size) (hb : (s[i + 1]'hm).toNat = b) (hB : decide (144 ≤ b ∧ b ≤ 191) = true) (hL : lowB s 3 (i + 1) = false) (hx : begN s i = 0) :
    Calls Tryz.prog 117 #[.string s, .int .i64 i] w (BegPost w s i) := by
  unfold BegPost
  rw [hx]
  clear hx
  subst hA
  have HL := Lib.hid hL
  clear hL
  have HB := Lib.hid hB
  clear hB
  go_enter Tryz.func117, Tryz.ntmps117
  go_wp2_with (fail)
  refine (within_is 240 194 223 _ _ false rfl (decide_eq_false (by omega))).mono ?_
  rintro e w' ⟨rfl, rfl⟩
  go_wp2_with (fail)
  refine (within_is 240 225 236 _ _ false rfl (decide_eq_false (by omega))).mono ?_
  rintro e w' ⟨rfl, rfl⟩
  go_wp2_with (fail)
  refine (within_is 240 238 239 _ _ false rfl (decide_eq_false (by omega))).mono ?_
  rintro e w' ⟨rfl, rfl⟩
  go_wp2_with (fail)
  refine (within_is b 144 191 _ _ true rfl HB.out).mono ?_
  rintro e w' ⟨rfl, rfl⟩
  go_wp2_with (fail)
  refine (low_at s (i + 1) 3 _ _ false (by omega) HL.out (by omega) (by omega) hs).mono ?_
  rintro e w' ⟨rfl, rfl⟩
  go_wp2_with (fail)
  refine (within_is 240 241 243 _ _ false rfl (decide_eq_false (by omega))).mono ?_
  rintro e w' ⟨rfl, rfl⟩
  go_wp2_with (fail)
  go_ret2
  exact ⟨_, rfl, Kept.refl _ _⟩
set_option maxRecDepth 100000 in
set_option maxHeartbeats 3200000 in
theorem beg_p17 (s : ByteArray) (i : Nat) (w : World) (a b : Nat) (hi : i < s.size) (hs : s.size ≤ 4611686018427387904) (ha : (s[i]'hi).toNat = a) (hA : 241 ≤ a ∧ a ≤ 243) (hm : i + 1 < s.size) (hb : (s[i + 1]'hm).toNat = b) (hL : lowB s 3 (i + 1) = false) (hx : begN s i = 0) :
    Calls Tryz.prog 117 #[.string s, .int .i64 i] w (BegPost w s i) := by
  unfold BegPost
  rw [hx]
  clear hx
  have HL := Lib.hid hL
  clear hL
  go_enter Tryz.func117, Tryz.ntmps117
  go_wp2_with (fail)
  refine (within_is a 194 223 _ _ false rfl (decide_eq_false (by omega))).mono ?_
  rintro e w' ⟨rfl, rfl⟩
  go_wp2_with (fail)
  refine (within_is a 225 236 _ _ false rfl (decide_eq_false (by omega))).mono ?_
  rintro e w' ⟨rfl, rfl⟩
  go_wp2_with (fail)
  refine (within_is a 238 239 _ _ false rfl (decide_eq_false (by omega))).mono ?_
  rintro e w' ⟨rfl, rfl⟩
  go_wp2_with (fail)
  refine (within_is a 241 243 _ _ true rfl (decide_eq_true (by omega))).mono ?_
  rintro e w' ⟨rfl, rfl⟩
  go_wp2_with (fail)
  refine (low_at s (i + 1) 3 _ _ false (by omega) HL.out (by omega) (by omega) hs).mono ?_
  rintro e w' ⟨rfl, rfl⟩
  go_wp2_with (fail)
  go_ret2
  exact ⟨_, rfl, Kept.refl _ _⟩
set_option maxRecDepth 100000 in
set_option maxHeartbeats 3200000 in
theorem beg_p18 (s : ByteArray) (i : Nat) (w : World) (a b : Nat) (hi : i < s.size) (hs : s.size ≤ 4611686018427387904) (ha : (s[i]'hi).toNat = a) (hA : 241 ≤ a ∧ a ≤ 243) (hm : i + 1 < s.size) (hb : (s[i + 1]'hm).toNat = b) (hL : lowB s 3 (i + 1) = true) (hx : begN s i = 4) :
    Calls Tryz.prog 117 #[.string s, .int .i64 i] w (BegPost w s i) := by
  unfold BegPost
  rw [hx]
  clear hx
  have hl := (lowB_at s 3 (i + 1)).1 hL
  have h2 : i + 2 < s.size := goesOn_lt (hl 1 (by omega))
  have h3 : i + 3 < s.size := goesOn_lt (hl 2 (by omega))
  clear hl
  have HL := Lib.hid hL
  clear hL
  go_enter Tryz.func117, Tryz.ntmps117
  go_wp2_with (fail)
  refine (within_is a 194 223 _ _ false rfl (decide_eq_false (by omega))).mono ?_
  rintro e w' ⟨rfl, rfl⟩
  go_wp2_with (fail)
  refine (within_is a 225 236 _ _ false rfl (decide_eq_false (by omega))).mono ?_
  rintro e w' ⟨rfl, rfl⟩
  go_wp2_with (fail)
  refine (within_is a 238 239 _ _ false rfl (decide_eq_false (by omega))).mono ?_
  rintro e w' ⟨rfl, rfl⟩
  go_wp2_with (fail)
  refine (within_is a 241 243 _ _ true rfl (decide_eq_true (by omega))).mono ?_
  rintro e w' ⟨rfl, rfl⟩
  go_wp2_with (fail)
  refine (low_at s (i + 1) 3 _ _ true (by omega) HL.out (by omega) (by omega) hs).mono ?_
  rintro e w' ⟨rfl, rfl⟩
  go_wp2_with (fail)
  have n2 : (0 : Int) ≤ (i : Int) + 2 := by omega
  have m2 : (i : Int) + 2 < (s.size : Int) := by omega
  have t2 : ((i : Int) + 2).toNat = i + 2 := by omega
  have n3 : (0 : Int) ≤ (i : Int) + 3 := by omega
  have m3 : (i : Int) + 3 < (s.size : Int) := by omega
  have t3 : ((i : Int) + 3).toNat = i + 3 := by omega
  go_quiet (fail)
  go_wp2
  go_ret2
  exact ⟨_, rfl, (Kept.refl _ _).trans (Kept.drewN_eq nq) fun _ _ e => e⟩
set_option maxRecDepth 100000 in
set_option maxHeartbeats 3200000 in
theorem beg_p19 (s : ByteArray) (i : Nat) (w : World) (a b : Nat) (hi : i < s.size) (hs : s.size ≤ 4611686018427387904) (ha : (s[i]'hi).toNat = a) (hA : a = 244) (hm : i + 1 < s.size) (hb : (s[i + 1]'hm).toNat = b) (hB : decide (128 ≤ b ∧ b ≤ 143) = false) (hx : begN s i = 0) :
    Calls Tryz.prog 117 #[.string s, .int .i64 i] w (BegPost w s i) := by
  unfold BegPost
  rw [hx]
  clear hx
  subst hA
  have HB := Lib.hid hB
  clear hB
  go_enter Tryz.func117, Tryz.ntmps117
  go_wp2_with (fail)
  refine (within_is 244 194 223 _ _ false rfl (decide_eq_false (by omega))).mono ?_
  rintro e w' ⟨rfl, rfl⟩
  go_wp2_with (fail)
  refine (within_is 244 225 236 _ _ false rfl (decide_eq_false (by omega))).mono ?_
  rintro e w' ⟨rfl, rfl⟩
  go_wp2_with (fail)
  refine (within_is 244 238 239 _ _ false rfl (decide_eq_false (by omega))).mono ?_
  rintro e w' ⟨rfl, rfl⟩
  go_wp2_with (fail)
  refine (within_is 244 241 243 _ _ false rfl (decide_eq_false (by omega))).mono ?_
  rintro e w' ⟨rfl, rfl⟩
  go_wp2_with (fail)
  refine (within_is b 128 143 _ _ false rfl HB.out).mono ?_
  rintro e w' ⟨rfl, rfl⟩
  go_wp2_with (fail)
  go_ret2
  exact ⟨_, rfl, Kept.refl _ _⟩
set_option maxRecDepth 100000 in
set_option maxHeartbeats 3200000 in
theorem beg_p20 (s : ByteArray) (i : Nat) (w : World) (a b : Nat) (hi : i < s.size) (hs : s.size ≤ 4611686018427387904) (ha : (s[i]'hi).toNat = a) (hA : a = 244) (hm : i + 1 < s.size) (hb : (s[i + 1]'hm).toNat = b) (hB : decide (128 ≤ b ∧ b ≤ 143) = true) (hL : lowB s 3 (i + 1) = true) (hx : begN s i = 4) :
    Calls Tryz.prog 117 #[.string s, .int .i64 i] w (BegPost w s i) := by
  unfold BegPost
  rw [hx]
  clear hx
  have hl := (lowB_at s 3 (i + 1)).1 hL
  have h2 : i + 2 < s.size := goesOn_lt (hl 1 (by omega))
  have h3 : i + 3 < s.size := goesOn_lt (hl 2 (by omega))
  clear hl
  subst hA
  have HL := Lib.hid hL
  clear hL
  have HB := Lib.hid hB
  clear hB
  go_enter Tryz.func117, Tryz.ntmps117
  go_wp2_with (fail)
  refine (within_is 244 194 223 _ _ false rfl (decide_eq_false (by omega))).mono ?_
  rintro e w' ⟨rfl, rfl⟩
  go_wp2_with (fail)
  refine (within_is 244 225 236 _ _ false rfl (decide_eq_false (by omega))).mono ?_
  rintro e w' ⟨rfl, rfl⟩
  go_wp2_with (fail)
  refine (within_is 244 238 239 _ _ false rfl (decide_eq_false (by omega))).mono ?_
  rintro e w' ⟨rfl, rfl⟩
  go_wp2_with (fail)
  refine (within_is 244 241 243 _ _ false rfl (decide_eq_false (by omega))).mono ?_
  rintro e w' ⟨rfl, rfl⟩
  go_wp2_with (fail)
  refine (within_is b 128 143 _ _ true rfl HB.out).mono ?_
  rintro e w' ⟨rfl, rfl⟩
  go_wp2_with (fail)
  refine (low_at s (i + 1) 3 _ _ true (by omega) HL.out (by omega) (by omega) hs).mono ?_
  rintro e w' ⟨rfl, rfl⟩
  go_wp2_with (fail)
  have n2 : (0 : Int) ≤ (i : Int) + 2 := by omega
  have m2 : (i : Int) + 2 < (s.size : Int) := by omega
  have t2 : ((i : Int) + 2).toNat = i + 2 := by omega
  have n3 : (0 : Int) ≤ (i : Int) + 3 := by omega
  have m3 : (i : Int) + 3 < (s.size : Int) := by omega
  have t3 : ((i : Int) + 3).toNat = i + 3 := by omega
  go_quiet (fail)
  go_wp2
  go_ret2
  exact ⟨_, rfl, (Kept.refl _ _).trans (Kept.drewN_eq nq) fun _ _ e => e⟩
set_option maxRecDepth 100000 in
set_option maxHeartbeats 3200000 in
theorem beg_p21 (s : ByteArray) (i : Nat) (w : World) (a b : Nat) (hi : i < s.size) (hs : s.size ≤ 4611686018427387904) (ha : (s[i]'hi).toNat = a) (hA : a = 244) (hm : i + 1 < s.size) (hb : (s[i + 1]'hm).toNat = b) (hB : decide (128 ≤ b ∧ b ≤ 143) = true) (hL : lowB s 3 (i + 1) = false) (hx : begN s i = 0) :
    Calls Tryz.prog 117 #[.string s, .int .i64 i] w (BegPost w s i) := by
  unfold BegPost
  rw [hx]
  clear hx
  subst hA
  have HL := Lib.hid hL
  clear hL
  have HB := Lib.hid hB
  clear hB
  go_enter Tryz.func117, Tryz.ntmps117
  go_wp2_with (fail)
  refine (within_is 244 194 223 _ _ false rfl (decide_eq_false (by omega))).mono ?_
  rintro e w' ⟨rfl, rfl⟩
  go_wp2_with (fail)
  refine (within_is 244 225 236 _ _ false rfl (decide_eq_false (by omega))).mono ?_
  rintro e w' ⟨rfl, rfl⟩
  go_wp2_with (fail)
  refine (within_is 244 238 239 _ _ false rfl (decide_eq_false (by omega))).mono ?_
  rintro e w' ⟨rfl, rfl⟩
  go_wp2_with (fail)
  refine (within_is 244 241 243 _ _ false rfl (decide_eq_false (by omega))).mono ?_
  rintro e w' ⟨rfl, rfl⟩
  go_wp2_with (fail)
  refine (within_is b 128 143 _ _ true rfl HB.out).mono ?_
  rintro e w' ⟨rfl, rfl⟩
  go_wp2_with (fail)
  refine (low_at s (i + 1) 3 _ _ false (by omega) HL.out (by omega) (by omega) hs).mono ?_
  rintro e w' ⟨rfl, rfl⟩
  go_wp2_with (fail)
  go_ret2
  exact ⟨_, rfl, Kept.refl _ _⟩
set_option maxRecDepth 100000 in
set_option maxHeartbeats 3200000 in
theorem beg_p22 (s : ByteArray) (i : Nat) (w : World) (a : Nat) (hi : i < s.size) (hs : s.size ≤ 4611686018427387904) (ha : (s[i]'hi).toNat = a) (hA : a ≤ 127) (hm : s.size ≤ i + 1) (hx : begN s i = 1) :
    Calls Tryz.prog 117 #[.string s, .int .i64 i] w (BegPost w s i) := by
  unfold BegPost
  rw [hx]
  clear hx
  go_enter Tryz.func117, Tryz.ntmps117
  go_wp2_with (fail)
  go_ret2
  exact ⟨_, rfl, Kept.refl _ _⟩
set_option maxRecDepth 100000 in
set_option maxHeartbeats 3200000 in
theorem beg_p23 (s : ByteArray) (i : Nat) (w : World) (a : Nat) (hi : i < s.size) (hs : s.size ≤ 4611686018427387904) (ha : (s[i]'hi).toNat = a) (hA : a < 256 ∧ (127 < a ∧ a < 194 ∨ 244 < a)) (hm : s.size ≤ i + 1) (hx : begN s i = 0) :
    Calls Tryz.prog 117 #[.string s, .int .i64 i] w (BegPost w s i) := by
  unfold BegPost
  rw [hx]
  clear hx
  go_enter Tryz.func117, Tryz.ntmps117
  go_wp2_with (fail)
  refine (within_is a 194 223 _ _ false rfl (decide_eq_false (by omega))).mono ?_
  rintro e w' ⟨rfl, rfl⟩
  go_wp2_with (fail)
  refine (within_is a 225 236 _ _ false rfl (decide_eq_false (by omega))).mono ?_
  rintro e w' ⟨rfl, rfl⟩
  go_wp2_with (fail)
  refine (within_is a 238 239 _ _ false rfl (decide_eq_false (by omega))).mono ?_
  rintro e w' ⟨rfl, rfl⟩
  go_wp2_with (fail)
  refine (within_is a 241 243 _ _ false rfl (decide_eq_false (by omega))).mono ?_
  rintro e w' ⟨rfl, rfl⟩
  go_wp2_with (fail)
  go_ret2
  exact ⟨_, rfl, Kept.refl _ _⟩
set_option maxRecDepth 100000 in
set_option maxHeartbeats 3200000 in
theorem beg_p24 (s : ByteArray) (i : Nat) (w : World) (a : Nat) (hi : i < s.size) (hs : s.size ≤ 4611686018427387904) (ha : (s[i]'hi).toNat = a) (hA : 194 ≤ a ∧ a ≤ 223) (hm : s.size ≤ i + 1) (hL : lowB s 1 (i + 1) = false) (hx : begN s i = 0) :
    Calls Tryz.prog 117 #[.string s, .int .i64 i] w (BegPost w s i) := by
  unfold BegPost
  rw [hx]
  clear hx
  have HL := Lib.hid hL
  clear hL
  go_enter Tryz.func117, Tryz.ntmps117
  go_wp2_with (fail)
  refine (within_is a 194 223 _ _ true rfl (decide_eq_true (by omega))).mono ?_
  rintro e w' ⟨rfl, rfl⟩
  go_wp2_with (fail)
  refine (low_at s (i + 1) 1 _ _ false (by omega) HL.out (by omega) (by omega) hs).mono ?_
  rintro e w' ⟨rfl, rfl⟩
  go_wp2_with (fail)
  refine (within_is a 225 236 _ _ false rfl (decide_eq_false (by omega))).mono ?_
  rintro e w' ⟨rfl, rfl⟩
  go_wp2_with (fail)
  refine (within_is a 238 239 _ _ false rfl (decide_eq_false (by omega))).mono ?_
  rintro e w' ⟨rfl, rfl⟩
  go_wp2_with (fail)
  refine (within_is a 241 243 _ _ false rfl (decide_eq_false (by omega))).mono ?_
  rintro e w' ⟨rfl, rfl⟩
  go_wp2_with (fail)
  go_ret2
  exact ⟨_, rfl, Kept.refl _ _⟩
set_option maxRecDepth 100000 in
set_option maxHeartbeats 3200000 in
theorem beg_p25 (s : ByteArray) (i : Nat) (w : World) (a : Nat) (hi : i < s.size) (hs : s.size ≤ 4611686018427387904) (ha : (s[i]'hi).toNat = a) (hA : a = 224) (hm : s.size ≤ i + 1) (hB : decide (160 ≤ 0 ∧ 0 ≤ 191) = false) (hx : begN s i = 0) :
    Calls Tryz.prog 117 #[.string s, .int .i64 i] w (BegPost w s i) := by
  unfold BegPost
  rw [hx]
  clear hx
  subst hA
  have HB := Lib.hid hB
  clear hB
  go_enter Tryz.func117, Tryz.ntmps117
  go_wp2_with (fail)
  refine (within_is 224 194 223 _ _ false rfl (decide_eq_false (by omega))).mono ?_
  rintro e w' ⟨rfl, rfl⟩
  go_wp2_with (fail)
  refine (within_is 0 160 191 _ _ false rfl HB.out).mono ?_
  rintro e w' ⟨rfl, rfl⟩
  go_wp2_with (fail)
  refine (within_is 224 225 236 _ _ false rfl (decide_eq_false (by omega))).mono ?_
  rintro e w' ⟨rfl, rfl⟩
  go_wp2_with (fail)
  refine (within_is 224 238 239 _ _ false rfl (decide_eq_false (by omega))).mono ?_
  rintro e w' ⟨rfl, rfl⟩
  go_wp2_with (fail)
  refine (within_is 224 241 243 _ _ false rfl (decide_eq_false (by omega))).mono ?_
  rintro e w' ⟨rfl, rfl⟩
  go_wp2_with (fail)
  go_ret2
  exact ⟨_, rfl, Kept.refl _ _⟩
set_option maxRecDepth 100000 in
set_option maxHeartbeats 3200000 in
theorem beg_p26 (s : ByteArray) (i : Nat) (w : World) (a : Nat) (hi : i < s.size) (hs : s.size ≤ 4611686018427387904) (ha : (s[i]'hi).toNat = a) (hA : 225 ≤ a ∧ a ≤ 236) (hm : s.size ≤ i + 1) (hL : lowB s 2 (i + 1) = false) (hx : begN s i = 0) :
    Calls Tryz.prog 117 #[.string s, .int .i64 i] w (BegPost w s i) := by
  unfold BegPost
  rw [hx]
  clear hx
  have HL := Lib.hid hL
  clear hL
  go_enter Tryz.func117, Tryz.ntmps117
  go_wp2_with (fail)
  refine (within_is a 194 223 _ _ false rfl (decide_eq_false (by omega))).mono ?_
  rintro e w' ⟨rfl, rfl⟩
  go_wp2_with (fail)
  refine (within_is a 225 236 _ _ true rfl (decide_eq_true (by omega))).mono ?_
  rintro e w' ⟨rfl, rfl⟩
  go_wp2_with (fail)
  refine (low_at s (i + 1) 2 _ _ false (by omega) HL.out (by omega) (by omega) hs).mono ?_
  rintro e w' ⟨rfl, rfl⟩
  go_wp2_with (fail)
  refine (within_is a 238 239 _ _ false rfl (decide_eq_false (by omega))).mono ?_
  rintro e w' ⟨rfl, rfl⟩
  go_wp2_with (fail)
  refine (within_is a 241 243 _ _ false rfl (decide_eq_false (by omega))).mono ?_
  rintro e w' ⟨rfl, rfl⟩
  go_wp2_with (fail)
  go_ret2
  exact ⟨_, rfl, Kept.refl _ _⟩
set_option maxRecDepth 100000 in
set_option maxHeartbeats 3200000 in
theorem beg_p27 (s : ByteArray) (i : Nat) (w : World) (a : Nat) (hi : i < s.size) (hs : s.size ≤ 4611686018427387904) (ha : (s[i]'hi).toNat = a) (hA : a = 237) (hm : s.size ≤ i + 1) (hB : decide (128 ≤ 0 ∧ 0 ≤ 159) = false) (hx : begN s i = 0) :
    Calls Tryz.prog 117 #[.string s, .int .i64 i] w (BegPost w s i) := by
  unfold BegPost
  rw [hx]
  clear hx
  subst hA
  have HB := Lib.hid hB
  clear hB
  go_enter Tryz.func117, Tryz.ntmps117
  go_wp2_with (fail)
  refine (within_is 237 194 223 _ _ false rfl (decide_eq_false (by omega))).mono ?_
  rintro e w' ⟨rfl, rfl⟩
  go_wp2_with (fail)
  refine (within_is 237 225 236 _ _ false rfl (decide_eq_false (by omega))).mono ?_
  rintro e w' ⟨rfl, rfl⟩
  go_wp2_with (fail)
  refine (within_is 0 128 159 _ _ false rfl HB.out).mono ?_
  rintro e w' ⟨rfl, rfl⟩
  go_wp2_with (fail)
  refine (within_is 237 238 239 _ _ false rfl (decide_eq_false (by omega))).mono ?_
  rintro e w' ⟨rfl, rfl⟩
  go_wp2_with (fail)
  refine (within_is 237 241 243 _ _ false rfl (decide_eq_false (by omega))).mono ?_
  rintro e w' ⟨rfl, rfl⟩
  go_wp2_with (fail)
  go_ret2
  exact ⟨_, rfl, Kept.refl _ _⟩
set_option maxRecDepth 100000 in
set_option maxHeartbeats 3200000 in
theorem beg_p28 (s : ByteArray) (i : Nat) (w : World) (a : Nat) (hi : i < s.size) (hs : s.size ≤ 4611686018427387904) (ha : (s[i]'hi).toNat = a) (hA : 238 ≤ a ∧ a ≤ 239) (hm : s.size ≤ i + 1) (hL : lowB s 2 (i + 1) = false) (hx : begN s i = 0) :
    Calls Tryz.prog 117 #[.string s, .int .i64 i] w (BegPost w s i) := by
  unfold BegPost
  rw [hx]
  clear hx
  have HL := Lib.hid hL
  clear hL
  go_enter Tryz.func117, Tryz.ntmps117
  go_wp2_with (fail)
  refine (within_is a 194 223 _ _ false rfl (decide_eq_false (by omega))).mono ?_
  rintro e w' ⟨rfl, rfl⟩
  go_wp2_with (fail)
  refine (within_is a 225 236 _ _ false rfl (decide_eq_false (by omega))).mono ?_
  rintro e w' ⟨rfl, rfl⟩
  go_wp2_with (fail)
  refine (within_is a 238 239 _ _ true rfl (decide_eq_true (by omega))).mono ?_
  rintro e w' ⟨rfl, rfl⟩
  go_wp2_with (fail)
  refine (low_at s (i + 1) 2 _ _ false (by omega) HL.out (by omega) (by omega) hs).mono ?_
  rintro e w' ⟨rfl, rfl⟩
  go_wp2_with (fail)
  refine (within_is a 241 243 _ _ false rfl (decide_eq_false (by omega))).mono ?_
  rintro e w' ⟨rfl, rfl⟩
  go_wp2_with (fail)
  go_ret2
  exact ⟨_, rfl, Kept.refl _ _⟩
set_option maxRecDepth 100000 in
set_option maxHeartbeats 3200000 in
theorem beg_p29 (s : ByteArray) (i : Nat) (w : World) (a : Nat) (hi : i < s.size) (hs : s.size ≤ 4611686018427387904) (ha : (s[i]'hi).toNat = a) (hA : a = 240) (hm : s.size ≤ i + 1) (hB : decide (144 ≤ 0 ∧ 0 ≤ 191) = false) (hx : begN s i = 0) :
    Calls Tryz.prog 117 #[.string s, .int .i64 i] w (BegPost w s i) := by
  unfold BegPost
  rw [hx]
  clear hx
  subst hA
  have HB := Lib.hid hB
  clear hB
  go_enter Tryz.func117, Tryz.ntmps117
  go_wp2_with (fail)
  refine (within_is 240 194 223 _ _ false rfl (decide_eq_false (by omega))).mono ?_
  rintro e w' ⟨rfl, rfl⟩
  go_wp2_with (fail)
  refine (within_is 240 225 236 _ _ false rfl (decide_eq_false (by omega))).mono ?_
  rintro e w' ⟨rfl, rfl⟩
  go_wp2_with (fail)
  refine (within_is 240 238 239 _ _ false rfl (decide_eq_false (by omega))).mono ?_
  rintro e w' ⟨rfl, rfl⟩
  go_wp2_with (fail)
  refine (within_is 0 144 191 _ _ false rfl HB.out).mono ?_
  rintro e w' ⟨rfl, rfl⟩
  go_wp2_with (fail)
  refine (within_is 240 241 243 _ _ false rfl (decide_eq_false (by omega))).mono ?_
  rintro e w' ⟨rfl, rfl⟩
  go_wp2_with (fail)
  go_ret2
  exact ⟨_, rfl, Kept.refl _ _⟩
set_option maxRecDepth 100000 in
set_option maxHeartbeats 3200000 in
theorem beg_p30 (s : ByteArray) (i : Nat) (w : World) (a : Nat) (hi : i < s.size) (hs : s.size ≤ 4611686018427387904) (ha : (s[i]'hi).toNat = a) (hA : 241 ≤ a ∧ a ≤ 243) (hm : s.size ≤ i + 1) (hL : lowB s 3 (i + 1) = false) (hx : begN s i = 0) :
    Calls Tryz.prog 117 #[.string s, .int .i64 i] w (BegPost w s i) := by
  unfold BegPost
  rw [hx]
  clear hx
  have HL := Lib.hid hL
  clear hL
  go_enter Tryz.func117, Tryz.ntmps117
  go_wp2_with (fail)
  refine (within_is a 194 223 _ _ false rfl (decide_eq_false (by omega))).mono ?_
  rintro e w' ⟨rfl, rfl⟩
  go_wp2_with (fail)
  refine (within_is a 225 236 _ _ false rfl (decide_eq_false (by omega))).mono ?_
  rintro e w' ⟨rfl, rfl⟩
  go_wp2_with (fail)
  refine (within_is a 238 239 _ _ false rfl (decide_eq_false (by omega))).mono ?_
  rintro e w' ⟨rfl, rfl⟩
  go_wp2_with (fail)
  refine (within_is a 241 243 _ _ true rfl (decide_eq_true (by omega))).mono ?_
  rintro e w' ⟨rfl, rfl⟩
  go_wp2_with (fail)
  refine (low_at s (i + 1) 3 _ _ false (by omega) HL.out (by omega) (by omega) hs).mono ?_
  rintro e w' ⟨rfl, rfl⟩
  go_wp2_with (fail)
  go_ret2
  exact ⟨_, rfl, Kept.refl _ _⟩
set_option maxRecDepth 100000 in
set_option maxHeartbeats 3200000 in
theorem beg_p31 (s : ByteArray) (i : Nat) (w : World) (a : Nat) (hi : i < s.size) (hs : s.size ≤ 4611686018427387904) (ha : (s[i]'hi).toNat = a) (hA : a = 244) (hm : s.size ≤ i + 1) (hB : decide (128 ≤ 0 ∧ 0 ≤ 143) = false) (hx : begN s i = 0) :
    Calls Tryz.prog 117 #[.string s, .int .i64 i] w (BegPost w s i) := by
  unfold BegPost
  rw [hx]
  clear hx
  subst hA
  have HB := Lib.hid hB
  clear hB
  go_enter Tryz.func117, Tryz.ntmps117
  go_wp2_with (fail)
  refine (within_is 244 194 223 _ _ false rfl (decide_eq_false (by omega))).mono ?_
  rintro e w' ⟨rfl, rfl⟩
  go_wp2_with (fail)
  refine (within_is 244 225 236 _ _ false rfl (decide_eq_false (by omega))).mono ?_
  rintro e w' ⟨rfl, rfl⟩
  go_wp2_with (fail)
  refine (within_is 244 238 239 _ _ false rfl (decide_eq_false (by omega))).mono ?_
  rintro e w' ⟨rfl, rfl⟩
  go_wp2_with (fail)
  refine (within_is 244 241 243 _ _ false rfl (decide_eq_false (by omega))).mono ?_
  rintro e w' ⟨rfl, rfl⟩
  go_wp2_with (fail)
  refine (within_is 0 128 143 _ _ false rfl HB.out).mono ?_
  rintro e w' ⟨rfl, rfl⟩
  go_wp2_with (fail)
  go_ret2
  exact ⟨_, rfl, Kept.refl _ _⟩
theorem b4_1 {a b c d : Nat} (h : a ≤ 127) : beg4 a b c d = 1 := by unfold beg4; rw [if_pos h]
theorem b4_0 {a b c d : Nat} (h : 127 < a ∧ a < 194 ∨ 244 < a) : beg4 a b c d = 0 := by
  unfold beg4
  simp only [goesOn_iff]
  rw [if_neg (by omega), if_neg (by omega), if_neg (by omega), if_neg (by omega)]
theorem b4_2y {a b c d : Nat} (h : 194 ≤ a ∧ a ≤ 223) (hl : goesOn b = true) : beg4 a b c d = 2 := by
  unfold beg4
  rw [if_neg (by omega), if_pos ⟨h, hl⟩]
theorem b4_2n {a b c d : Nat} (h : 194 ≤ a ∧ a ≤ 223) (hl : goesOn b = false) : beg4 a b c d = 0 := by
  have hl' : ¬ goesOn b = true := by rw [hl]; decide
  unfold beg4
  rw [if_neg (by omega), if_neg fun e => hl' e.2, if_neg fun e => hl' e.2.1, if_neg fun e => hl' e.2.1]
theorem b4_3y {a b c d : Nat} (h : a = 224 ∧ 160 ≤ b ∨ 225 ≤ a ∧ a ≤ 236 ∨ a = 237 ∧ b ≤ 159 ∨ 238 ≤ a ∧ a ≤ 239) (hl : (goesOn b && goesOn c) = true) : beg4 a b c d = 3 := by
  rw [Bool.and_eq_true] at hl
  unfold beg4
  rw [if_neg (by omega), if_neg (by omega), if_pos ⟨h, hl⟩]
theorem b4_3n {a b c d : Nat} (h : 224 ≤ a ∧ a ≤ 239) (hl : (goesOn b && goesOn c) = false) : beg4 a b c d = 0 := by
  have hl' : ¬ (goesOn b = true ∧ goesOn c = true) := by rw [← Bool.and_eq_true, hl]; decide
  unfold beg4
  rw [if_neg (by omega), if_neg (by omega), if_neg fun e => hl' e.2, if_neg (by omega)]
theorem b4_3b {a b c d : Nat} (h : a = 224 ∧ ¬ (160 ≤ b ∧ b ≤ 191) ∨ a = 237 ∧ ¬ (128 ≤ b ∧ b ≤ 159)) : beg4 a b c d = 0 := by
  unfold beg4
  simp only [goesOn_iff]
  rw [if_neg (by omega), if_neg (by omega), if_neg (by omega), if_neg (by omega)]
theorem b4_4y {a b c d : Nat} (h : a = 240 ∧ 144 ≤ b ∨ 241 ≤ a ∧ a ≤ 243 ∨ a = 244 ∧ b ≤ 143) (hl : (goesOn b && (goesOn c && goesOn d)) = true) : beg4 a b c d = 4 := by
  rw [Bool.and_eq_true, Bool.and_eq_true] at hl
  unfold beg4
  rw [if_neg (by omega), if_neg (by omega), if_neg (by omega), if_pos ⟨h, hl⟩]
theorem b4_4n {a b c d : Nat} (h : 240 ≤ a ∧ a ≤ 244) (hl : (goesOn b && (goesOn c && goesOn d)) = false) : beg4 a b c d = 0 := by
  have hl' : ¬ (goesOn b = true ∧ goesOn c = true ∧ goesOn d = true) := by rw [← Bool.and_eq_true, ← Bool.and_eq_true, hl]; decide
  unfold beg4
  rw [if_neg (by omega), if_neg (by omega), if_neg (by omega), if_neg fun e => hl' e.2]
theorem b4_4b {a b c d : Nat} (h : a = 240 ∧ ¬ (144 ≤ b ∧ b ≤ 191) ∨ a = 244 ∧ ¬ (128 ≤ b ∧ b ≤ 143)) : beg4 a b c d = 0 := by
  unfold beg4
  simp only [goesOn_iff]
  rw [if_neg (by omega), if_neg (by omega), if_neg (by omega), if_neg (by omega)]
theorem begins_any (s : ByteArray) (i : Nat) (w : World) (hi : i < s.size) (hs : s.size ≤ 4611686018427387904) : Calls Tryz.prog 117 #[.string s, .int .i64 i] w (BegPost w s i) := by
  obtain ⟨a, ha⟩ : ∃ a, (s[i]'hi).toNat = a := ⟨_, rfl⟩
  have ea : byt s i = a := by rw [← byt_get hi, ha]
  have h256 : a < 256 := by rw [← ea]; exact byt_lt s i
  have l1 : lowB s 1 (i + 1) = goesOn (byt s (i + 1)) := by simp [lowB]
  have l2 : lowB s 2 (i + 1) = (goesOn (byt s (i + 1)) && goesOn (byt s (i + 2))) := by simp [lowB]
  have l3 : lowB s 3 (i + 1) = (goesOn (byt s (i + 1)) && (goesOn (byt s (i + 2)) && goesOn (byt s (i + 3)))) := by simp [lowB]
  have hz0 : ∀ r, beg4 a (byt s (i + 1)) (byt s (i + 2)) (byt s (i + 3)) = r → begN s i = r := fun r e => by unfold begN; rw [ea]; exact e
  have hall : (a ≤ 127) ∨ (a < 256 ∧ (127 < a ∧ a < 194 ∨ 244 < a)) ∨ (194 ≤ a ∧ a ≤ 223) ∨ a = 224 ∨ (225 ≤ a ∧ a ≤ 236) ∨ a = 237 ∨ (238 ≤ a ∧ a ≤ 239) ∨ a = 240 ∨ (241 ≤ a ∧ a ≤ 243) ∨ a = 244 := by omega
  by_cases hm : i + 1 < s.size
  · obtain ⟨b, hb⟩ : ∃ b, (s[i + 1]'hm).toNat = b := ⟨_, rfl⟩
    have eb : byt s (i + 1) = b := by rw [← byt_get hm, hb]
    rw [eb] at l1 l2 l3 hz0
    rcases hall with h | h | h | h | h | h | h | h | h | h
    · exact beg_p0 s i w a b hi hs ha h hm hb (hz0 1 (b4_1 h))
    · exact beg_p1 s i w a b hi hs ha h hm hb (hz0 0 (b4_0 h.2))
    · cases hL : lowB s 1 (i + 1) with
      | true => exact beg_p3 s i w a b hi hs ha h hm hb hL (hz0 2 (b4_2y (by omega) (l1.symm.trans hL)))
      | false => exact beg_p2 s i w a b hi hs ha h hm hb hL (hz0 0 (b4_2n (by omega) (l1.symm.trans hL)))
    · cases hB : decide (160 ≤ b ∧ b ≤ 191) with
      | false => exact beg_p4 s i w a b hi hs ha h hm hb hB (hz0 0 (b4_3b (by have := of_decide_eq_false hB; omega)))
      | true =>
        cases hL : lowB s 2 (i + 1) with
        | true => exact beg_p5 s i w a b hi hs ha h hm hb hB hL (hz0 3 (b4_3y (by have := of_decide_eq_true hB; omega) (l2.symm.trans hL)))
        | false => exact beg_p6 s i w a b hi hs ha h hm hb hB hL (hz0 0 (b4_3n (by omega) (l2.symm.trans hL)))
    · cases hL : lowB s 2 (i + 1) with
      | true => exact beg_p8 s i w a b hi hs ha h hm hb hL (hz0 3 (b4_3y (by omega) (l2.symm.trans hL)))
      | false => exact beg_p7 s i w a b hi hs ha h hm hb hL (hz0 0 (b4_3n (by omega) (l2.symm.trans hL)))
    · cases hB : decide (128 ≤ b ∧ b ≤ 159) with
      | false => exact beg_p9 s i w a b hi hs ha h hm hb hB (hz0 0 (b4_3b (by have := of_decide_eq_false hB; omega)))
      | true =>
        cases hL : lowB s 2 (i + 1) with
        | true => exact beg_p10 s i w a b hi hs ha h hm hb hB hL (hz0 3 (b4_3y (by have := of_decide_eq_true hB; omega) (l2.symm.trans hL)))
        | false => exact beg_p11 s i w a b hi hs ha h hm hb hB hL (hz0 0 (b4_3n (by omega) (l2.symm.trans hL)))
    · cases hL : lowB s 2 (i + 1) with
      | true => exact beg_p13 s i w a b hi hs ha h hm hb hL (hz0 3 (b4_3y (by omega) (l2.symm.trans hL)))
      | false => exact beg_p12 s i w a b hi hs ha h hm hb hL (hz0 0 (b4_3n (by omega) (l2.symm.trans hL)))
    · cases hB : decide (144 ≤ b ∧ b ≤ 191) with
      | false => exact beg_p14 s i w a b hi hs ha h hm hb hB (hz0 0 (b4_4b (by have := of_decide_eq_false hB; omega)))
      | true =>
        cases hL : lowB s 3 (i + 1) with
        | true => exact beg_p15 s i w a b hi hs ha h hm hb hB hL (hz0 4 (b4_4y (by have := of_decide_eq_true hB; omega) (l3.symm.trans hL)))
        | false => exact beg_p16 s i w a b hi hs ha h hm hb hB hL (hz0 0 (b4_4n (by omega) (l3.symm.trans hL)))
    · cases hL : lowB s 3 (i + 1) with
      | true => exact beg_p18 s i w a b hi hs ha h hm hb hL (hz0 4 (b4_4y (by omega) (l3.symm.trans hL)))
      | false => exact beg_p17 s i w a b hi hs ha h hm hb hL (hz0 0 (b4_4n (by omega) (l3.symm.trans hL)))
    · cases hB : decide (128 ≤ b ∧ b ≤ 143) with
      | false => exact beg_p19 s i w a b hi hs ha h hm hb hB (hz0 0 (b4_4b (by have := of_decide_eq_false hB; omega)))
      | true =>
        cases hL : lowB s 3 (i + 1) with
        | true => exact beg_p20 s i w a b hi hs ha h hm hb hB hL (hz0 4 (b4_4y (by have := of_decide_eq_true hB; omega) (l3.symm.trans hL)))
        | false => exact beg_p21 s i w a b hi hs ha h hm hb hB hL (hz0 0 (b4_4n (by omega) (l3.symm.trans hL)))
  · have eb : byt s (i + 1) = 0 := byt_end (by omega)
    rw [eb] at l1 l2 l3 hz0
    have l1 : lowB s 1 (i + 1) = false := l1
    have l2 : lowB s 2 (i + 1) = false := l2
    have l3 : lowB s 3 (i + 1) = false := l3
    rcases hall with h | h | h | h | h | h | h | h | h | h
    · exact beg_p22 s i w a hi hs ha h (by omega) (hz0 1 (b4_1 h))
    · exact beg_p23 s i w a hi hs ha h (by omega) (hz0 0 (b4_0 h.2))
    · exact beg_p24 s i w a hi hs ha h (by omega) l1 (hz0 0 (b4_2n (by omega) (rfl)))
    · exact beg_p25 s i w a hi hs ha h (by omega) rfl (hz0 0 (b4_3b (by omega)))
    · exact beg_p26 s i w a hi hs ha h (by omega) l2 (hz0 0 (b4_3n (by omega) (rfl)))
    · exact beg_p27 s i w a hi hs ha h (by omega) rfl (hz0 0 (b4_3b (by omega)))
    · exact beg_p28 s i w a hi hs ha h (by omega) l2 (hz0 0 (b4_3n (by omega) (rfl)))
    · exact beg_p29 s i w a hi hs ha h (by omega) rfl (hz0 0 (b4_4b (by omega)))
    · exact beg_p30 s i w a hi hs ha h (by omega) l3 (hz0 0 (b4_4n (by omega) (rfl)))
    · exact beg_p31 s i w a hi hs ha h (by omega) rfl (hz0 0 (b4_4b (by omega)))
end Go.Proofs.YtnajbkccaclkcaaGreat

namespace Go.Proofs.YtnajbkccaclkcaaGreat
open Go Go.RowKit

def DecPost (w : World) (s : ByteArray) (i : Nat) (e : Ending) (w' : World) : Prop := ∃ r : Int, e = .returned (.tuple #[.int .i32 r, .int .i64 (dec s i).2, .bool (!bad s i)]) ∧ Kept (fun _ => False) w w'
set_option maxRecDepth 100000 in
theorem Decode_any (s : ByteArray) (i : Nat) (w : World) (hi : i < s.size) (hs : s.size ≤ 4611686018427387904) : Calls Tryz.prog 115 #[.string s, .int .i64 i] w (DecPost w s i) := by
  have hb := beg_bad s i
  have hd := dec_pos s i
  have h1 : bad s i = true → (dec s i).2 = 1 := fun h => by
    have := of_decide_eq_true h
    rw [this]
  unfold DecPost
  generalize (dec s i).2 = n at *
  cases hbd : bad s i with
  | true =>
    rw [hbd] at hb h1
    obtain rfl : n = 1 := h1 rfl
    simp only [if_true] at hb
    have HB := Lib.hid hb
    clear hb h1 hbd hd
    go_enter Tryz.func115, Tryz.ntmps115
    go_wp2_with (fail)
    refine (begins_any s i _ hi hs).mono ?_
    unfold BegPost
    rw [HB.out]
    rintro e w1 ⟨r, rfl, hk⟩
    have HK := Lib.hid hk
    clear hk
    go_wp2
    go_ret3
    exact ⟨_, rfl, HK.out⟩
  | false =>
    rw [hbd] at hb
    simp only [Bool.false_eq_true, if_false] at hb
    have HB := Lib.hid hb
    have hn0 : ((n : Nat) : Int) ≠ 0 := by omega
    clear hb h1 hbd hd
    go_enter Tryz.func115, Tryz.ntmps115
    go_wp2_with (fail)
    refine (begins_any s i _ hi hs).mono ?_
    unfold BegPost
    rw [HB.out]
    rintro e w1 ⟨r, rfl, hk⟩
    have HK := Lib.hid hk
    clear hk
    go_wp2
    go_ret3
    exact ⟨_, rfl, HK.out⟩

/-- A piece as the document's code keeps it. -/
structure Pie where
  at_ : Nat
  r : Int
  n : Nat
  ok : Bool
def Pie.cells (p : Pie) : List Value := [.int .i64 p.at_, .int .i32 p.r, .int .i64 p.n, .bool p.ok]
def Pie.cut (p : Pie) : Nat × Nat × Bool := (p.at_, p.n, p.ok)
def pies (L : List Pie) : List Value := L.flatMap Pie.cells
theorem pies_len (L : List Pie) : (pies L).length = L.length * 4 := by
  induction L with
  | nil => rfl
  | cons p L ih =>
    unfold pies at ih ⊢
    rw [List.flatMap_cons, List.length_append, ih]
    simp [Pie.cells]
    omega
theorem pies_app (L M : List Pie) : pies (L ++ M) = pies L ++ pies M := by simp [pies]
theorem pies_get (L : List Pie) : ∀ k (h : k < L.length), (pies L)[k * 4]? = some (.int .i64 L[k].at_) ∧ (pies L)[k * 4 + 3]? = some (.bool L[k].ok) := by
  induction L with
  | nil => intro k h; simp at h
  | cons p L ih =>
    intro k h
    have e : pies (p :: L) = p.cells ++ pies L := by simp [pies]
    rw [e]
    cases k with
    | zero => exact ⟨rfl, rfl⟩
    | succ k =>
      have h4 : p.cells.length = 4 := rfl
      rw [List.getElem?_append_right (by rw [h4]; omega), List.getElem?_append_right (by rw [h4]; omega), h4, show (k + 1) * 4 - 4 = k * 4 by omega, show (k + 1) * 4 + 3 - 4 = k * 4 + 3 by omega]
      simpa using ih k (by simpa using h)
theorem info_piece : (Tryz.prog.info? 177).map (fun i => (i.zero, i.size, i.bytes)) = some (some (.agg #[.int .i64 0, .int .i32 0, .int .i64 0, .bool false]), 4, 32) := by kernel_rfl
theorem eltPieces : Elt Tryz.prog 170 177 4 32 := .of Tryz.underlying170 info_piece rfl (by decide) (by decide)
structure PcsAt (w : World) (v : Value) (L : List Pie) (w' : World) : Prop where
  row : w'.ownsRow w.heap.size 177 4 v L.length (pies L)
  k : Kept (fun _ => False) w w'
def PcsPost (w : World) (s : ByteArray) (e : Ending) (w' : World) : Prop := ∃ A c L, e = .returned (.slice A L.length c) ∧ L.map Pie.cut = cuts s ∧ PcsAt w (.slice A L.length c) L w'

set_option maxRecDepth 100000 in
set_option maxHeartbeats 1600000 in
theorem Pieces_any (s : ByteArray) (w : World) (hs : s.size ≤ 1000000) : Calls Tryz.prog 108 #[.string s] w (PcsPost w s) := by
  go_enter Tryz.func108, Tryz.ntmps108
  go_wp2_with (fail)
  go_loopw [3, 4] (fun v i wr => ∃ (A : Option Addr) (c : Nat) (L : List Pie) (pos : Nat), v = .slice A L.length c ∧ i = .int .i64 pos ∧ pos ≤ s.size ∧ L.length ≤ pos ∧ L.map Pie.cut ++ pcs s s.size pos = cuts s ∧ PcsAt w (.slice A L.length c) L wr) (fun _ i _ => s.size - (intOf i).toNat)
  case atStart => exact ⟨none, 0, [], 0, rfl, rfl, by omega, by simp, rfl, World.ownsRow_nil _ _ _ _, Kept.refl _ _⟩
  case round =>
    obtain ⟨A, c, L, pos, rfl, rfl, hps, hlp, hcut, hz⟩ := hrel
    have HZ := Lib.hid hz
    have HCUT := Lib.hid hcut
    clear hz hcut
    by_cases hp : pos < s.size
    · have hd := dec_fits hp
      have hd0 := dec_pos s pos
      have HST := Lib.hid (pcs_step hp (show s.size ≤ pos + s.size by omega))
      obtain ⟨n, hn⟩ : ∃ n, (dec s pos).2 = n := ⟨_, rfl⟩
      obtain ⟨b, hb⟩ : ∃ b, bad s pos = b := ⟨_, rfl⟩
      rw [hn] at hd hd0 HST
      rw [hb] at HST
      have HN := Lib.hid hn
      have HB := Lib.hid hb
      clear hn hb
      go_wp2_with (fail)
      refine (Decode_any s pos _ hp (by omega)).mono ?_
      unfold DecPost
      rw [HN.out, HB.out]
      rintro e w1 ⟨r, rfl, hk⟩
      have HR := Lib.hid (hk.own HZ.out.row fun _ _ => id)
      have HK := Lib.hid (HZ.out.k.trans hk fun _ _ e => e)
      have hsz := HK.out.size
      clear hk HZ
      go_wp2_with (at_builtin; refine wpList_append_new eltPieces rfl (.tmp 19) (.tmp 25) rfl w.heap.size _ L.length (pies L) rfl HR.out 1 1 rfl rfl rfl (by omega) hsz ?_)
      intro A1 c1 w2 HO1 HK1 HM1
      go_wp2
      go_roundw
      case rel =>
        refine ⟨A1, c1, L ++ [⟨pos, r, n, !b⟩], pos + n, by simp, by go_num, hd, by simp; omega, ?_, ?_, HK.out.trans HK1.out fun k hk e => ?_⟩
        · rw [List.map_append, List.append_assoc]
          have := HCUT.out
          rw [HST.out] at this
          exact this
        · rw [pies_app, List.length_append]
          exact HO1.out
        · have := (HR.out.lt k e).1
          omega
      case measure => simp [intOf]; omega
    · obtain rfl : pos = s.size := by omega
      have h0 := HCUT.out
      rw [pcs_end _ (Nat.le_refl _), List.append_nil] at h0
      have H0 := Lib.hid h0
      clear h0
      go_wp2
      go_ret
      exact ⟨A, c, L, rfl, H0.out, HZ.out⟩

set_option maxRecDepth 100000 in
theorem RCount_any (s : ByteArray) (w : World) (hs : s.size ≤ 1000000) : Calls Tryz.prog 92 #[.string s] w (IntPost w (cnt s)) := by
  go_enter Tryz.func92, Tryz.ntmps92
  go_wp2_with (fail)
  refine (Pieces_any s _ hs).mono ?_
  rintro e w1 ⟨A, c, L, rfl, hc, hz⟩
  have HK := Lib.hid hz.k
  have HC := Lib.hid (show L.length = cnt s by unfold cnt; rw [← hc, List.length_map])
  clear hc hz
  go_wp2
  go_ret
  exact ⟨by rw [← HC.out]; rfl, HK.out⟩

set_option maxRecDepth 100000 in
set_option maxHeartbeats 1600000 in
theorem RBadAt_any (s : ByteArray) (w : World) (hs : s.size ≤ 1000000) : Calls Tryz.prog 116 #[.string s] w (IntPost w (badAt s)) := by
  obtain ⟨x, hx⟩ : ∃ x, badAt s = x := ⟨_, rfl⟩
  have HX := Lib.hid hx
  rw [hx]
  clear hx
  go_enter Tryz.func116, Tryz.ntmps116
  go_wp2_with (fail)
  refine (Pieces_any s _ hs).mono ?_
  rintro e w1 ⟨A, c, L, rfl, hc, hz⟩
  have HZ := Lib.hid hz
  have hlen : L.length ≤ 1000000 := by
    have := cnt_le s
    unfold cnt at this
    rw [← hc, List.length_map] at this
    omega
  have HF := Lib.hid (show firstBad (L.map Pie.cut) = x by rw [hc]; exact HX.out)
  clear hc hz HX
  go_wp2_with (fail)
  go_loopw [4] (fun i wr => ∃ (k : Nat), i = .int .i64 k ∧ k ≤ L.length ∧ firstBad ((L.drop k).map Pie.cut) = x ∧ PcsAt w (.slice A L.length c) L wr) (fun i _ => L.length - (intOf i).toNat)
  case atStart => exact ⟨0, rfl, by omega, HF.out, HZ.out⟩
  case round =>
    obtain ⟨k, rfl, hk, hf, hz⟩ := hrel
    have HZ2 := Lib.hid hz
    clear HF HZ
    by_cases hlt : k < L.length
    · obtain ⟨g, cap, hv, _, _⟩ := World.ownsRow.form hz.row (by omega)
      injection hv with e1 _ e3
      subst e1 e3
      obtain ⟨p0, p3⟩ := pies_get L k hlt
      have x0 : wr.cell? ⟨g, k * 4, none⟩ = some (.int .i64 L[k].at_) := by rw [World.ownsRow.cellAt hz.row (k * 4) (by omega), p0]
      have x3 : wr.cell? ⟨g, k * 4 + 3, none⟩ = some (.bool L[k].ok) := by rw [World.ownsRow.cellAt hz.row (k * 4 + 3) (by omega), p3]
      rw [List.drop_eq_getElem_cons hlt, List.map_cons] at hf
      generalize L[k] = p at x0 x3 hf
      obtain ⟨at_, r, n, ok⟩ := p
      simp only at x0 x3
      cases ok with
      | true =>
        have HF := Lib.hid (show firstBad ((L.drop (k + 1)).map Pie.cut) = x from hf)
        clear hz hf p0 p3
        go_wp2_with (fail)
        go_roundw
        case rel => exact ⟨k + 1, by go_num, by omega, HF.out, HZ2.out⟩
        case measure => simp [intOf]; omega
      | false =>
        have HF := Lib.hid (show (at_ : Int) = x from hf)
        clear hz hf p0 p3
        go_wp2_with (fail)
        go_ret
        exact ⟨by rw [← HF.out]; rfl, HZ2.out.k⟩
    · obtain rfl : k = L.length := by omega
      have HF := Lib.hid (show (-1 : Int) = x by rw [List.drop_length] at hf; exact hf)
      clear hz hf
      go_wp2_with (fail)
      go_ret
      exact ⟨by rw [← HF.out]; rfl, HZ2.out.k⟩

set_option maxRecDepth 100000 in
theorem Good_any (s : ByteArray) (w : World) (hs : s.size ≤ 1000000) : Calls Tryz.prog 109 #[.string s] w (BoolPost w (decide (badAt s < 0))) := by
  go_enter Tryz.func109, Tryz.ntmps109
  go_wp2_with (fail)
  refine (RBadAt_any s _ hs).mono ?_
  rintro e w1 ⟨rfl, hk⟩
  have HK := Lib.hid hk
  clear hk
  go_wp2
  go_ret
  exact ⟨rfl, HK.out⟩
end Go.Proofs.YtnajbkccaclkcaaGreat
