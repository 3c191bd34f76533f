/- The walk of slices.SortStableFunc at events: the row is a permutation of what it was, rising by the events' ends. Conditions: the row is owned; at most a million events. -/
import Derived.Test.YtkekhnohehhljaaESym
namespace Go.Proofs.Ytkekhnohehhljaa
open Go Go.Shelf Go.RowKit Go.Lib Go.Sort

section
variable {α : Type} [Inhabited α] {key : α → Int} {N : Nat}
/-- From s on each stretch of C places rises. -/
def Blk (key : α → Int) (N C s : Nat) (d : Array α) : Prop := ∀ q, SortK key (s + q * C) (min (s + q * C + C) N) d
/-- The first k stretches of C places rise. -/
def Done (key : α → Int) (C k : Nat) (d : Array α) : Prop := ∀ q, q < k → SortK key (q * C) (q * C + C) d
theorem Blk.head {C s : Nat} {d : Array α} (h : Blk key N C s d) : SortK key s (min (s + C) N) d := by
  have := h 0
  rwa [Nat.zero_mul, Nat.add_zero] at this
theorem Blk.tail {C s : Nat} {d : Array α} (h : Blk key N C s d) : Blk key N C (s + C) d := fun q => by
  have := h (q + 1)
  rw [Nat.succ_mul] at this
  have e : s + (q * C + C) = s + C + q * C := by omega
  rwa [e] at this
theorem Blk.congr {C s : Nat} {d d' : Array α} (h : Blk key N C s d) (he : ∀ i, s ≤ i → d'[i]! = d[i]!) : Blk key N C s d' := fun q => (h q).congr fun i e1 _ => he i (by omega)
theorem Done.step {C k : Nat} {d d' : Array α} (h : Done key C k d) (hs : SortK key (k * C) (k * C + C) d') (he : ∀ i, i < k * C → d'[i]! = d[i]!) : Done key C (k + 1) d' := fun q hq => by
  by_cases e : q = k
  · rw [e]; exact hs
  · refine (h q (by omega)).congr fun i _ e2 => he i ?_
    have := Nat.mul_le_mul_right C (show q + 1 ≤ k by omega)
    rw [Nat.succ_mul] at this
    omega
theorem Done.fin {C k : Nat} {d : Array α} (h : Done key C k d) (hs : SortK key (k * C) N d) (hN : N < k * C + C) : Blk key N C 0 d := fun q => by
  rw [Nat.zero_add]
  rcases Nat.lt_trichotomy q k with e | e | e
  · exact (h q e).part (Nat.le_refl _) (Nat.min_le_left _ _)
  · subst e
    exact hs.part (Nat.le_refl _) (Nat.min_le_right _ _)
  · intro i j e1 e2 e3
    have := Nat.mul_le_mul_right C (show k + 1 ≤ q by omega)
    rw [Nat.succ_mul] at this
    have := Nat.min_le_right (q * C + C) N
    omega
end
theorem swoE : SWO (ltOf cfE) where
  irrefl := fun x => decide_eq_false (by rw [cfE_lt]; omega)
  trans := fun x y z h1 h2 => decide_eq_true (by have := (cfE_lt x y).1 (of_decide_eq_true h1); have := (cfE_lt y z).1 (of_decide_eq_true h2); rw [cfE_lt]; omega)
  ntrans := fun x y z h1 h2 => decide_eq_false (by have := of_decide_eq_false h1; have := of_decide_eq_false h2; rw [cfE_lt] at *; omega)
theorem sortK_of {a b : Nat} {d : Array Ev} (h : SortedIn (ltOf cfE) a b d) : SortK Ev.key a b d := fun i j e1 e2 e3 => by
  have := of_decide_eq_false (h i j e1 e2 e3)
  rw [cfE_lt] at this
  omega
set_option maxRecDepth 100000 in
theorem insertion_any {w0 W : World} {blk N : Nat} {dk d0 : Array Ev} (h : Sw w0 blk dk W) (T : Srt w0 blk d0) (hs : dk.size = d0.size) (hN : dk.size = N) (cap a b : Nat) (h1 : a ≤ b) (h2 : b ≤ N) :
    Calls Try.prog 41 #[.slice (some ⟨blk, 0, none⟩) N cap, .int .i64 a, .int .i64 b, .func (.func 19) #[] #[]] W (SymPost w0 blk dk a b) := by
  subst hN
  have hc := AnyQ.insertionSortCmpFunc insE 7 Try.isAgg35 Try.sizeOf35 Ev.cs (fun _ => rfl) Ev.cs_one cfE 19 #[] blk 0 cap a b dk W (enters_of Try.func19 (by kernel_rfl) rfl) (fun _ _ _ _ x y => cmp_evs x y _) (h.holds T.R.hblk T.R.hH hs) (h.lt T.R.hblk) h1 h2 (by have := T.sz; omega)
  refine hc.mono ?_
  rintro e w' ⟨rfl, n, os, rfl⟩
  obtain ⟨g1, g2⟩ := insertionSort_holds swoE dk a b h1 h2
  exact ⟨rfl, _, g1, sortK_of g2, h.on T.R.hblk n _ os g1.1⟩
theorem symMerge_int {w0 W : World} {blk N : Nat} {dk d0 : Array Ev} (h : Sw w0 blk dk W) (T : Srt w0 blk d0) (hs : dk.size = d0.size) (hN : dk.size = N) (cap : Nat) {a m b : Nat} (a' m' b' : Int) (ha : a' = a) (hm : m' = m) (hb : b' = b) (h1 : a < m) (h2 : m < b) (h3 : b ≤ N) (k1 : SortK Ev.key a m dk) (k2 : SortK Ev.key m b dk) :
    Calls Try.prog 42 #[.slice (some ⟨blk, 0, none⟩) N cap, .int .i64 a', .int .i64 m', .int .i64 b', .func (.func 19) #[] #[]] W (SymPost w0 blk dk a b) := by
  subst ha hm hb
  exact symMerge_any h T hs hN cap a m b h1 h2 h3 k1 k2
set_option maxRecDepth 100000 in
set_option maxHeartbeats 6400000 in
theorem stable_any {w0 W : World} {blk N : Nat} {dk d0 : Array Ev} (h : Sw w0 blk dk W) (T : Srt w0 blk d0) (hs : dk.size = d0.size) (hN : dk.size = N) (cap : Nat) (hmax : N ≤ 1000000) :
    Calls Try.prog 25 #[.slice (some ⟨blk, 0, none⟩) N cap, .int .i64 N, .func (.func 19) #[] #[]] W (SymPost w0 blk dk 0 N) := by
  have HW := Lib.hid h
  have HT := Lib.hid T
  have HE := Lib.hid (show N = d0.size by rw [← hN, hs])
  have HZ := Lib.hid hN
  clear h T hs hN
  go_enter Try.func25, Try.ntmps25
  go_wp2_with (fail)
  go_loopw [7, 8] (fun va vb wr => ∃ (k x y : Nat) (d1 : Array Ev), va = .int .i64 x ∧ vb = .int .i64 y ∧ y = x + 20 ∧ x ≤ N ∧ d1.size = N ∧ x = k * 20 ∧ Done Ev.key 20 k d1 ∧ PermIn 0 N dk d1 ∧ Sw w0 blk d1 wr) (fun va _ _ => N + 1 - (intOf va).toNat)
  case atStart => exact ⟨0, 0, 20, dk, rfl, rfl, rfl, Nat.zero_le _, HZ.out, rfl, fun q hq => absurd hq (Nat.not_lt_zero _), permIn_refl _ _ _, HW.out⟩
  case round =>
    obtain ⟨k, x, y, d1, rfl, rfl, hy, hx, hd, hk, hdn, hp, hsw⟩ := hrel
    have HK := Lib.hid hk
    have HZ1 := Lib.hid hd
    have HDN := Lib.hid hdn
    have HP := Lib.hid hp
    clear hk hd hdn hp HW
    have HW := Lib.hid hsw
    have HY := Lib.hid hy
    have hy1 : y ≤ 1000020 := by omega
    clear hsw
    by_cases hlt : y ≤ N
    case' pos =>
      as_aux_lemma =>
      have hi : (y : Int) ≤ (N : Int) := by omega
      have hxy : x ≤ y := by omega
      clear hy
      have hw : IntKind.i64.wrap ((y : Int) + 20) = (y : Int) + 20 := IntWalk.i64_in _ ⟨by omega, by omega⟩
      go_wp2_with (fail)
      refine (insertion_any HW.out HT.out (by rw [HZ1.out, HE.out]) HZ1.out cap x y hxy hlt).mono ?_
      rintro r w2 ⟨rfl, d2, hp2, hs2, hsw2⟩
      have HW2 := Lib.hid hsw2
      have HP2 := Lib.hid (permIn_trans _ _ _ _ _ HP.out (permIn_mono _ _ _ _ _ _ (Nat.zero_le _) hlt (by rw [HZ1.out]; exact Nat.le_refl _) hp2))
      have HZ2 := Lib.hid (hp2.1.trans HZ1.out)
      have HDN2 := Lib.hid (HDN.out.step (d' := d2) (by rw [← HK.out, ← HY.out]; exact hs2) (fun i e => hp2.2.1 i (.inl (by rw [HK.out]; exact e))))
      clear hp2 hs2 hsw2 HW HP HDN
      go_wp2_with (fail)
      go_roundw
      case rel => exact ⟨k + 1, y, y + 20, d2, rfl, by congr 1, rfl, hlt, HZ2.out, by rw [Nat.succ_mul, ← HK.out, HY.out], HDN2.out, HP2.out, HW2.out⟩
      case measure => have := HY.out; simp [intOf]; omega
    have hi : ¬ (y : Int) ≤ (N : Int) := by omega
    obtain ⟨wo, rfl⟩ : ∃ wo : World, wo = wr := ⟨_, rfl⟩
    clear hy
    go_wp2_with (fail)
    refine (insertion_any HW.out HT.out (by rw [HZ1.out, HE.out]) HZ1.out cap x N hx (Nat.le_refl _)).mono ?_
    rintro r w2 ⟨rfl, d2, hp2, hs2, hsw2⟩
    have HW2 := Lib.hid hsw2
    have HP2 := Lib.hid (permIn_trans _ _ _ _ _ HP.out (permIn_mono _ _ _ _ _ _ (Nat.zero_le _) (Nat.le_refl _) (by rw [HZ1.out]; exact Nat.le_refl _) hp2))
    have HZ2 := Lib.hid (hp2.1.trans HZ1.out)
    have HB2 := Lib.hid (show Blk Ev.key N 20 0 d2 from Done.fin (k := k) (fun q hq => (HDN.out q hq).congr fun i _ e2 => hp2.2.1 i (.inl (by
      have := Nat.mul_le_mul_right 20 (show q + 1 ≤ k by omega)
      have := HK.out
      omega))) (by rw [← HK.out]; exact hs2) (by rw [← HK.out, ← HY.out]; omega))
    clear hp2 hs2 hsw2 HW HP HDN HK HY HZ1 hlt hi hy1
    go_wp2_with (fail)
    go_loopw [6, 7, 8, 9] (fun vB va vb vm wr => ∃ (B : Nat) (d1 : Array Ev), vB = .int .i64 B ∧ 1 ≤ B ∧ B ≤ 2000000 ∧ d1.size = N ∧ Blk Ev.key N B 0 d1 ∧ PermIn 0 N dk d1 ∧ Sw w0 blk d1 wr) (fun vB _ _ _ _ => N - (intOf vB).toNat)
    case atStart => exact ⟨20, d2, rfl, by omega, by omega, HZ2.out, HB2.out, HP2.out, HW2.out⟩
    case round =>
      obtain ⟨B, d3, rfl, hB1, hB2, hd, hbl, hp, hsw⟩ := hrel
      have HZ3 := Lib.hid hd
      have HBL := Lib.hid hbl
      have HP3 := Lib.hid hp
      have HW3 := Lib.hid hsw
      clear hd hbl hp hsw HZ2 HB2 HP2 HW2
      by_cases hBN : B < N
      case' pos =>
        as_aux_lemma =>
        have hi : (B : Int) < (N : Int) := by omega
        have hw0 : IntKind.i64.wrap (2 * (B : Int)) = 2 * (B : Int) := IntWalk.i64_in _ ⟨by omega, by omega⟩
        have hw9 : IntKind.i64.wrap ((B : Int) * 2) = (B : Int) * 2 := IntWalk.i64_in _ ⟨by omega, by omega⟩
        obtain ⟨wq, rfl⟩ : ∃ wq : World, wq = wr := ⟨_, rfl⟩
        go_wp2_with (fail)
        go_loopw [7, 8] (fun va vb wr => ∃ (k x y : Nat) (d1 : Array Ev), va = .int .i64 x ∧ vb = .int .i64 y ∧ y = x + 2 * B ∧ x ≤ N ∧ d1.size = N ∧ x = k * (2 * B) ∧ Done Ev.key (2 * B) k d1 ∧ Blk Ev.key N B x d1 ∧ PermIn 0 N dk d1 ∧ Sw w0 blk d1 wr) (fun va _ _ => N + 1 - (intOf va).toNat)
        case atStart => exact ⟨0, 0, 2 * B, d3, rfl, by congr 1, by omega, Nat.zero_le _, HZ3.out, by rw [Nat.zero_mul], fun q hq => absurd hq (Nat.not_lt_zero _), HBL.out, HP3.out, HW3.out⟩
        case round =>
          obtain ⟨k, x, y, d4, rfl, rfl, hy, hx, hd, hk, hdn, hbl, hp, hsw⟩ := hrel
          have HK := Lib.hid hk
          have HZ4 := Lib.hid hd
          have HDN := Lib.hid hdn
          have HB4 := Lib.hid hbl
          have HP4 := Lib.hid hp
          have HW4 := Lib.hid hsw
          have HY := Lib.hid hy
          have hy1 : y ≤ 5000000 := by omega
          have hw1 : IntKind.i64.wrap ((x : Int) + (B : Int)) = (x : Int) + (B : Int) := IntWalk.i64_in _ ⟨by omega, by omega⟩
          clear hk hd hdn hbl hp hsw HZ3 HBL HP3 HW3
          by_cases hlt : y ≤ N
          case' pos =>
            as_aux_lemma =>
            have hi2 : (y : Int) ≤ (N : Int) := by omega
            have hxB : x + B < y := by omega
            clear hy
            have hw2 : IntKind.i64.wrap ((y : Int) + 2 * (B : Int)) = (y : Int) + 2 * (B : Int) := IntWalk.i64_in _ ⟨by omega, by omega⟩
            have g1 := HB4.out.head
            have g2 := HB4.out.tail.head
            rw [Nat.min_eq_left (by omega)] at g1
            rw [Nat.min_eq_left (by have := HY.out; omega)] at g2
            have e2 : x + B + B = y := by have := HY.out; omega
            rw [e2] at g2
            have HG1 := Lib.hid g1
            have HG2 := Lib.hid g2
            clear g1 g2 e2
            go_wp2_with (fail)
            refine (symMerge_int HW4.out HT.out (by rw [HZ4.out, HE.out]) HZ4.out cap (a := x) (m := x + B) (b := y) _ _ _ rfl (by omega) rfl (by omega) hxB hlt HG1.out HG2.out).mono ?_
            rintro r w5 ⟨rfl, d5, hp5, hs5, hsw5⟩
            have HW5 := Lib.hid hsw5
            have HP5 := Lib.hid (permIn_trans _ _ _ _ _ HP4.out (permIn_mono _ _ _ _ _ _ (Nat.zero_le _) hlt (by rw [HZ4.out]; exact Nat.le_refl _) hp5))
            have HZ5 := Lib.hid (hp5.1.trans HZ4.out)
            have HDN5 := Lib.hid (HDN.out.step (d' := d5) (by rw [← HK.out, ← HY.out]; exact hs5) (fun i e => hp5.2.1 i (.inl (by rw [HK.out]; exact e))))
            have HB5 := Lib.hid (show Blk Ev.key N B y d5 from by
              have h := HB4.out.tail.tail
              rw [show x + B + B = y by have := HY.out; omega] at h
              exact h.congr fun i e => hp5.2.1 i (.inr e))
            clear hp5 hs5 hsw5 HW4 HP4 HDN HB4
            go_wp2_with (fail)
            go_roundw
            case rel => exact ⟨k + 1, y, y + 2 * B, d5, rfl, by congr 1, rfl, hlt, HZ5.out, by rw [Nat.succ_mul, ← HK.out, HY.out], HDN5.out, HB5.out, HP5.out, HW5.out⟩
            case measure => have := HY.out; simp [intOf]; omega
          have hi2 : ¬ (y : Int) ≤ (N : Int) := by omega
          obtain ⟨wp, rfl⟩ : ∃ wp : World, wp = wr := ⟨_, rfl⟩
          by_cases hm : x + B < N
          · as_aux_lemma =>
            have hm2 : (x : Int) + (B : Int) < (N : Int) := by omega
            have g1 := HB4.out.head
            have g2 := HB4.out.tail.head
            rw [Nat.min_eq_left (by omega)] at g1
            rw [Nat.min_eq_right (by omega)] at g2
            have HG1 := Lib.hid g1
            have HG2 := Lib.hid g2
            clear g1 g2 hy
            go_wp2_with (fail)
            refine (symMerge_int HW4.out HT.out (by rw [HZ4.out, HE.out]) HZ4.out cap (a := x) (m := x + B) (b := N) _ _ _ rfl (by omega) rfl (by omega) hm (Nat.le_refl _) HG1.out HG2.out).mono ?_
            rintro r w5 ⟨rfl, d5, hp5, hs5, hsw5⟩
            have HW5 := Lib.hid hsw5
            have HP5 := Lib.hid (permIn_trans _ _ _ _ _ HP4.out (permIn_mono _ _ _ _ _ _ (Nat.zero_le _) (Nat.le_refl _) (by rw [HZ4.out]; exact Nat.le_refl _) hp5))
            have HZ5 := Lib.hid (hp5.1.trans HZ4.out)
            have HB5 := Lib.hid (show Blk Ev.key N (2 * B) 0 d5 from Done.fin (k := k) (fun q hq => (HDN.out q hq).congr fun i _ e2 => hp5.2.1 i (.inl (by
              have h := Nat.mul_le_mul_right (2 * B) (show q + 1 ≤ k by omega)
              rw [Nat.succ_mul, ← HK.out] at h
              omega))) (by rw [← HK.out]; exact hs5) (by rw [← HK.out, ← HY.out]; omega))
            clear hp5 hs5 hsw5 HW4 HP4 HDN HB4
            go_wp2_with (fail)
            go_roundw
            case rel => exact ⟨2 * B, d5, by congr 1; omega, by omega, by omega, HZ5.out, HB5.out, HP5.out, HW5.out⟩
            case measure => simp [intOf]; omega
          · as_aux_lemma =>
            have hm2 : ¬ (x : Int) + (B : Int) < (N : Int) := by omega
            have g1 := HB4.out.head
            rw [Nat.min_eq_right (by omega)] at g1
            have HB5 := Lib.hid (show Blk Ev.key N (2 * B) 0 d4 from Done.fin (k := k) HDN.out (by rw [← HK.out]; exact g1) (by rw [← HK.out, ← HY.out]; omega))
            clear g1 HB4 HDN hy
            go_wp2_with (fail)
            go_roundw
            case rel => exact ⟨2 * B, d4, by congr 1; omega, by omega, by omega, HZ4.out, HB5.out, HP4.out, HW4.out⟩
            case measure => simp [intOf]; omega
      have hi : ¬ (B : Int) < (N : Int) := by omega
      have g := HBL.out.head
      rw [Nat.zero_add, Nat.min_eq_right (by omega)] at g
      have HG := Lib.hid g
      clear g HBL
      go_wp2_with (fail)
      go_end0
      exact ⟨rfl, d3, HP3.out, HG.out, HW3.out⟩
set_option maxRecDepth 100000 in
theorem SortStable_any {w0 W : World} {blk N : Nat} {dk d0 : Array Ev} (h : Sw w0 blk dk W) (T : Srt w0 blk d0) (hs : dk.size = d0.size) (hN : dk.size = N) (cap : Nat) (hmax : N ≤ 1000000) :
    Calls Try.prog 18 #[.slice (some ⟨blk, 0, none⟩) N cap, .func (.func 19) #[] #[]] W (SymPost w0 blk dk 0 N) := by
  have HC := Lib.hid (stable_any h T hs hN cap hmax)
  clear h T hs hN
  go_enter Try.func18, Try.ntmps18
  go_wp2_with (fail)
  refine HC.out.mono ?_
  rintro r w2 ⟨rfl, hp⟩
  have HP := Lib.hid hp
  clear hp
  go_wp2_with (fail)
  go_end0
  exact ⟨rfl, HP.out⟩
end Go.Proofs.Ytkekhnohehhljaa
