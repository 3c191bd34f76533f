/- The walk of FrontTwo: it is true. Conditions: the scripts lie in memory. -/
import Derived.Test.YthlejmpeigfdgaaFPly
namespace Go.Proofs.Ythlejmpeigfdgaa
open Go Go.RowKit

theorem front_zero (w : World) : Fob w.heap.size [] 0 (fun k => k = w.heap.size) (w.alloc (.cells #[.pointer none] 38)) ∧ Kept (fun _ => False) w (w.alloc (.cells #[.pointer none] 38)) := by
  have hb : Box (w.alloc (.cells #[.pointer none] 38)) w.heap.size 38 #[.pointer none] := Box.new w _ _
  exact ⟨⟨fun k => k = w.heap.size, [], 0, Nat.le_refl _, ⟨rfl, .inl ⟨rfl, hb⟩, rfl, fun x hx => absurd hx (by simp), fun k e => by subst e; exact hb.lt, FsOk.nil⟩, fun k e => e⟩, (Kept.refl _ _).alloc _⟩
def Tw (p q : Nat) (s : List Fp) (N : Nat) : (Nat → Prop) → World → Prop := Pair (Fob p s N) (Rfb q s)
theorem Tw.ob (p q : Nat) (s : List Fp) (N : Nat) : Ob (Tw p q s N) := Pair.ob (Fob.ob p s N) (Rfb.ob q s)
theorem Tw.widen {p q : Nat} {s : List Fp} {N M : Nat} (h : N ≤ M) : ∀ G W, Tw p q s N G W → Tw p q s M G W := fun _ _ h' => Pair.fst_mono h' (Fob.widen h)
set_option maxRecDepth 100000 in
set_option maxHeartbeats 12800000 in
theorem Two_walk (A B : Option Addr) (c d : Nat) (l m : List Stf) (w : World) (h : ScfAt w A l) (h' : ScfAt w B m) (hl : l.length ≤ 4611686018427387904) (hm : m.length ≤ 4611686018427387904) :
    Calls Try.prog 4 #[.slice A l.length c, .slice B m.length d] w (KnownPost w) := by
  have HSC := Lib.hid h
  have HSD := Lib.hid h'
  clear h h'
  go_enter Try.func4, Try.ntmps4
  go_wp2_with (fail)
  refine (Much14_any A l c w HSC.out.steps hl).mono ?_
  rintro r w1 ⟨rfl, hk⟩
  have HA1 := Lib.hid hk
  clear hk
  obtain ⟨bm, hbm⟩ : ∃ bm, muchF l = bm := ⟨_, rfl⟩
  rw [hbm]
  have HBM := Lib.hid hbm
  clear hbm
  cases bm with
  | true =>
    as_aux_lemma =>
      go_wp2_with (fail)
      refine (Known14_any w1).mono ?_
      rintro r wk ⟨rfl, hk⟩
      have HK := Lib.hid (HA1.out.trans hk fun _ _ e => e)
      clear hk
      go_wp2_with (fail)
      go_ret
      exact ⟨rfl, HK.out⟩
  | false =>
  obtain ⟨hok, hll⟩ := HSC.out.ok HBM.out
  have HOK := Lib.hid hok
  clear hok HBM hl
  go_wp2_with (fail)
  refine (Much14_any B m d w1 (HSD.out.steps.fresh HA1.out) hm).mono ?_
  rintro r w2 ⟨rfl, hk⟩
  have HA2 := Lib.hid (HA1.out.trans hk fun _ _ e => e)
  clear hk HA1
  obtain ⟨bm, hbm⟩ : ∃ bm, muchF m = bm := ⟨_, rfl⟩
  rw [hbm]
  have HBM := Lib.hid hbm
  clear hbm
  cases bm with
  | true =>
    as_aux_lemma =>
      go_wp2_with (fail)
      refine (Known14_any w2).mono ?_
      rintro r wk ⟨rfl, hk⟩
      have HK := Lib.hid (HA2.out.trans hk fun _ _ e => e)
      clear hk
      go_wp2_with (fail)
      go_ret
      exact ⟨rfl, HK.out⟩
  | false =>
  obtain ⟨hok, hml⟩ := HSD.out.ok HBM.out
  have HOM := Lib.hid hok
  clear hok HBM hm
  go_wp2_with (fail)
  refine (Fob.new w2 w2.heap.size (Nat.le_refl _)).mono ?_
  rintro r w3 ⟨rfl, hn, hk⟩
  have HN3 := Lib.hid ((Fob.ob _ _ _).cut hn)
  have HA3 := Lib.hid (HA2.out.trans hk fun _ _ e => e)
  have HWP := Lib.hid HA2.out.size
  have HPS := Lib.hid hk.size
  have hz := front_zero w3
  clear hn hk HA2
  obtain ⟨p, hp⟩ : ∃ p, w2.heap.size = p := ⟨_, rfl⟩
  rw [hp] at HN3 HWP HPS ⊢
  clear hp
  go_wp2_with (fail)
  have HZ1 := Lib.hid hz.1
  have HA4 := Lib.hid (HA3.out.trans hz.2 fun _ _ e => e)
  have HN4 := Lib.hid ((Fob.ob _ _ _).fresh HN3.out hz.2)
  have hn34 : w3.heap.size < (w3.alloc (.cells #[.pointer none] 38)).heap.size := by simp
  clear hz HN3 HA3
  generalize w3.alloc (.cells #[.pointer none] 38) = w4 at HZ1 HA4 HN4 hn34 ⊢
  obtain ⟨n3, hn3⟩ : ∃ n3, w3.heap.size = n3 := ⟨_, rfl⟩
  rw [hn3] at HN4 HZ1 HPS hn34 ⊢
  clear hn3
  refine (Rfb.new w4).mono ?_
  rintro r w5 ⟨rfl, hn, hk⟩
  have HX5 := Lib.hid ((Rfb.ob _ _).cut hn)
  have HN5 := Lib.hid ((Fob.ob _ _ _).fresh HN4.out hk)
  have HZ5 := Lib.hid ((Fob.ob _ _ _).fresh HZ1.out hk)
  have HA5 := Lib.hid (HA4.out.trans hk fun _ _ e => e)
  have HS5 := Lib.hid hk.size
  clear hn hk HN4 HZ1 HA4
  obtain ⟨n4, hn4⟩ : ∃ n4, w4.heap.size = n4 := ⟨_, rfl⟩
  rw [hn4] at HX5 HS5 hn34 ⊢
  clear hn4
  go_wp2_with (fail)
  refine (Rfb.new w5).mono ?_
  rintro r w6 ⟨rfl, hn, hk⟩
  have HS6 := Lib.hid hk.size
  obtain ⟨n5, hn5⟩ : ∃ n5, w5.heap.size = n5 := ⟨_, rfl⟩
  have HX6 := Lib.hid ((Rfb.ob _ _).fresh HX5.out hk)
  rw [hn5] at hn HX6 HS5 HS6
  have HP := Lib.hid (show Pair (Tw p n4 [] 0) (Tw n3 n5 [] 0) (fun k => p ≤ k) w6 from
    Pair.make (Tw.ob _ _ _ _) (Tw.ob _ _ _ _) (Fa := fun k => (p ≤ k ∧ k < n3) ∨ (n4 ≤ k ∧ k < n5)) (Fb := fun k => k = n3 ∨ n5 ≤ k)
      (Pair.make (Fob.ob _ _ _) (Rfb.ob _ _) ((Fob.ob _ _ _).fresh HN5.out hk) HX6.out (fun k e1 e2 e3 => by have h1 := e1.2; have h2 := e3.1; omega) (fun k e => .inl e) (fun k e => .inr e))
      (Pair.make (Fob.ob _ _ _) (Rfb.ob _ _) ((Fob.ob _ _ _).fresh HZ5.out hk) hn (fun k e1 e2 e3 => by have h1 : k = n3 := e1; have h2 : n5 ≤ k := e3; have := HS5.out; omega) (fun k e => .inl e) (fun k e => .inr e))
      (fun k e1 e2 e3 => by
        have e1 : (p ≤ k ∧ k < n3) ∨ (n4 ≤ k ∧ k < n5) := e1
        have e3 : k = n3 ∨ n5 ≤ k := e3
        have := HS5.out
        omega)
      (fun k e => by have e : (p ≤ k ∧ k < n3) ∨ (n4 ≤ k ∧ k < n5) := e; have := HPS.out; omega) (fun k e => by have e : k = n3 ∨ n5 ≤ k := e; have := HPS.out; have := HS5.out; omega))
  have HA6 := Lib.hid (HA5.out.trans hk fun _ _ e => e)
  have HPS6 := Lib.hid (show p ≤ w6.heap.size from by have := HPS.out; have := HS5.out; have := HS6.out; omega)
  clear hn hk HN5 HZ5 HX5 HX6 HA5 HS5 HS6 HPS hn34
  rw [hn5]
  clear hn5
  go_wp2_with (fail)
  go_loopw [9] (fun i wr => ∃ k : Nat, i = .int .i64 k ∧ k ≤ l.length + m.length ∧ Pair (Tw p n4 (playF [] (l.take k)) (17 * k)) (Tw n3 n5 (playF [] (m.take k)) (17 * k)) (fun k => p ≤ k) wr ∧ Kept (fun k => p ≤ k) w6 wr ∧ l.length ≤ 200 ∧ m.length ≤ 200) (fun i _ => l.length + m.length - (intOf i).toNat)
  case atStart => exact ⟨0, rfl, Nat.zero_le _, HP.out, Kept.refl _ _, hll, hml⟩
  case round =>
    obtain ⟨k, rfl, hk, hn, hkk, -, -⟩ := hrel
    have HPR := Lib.hid hn
    have HK := Lib.hid hkk
    have HA := Lib.hid (HA6.out.trans hkk fun j hj e => by have := HWP.out; omega)
    have HPW := Lib.hid (Nat.le_trans HPS6.out hkk.size)
    clear hn hkk HP
    have HSA : Hid (k < l.length → ∃ y, l[k]? = some y ∧ playF [] (l.take (k + 1)) = stepF (playF [] (l.take k)) y) := Lib.hid fun h => ⟨l[k], by rw [List.getElem?_eq_getElem h], playF_take [] l k h⟩
    have HSB : Hid (k < m.length → ∃ y, m[k]? = some y ∧ playF [] (m.take (k + 1)) = stepF (playF [] (m.take k)) y) := Lib.hid fun h => ⟨m[k], by rw [List.getElem?_eq_getElem h], playF_take [] m k h⟩
    have HNA : Hid (¬ k < l.length → playF [] (l.take (k + 1)) = playF [] (l.take k)) := Lib.hid fun h => by rw [List.take_of_length_le (by omega), List.take_of_length_le (by omega)]
    have HNB : Hid (¬ k < m.length → playF [] (m.take (k + 1)) = playF [] (m.take k)) := Lib.hid fun h => by rw [List.take_of_length_le (by omega), List.take_of_length_le (by omega)]
    have hk0 : (0 : Int) ≤ (k : Int) := by omega
    by_cases ca : k < l.length
    · by_cases cb : k < m.length
      · skip
        have da : decide ((k : Int) < (l.length : Int)) = true := decide_eq_true (by omega)
        have ia : (k : Int) < (l.length : Int) := by omega
        have db : decide ((k : Int) < (m.length : Int)) = true := decide_eq_true (by omega)
        have ib : (k : Int) < (m.length : Int) := by omega
        go_upto_region 12 with (fail)
        go_cut [65] (fun v wx => v = .bool false ∧ Pair (Tw p n4 (playF [] (l.take (k + 1))) (17 * k + 17)) (Tw n3 n5 (playF [] (m.take (k + 1))) (17 * k + 17)) (fun k => p ≤ k) wx ∧ Kept (fun k => p ≤ k) wr wx)
        case first =>
          as_aux_lemma =>
          obtain ⟨ada, hAda, x0, x1⟩ := HSC.out.steps.fresh HA.out k ca
          subst hAda
          obtain ⟨ya, hya, hsta⟩ := HSA.out ca
          rw [List.getElem?_eq_getElem ca] at hya
          injection hya with hya
          have HSTa := Lib.hid hsta
          have hox : StfOk w ya := by rw [← hya]; exact HOK.out _ (List.getElem_mem ca)
          have hnil : ya.Arg w := by rw [← hya]; exact HSC.out.xs _ (List.getElem_mem ca)
          rw [hya] at x0 x1
          have HX0 := Lib.hid x0
          have HX1 := Lib.hid x1
          obtain ⟨H, h1, h2, h3, h4⟩ := HPR.out.left (Tw.ob _ _ _ _) (Tw.ob _ _ _ _) (fun j e => Nat.le_trans HPW.out e)
          have HH4 := Lib.hid h4
          have HSTEP := Lib.hid (Step14_any p n4 (17 * k) _ ya H wr h1 h2 (by omega) (hox.fresh HA.out) hnil.vn hnil.mn (fun W hk => ⟨hox.v.fresh (HA.out.trans hk fun j hj e => by have := h3 j e; have := HWP.out; omega), hox.m.fresh (HA.out.trans hk fun j hj e => by have := h3 j e; have := HWP.out; omega)⟩))
          clear x0 x1 hsta hya hox hnil h1 h2 h3 h4
          go_wp2_with (refine wpList_unguard rfl ?_; refine load_stf rfl _ rfl _ rfl ya HX0.out HX1.out ?_)
          refine HSTEP.out.mono ?_
          clear HSTEP
          rintro r wa4 ⟨rfl, hn, hk4⟩
          obtain ⟨hp4, hk4⟩ := HH4.out _ _ (Tw.ob p n4 _ _) hn hk4
          rw [← HSTa.out] at hp4
          have HPa4 := Lib.hid hp4
          have HKa4 := Lib.hid ((Kept.refl _ _).trans hk4 fun _ _ e => e)
          have HAa4 := Lib.hid (HA.out.trans hk4 fun j hj e => by have := HWP.out; omega)
          have HWa4 := Lib.hid (Nat.le_trans HPW.out hk4.size)
          clear hn hp4 hk4 HH4 HX0 HX1
          obtain ⟨adb, hAdb, x0, x1⟩ := HSD.out.steps.fresh HAa4.out k cb
          subst hAdb
          obtain ⟨yb, hyb, hstb⟩ := HSB.out cb
          rw [List.getElem?_eq_getElem cb] at hyb
          injection hyb with hyb
          have HSTb := Lib.hid hstb
          have hox : StfOk w yb := by rw [← hyb]; exact HOM.out _ (List.getElem_mem cb)
          have hnil : yb.Arg w := by rw [← hyb]; exact HSD.out.xs _ (List.getElem_mem cb)
          rw [hyb] at x0 x1
          have HX0 := Lib.hid x0
          have HX1 := Lib.hid x1
          obtain ⟨H, h1, h2, h3, h4⟩ := HPa4.out.right (Tw.ob _ _ _ _) (Tw.ob _ _ _ _) (fun j e => Nat.le_trans HWa4.out e)
          have HH4 := Lib.hid h4
          have HSTEP := Lib.hid (Step14_any n3 n5 (17 * k) _ yb H wa4 h1 h2 (by omega) (hox.fresh HAa4.out) hnil.vn hnil.mn (fun W hk => ⟨hox.v.fresh (HAa4.out.trans hk fun j hj e => by have := h3 j e; have := HWP.out; omega), hox.m.fresh (HAa4.out.trans hk fun j hj e => by have := h3 j e; have := HWP.out; omega)⟩))
          clear x0 x1 hstb hyb hox hnil h1 h2 h3 h4
          go_wp2_with (refine wpList_unguard rfl ?_; refine load_stf rfl _ rfl _ rfl yb HX0.out HX1.out ?_)
          refine HSTEP.out.mono ?_
          clear HSTEP
          rintro r wb4 ⟨rfl, hn, hk4⟩
          obtain ⟨hp4, hk4⟩ := HH4.out _ _ (Tw.ob n3 n5 _ _) hn hk4
          rw [← HSTb.out] at hp4
          have HPb4 := Lib.hid hp4
          have HKb4 := Lib.hid (HKa4.out.trans hk4 fun _ _ e => e)
          have HAb4 := Lib.hid (HAa4.out.trans hk4 fun j hj e => by have := HWP.out; omega)
          have HWb4 := Lib.hid (Nat.le_trans HWa4.out hk4.size)
          clear hn hp4 hk4 HH4 HX0 HX1
          go_wp2_with (fail)
          go_meet
          case rel => exact ⟨rfl, HPb4.out, HKb4.out⟩
        case rest =>
          obtain ⟨rfl, hp, hk4⟩ := hcut
          have HP4 := Lib.hid hp
          have HK4 := Lib.hid (HK.out.trans hk4 fun _ _ e => e)
          clear hp hk4
          go_wp2_with (fail)
          go_roundw
          case rel => exact ⟨k + 1, by go_num, by omega, HP4.out, HK4.out, hll, hml⟩
          case measure => simp [intOf]; omega
      · skip
        have da : decide ((k : Int) < (l.length : Int)) = true := decide_eq_true (by omega)
        have ia : (k : Int) < (l.length : Int) := by omega
        have db : decide ((k : Int) < (m.length : Int)) = false := decide_eq_false (by omega)
        have ib : ¬ (k : Int) < (m.length : Int) := by omega
        go_upto_region 12 with (fail)
        go_cut [65] (fun v wx => v = .bool false ∧ Pair (Tw p n4 (playF [] (l.take (k + 1))) (17 * k + 17)) (Tw n3 n5 (playF [] (m.take (k + 1))) (17 * k + 17)) (fun k => p ≤ k) wx ∧ Kept (fun k => p ≤ k) wr wx)
        case first =>
          as_aux_lemma =>
          obtain ⟨ada, hAda, x0, x1⟩ := HSC.out.steps.fresh HA.out k ca
          subst hAda
          obtain ⟨ya, hya, hsta⟩ := HSA.out ca
          rw [List.getElem?_eq_getElem ca] at hya
          injection hya with hya
          have HSTa := Lib.hid hsta
          have hox : StfOk w ya := by rw [← hya]; exact HOK.out _ (List.getElem_mem ca)
          have hnil : ya.Arg w := by rw [← hya]; exact HSC.out.xs _ (List.getElem_mem ca)
          rw [hya] at x0 x1
          have HX0 := Lib.hid x0
          have HX1 := Lib.hid x1
          obtain ⟨H, h1, h2, h3, h4⟩ := HPR.out.left (Tw.ob _ _ _ _) (Tw.ob _ _ _ _) (fun j e => Nat.le_trans HPW.out e)
          have HH4 := Lib.hid h4
          have HSTEP := Lib.hid (Step14_any p n4 (17 * k) _ ya H wr h1 h2 (by omega) (hox.fresh HA.out) hnil.vn hnil.mn (fun W hk => ⟨hox.v.fresh (HA.out.trans hk fun j hj e => by have := h3 j e; have := HWP.out; omega), hox.m.fresh (HA.out.trans hk fun j hj e => by have := h3 j e; have := HWP.out; omega)⟩))
          clear x0 x1 hsta hya hox hnil h1 h2 h3 h4
          go_wp2_with (refine wpList_unguard rfl ?_; refine load_stf rfl _ rfl _ rfl ya HX0.out HX1.out ?_)
          refine HSTEP.out.mono ?_
          clear HSTEP
          rintro r wa4 ⟨rfl, hn, hk4⟩
          obtain ⟨hp4, hk4⟩ := HH4.out _ _ (Tw.ob p n4 _ _) hn hk4
          rw [← HSTa.out] at hp4
          have HPa4 := Lib.hid hp4
          have HKa4 := Lib.hid ((Kept.refl _ _).trans hk4 fun _ _ e => e)
          have HAa4 := Lib.hid (HA.out.trans hk4 fun j hj e => by have := HWP.out; omega)
          have HWa4 := Lib.hid (Nat.le_trans HPW.out hk4.size)
          clear hn hp4 hk4 HH4 HX0 HX1
          go_wp2_with (fail)
          go_meet
          case rel => exact ⟨rfl, by rw [HNB.out cb]; exact HPa4.out.snd_mono fun G => Tw.widen (by omega) G _, HKa4.out⟩
        case rest =>
          obtain ⟨rfl, hp, hk4⟩ := hcut
          have HP4 := Lib.hid hp
          have HK4 := Lib.hid (HK.out.trans hk4 fun _ _ e => e)
          clear hp hk4
          go_wp2_with (fail)
          go_roundw
          case rel => exact ⟨k + 1, by go_num, by omega, HP4.out, HK4.out, hll, hml⟩
          case measure => simp [intOf]; omega
    · by_cases cb : k < m.length
      · skip
        have da : decide ((k : Int) < (l.length : Int)) = false := decide_eq_false (by omega)
        have ia : ¬ (k : Int) < (l.length : Int) := by omega
        have db : decide ((k : Int) < (m.length : Int)) = true := decide_eq_true (by omega)
        have ib : (k : Int) < (m.length : Int) := by omega
        go_upto_region 12 with (fail)
        go_cut [65] (fun v wx => v = .bool false ∧ Pair (Tw p n4 (playF [] (l.take (k + 1))) (17 * k + 17)) (Tw n3 n5 (playF [] (m.take (k + 1))) (17 * k + 17)) (fun k => p ≤ k) wx ∧ Kept (fun k => p ≤ k) wr wx)
        case first =>
          as_aux_lemma =>
          obtain ⟨adb, hAdb, x0, x1⟩ := HSD.out.steps.fresh HA.out k cb
          subst hAdb
          obtain ⟨yb, hyb, hstb⟩ := HSB.out cb
          rw [List.getElem?_eq_getElem cb] at hyb
          injection hyb with hyb
          have HSTb := Lib.hid hstb
          have hox : StfOk w yb := by rw [← hyb]; exact HOM.out _ (List.getElem_mem cb)
          have hnil : yb.Arg w := by rw [← hyb]; exact HSD.out.xs _ (List.getElem_mem cb)
          rw [hyb] at x0 x1
          have HX0 := Lib.hid x0
          have HX1 := Lib.hid x1
          obtain ⟨H, h1, h2, h3, h4⟩ := HPR.out.right (Tw.ob _ _ _ _) (Tw.ob _ _ _ _) (fun j e => Nat.le_trans HPW.out e)
          have HH4 := Lib.hid h4
          have HSTEP := Lib.hid (Step14_any n3 n5 (17 * k) _ yb H wr h1 h2 (by omega) (hox.fresh HA.out) hnil.vn hnil.mn (fun W hk => ⟨hox.v.fresh (HA.out.trans hk fun j hj e => by have := h3 j e; have := HWP.out; omega), hox.m.fresh (HA.out.trans hk fun j hj e => by have := h3 j e; have := HWP.out; omega)⟩))
          clear x0 x1 hstb hyb hox hnil h1 h2 h3 h4
          go_wp2_with (refine wpList_unguard rfl ?_; refine load_stf rfl _ rfl _ rfl yb HX0.out HX1.out ?_)
          refine HSTEP.out.mono ?_
          clear HSTEP
          rintro r wb4 ⟨rfl, hn, hk4⟩
          obtain ⟨hp4, hk4⟩ := HH4.out _ _ (Tw.ob n3 n5 _ _) hn hk4
          rw [← HSTb.out] at hp4
          have HPb4 := Lib.hid hp4
          have HKb4 := Lib.hid ((Kept.refl _ _).trans hk4 fun _ _ e => e)
          have HAb4 := Lib.hid (HA.out.trans hk4 fun j hj e => by have := HWP.out; omega)
          have HWb4 := Lib.hid (Nat.le_trans HPW.out hk4.size)
          clear hn hp4 hk4 HH4 HX0 HX1
          go_wp2_with (fail)
          go_meet
          case rel => exact ⟨rfl, by rw [HNA.out ca]; exact HPb4.out.fst_mono (Tw.widen (by omega)), HKb4.out⟩
        case rest =>
          obtain ⟨rfl, hp, hk4⟩ := hcut
          have HP4 := Lib.hid hp
          have HK4 := Lib.hid (HK.out.trans hk4 fun _ _ e => e)
          clear hp hk4
          go_wp2_with (fail)
          go_roundw
          case rel => exact ⟨k + 1, by go_num, by omega, HP4.out, HK4.out, hll, hml⟩
          case measure => simp [intOf]; omega
      · skip
        have da : decide ((k : Int) < (l.length : Int)) = false := decide_eq_false (by omega)
        have ia : ¬ (k : Int) < (l.length : Int) := by omega
        have db : decide ((k : Int) < (m.length : Int)) = false := decide_eq_false (by omega)
        have ib : ¬ (k : Int) < (m.length : Int) := by omega
        obtain ⟨sa, hsa⟩ : ∃ sa, playF [] (l.take k) = sa := ⟨_, rfl⟩
        obtain ⟨sb, hsb⟩ : ∃ sb, playF [] (m.take k) = sb := ⟨_, rfl⟩
        rw [hsa, hsb] at HPR
        clear hsa hsb HSA HSB HNA HNB HOK HOM HSC HSD HK
        obtain ⟨w7, rfl⟩ : ∃ w7 : World, w7 = wr := ⟨_, rfl⟩
        obtain ⟨HL, q1, hG1, q3, q4⟩ := HPR.out.left (Tw.ob _ _ _ _) (Tw.ob _ _ _ _) (fun j e => Nat.le_trans HPW.out e)
        obtain ⟨HR, r1, hG2', r3, r4⟩ := HPR.out.right (Tw.ob _ _ _ _) (Tw.ob _ _ _ _) (fun j e => Nat.le_trans HPW.out e)
        have HPA := Lib.hid (show Pair (Fob p sa (17 * k)) (Rfb n4 sa) HL w7 from q1)
        have HPB := Lib.hid (show Pair (Fob n3 sb (17 * k)) (Rfb n5 sb) HR w7 from r1)
        clear q1 q3 q4 r1 r3 r4 hG1 hG2'
        go_wp2_with (fail)
        refine (Alike14_any _ _ _ _ _ w7 (HPA.out.fst (Fob.ob _ _ _)) (HPA.out.snd (Rfb.ob _ _))).mono ?_
        rintro r v31 ⟨rfl, hk⟩
        have HK31 := Lib.hid hk
        clear hk
        have HPB2 := Lib.hid ((Pair.ob (Fob.ob _ _ _) (Rfb.ob _ _)).fresh HPB.out HK31.out)
        go_wp2_with (fail)
        refine (Alike14_any _ _ _ _ _ v31 (HPB2.out.fst (Fob.ob _ _ _)) (HPB2.out.snd (Rfb.ob _ _))).mono ?_
        rintro r v32 ⟨rfl, hk⟩
        have HK32 := Lib.hid hk
        clear hk
        have HAF := Lib.hid ((HA.out.trans HK31.out fun _ _ e => e).trans HK32.out fun _ _ e => e)
        go_wp2_with (fail)
        refine (Known14_any v32).mono ?_
        rintro r wk ⟨rfl, hk⟩
        have HK := Lib.hid (HAF.out.trans hk fun _ _ e => e)
        clear hk
        go_wp2_with (fail)
        go_ret
        exact ⟨rfl, HK.out⟩
end Go.Proofs.Ythlejmpeigfdgaa
