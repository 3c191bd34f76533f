/- The walk of FrontPlays: it is true. Conditions: the script lies in memory. -/
import Derived.Test.YthlejmpeigfdgaaFAlk
namespace Go.Proofs.Ythlejmpeigfdgaa
open Go Go.RowKit

def playF (s : List Fp) (l : List Stf) : List Fp := l.foldl stepF s
theorem playF_take (s : List Fp) (l : List Stf) (k : Nat) (h : k < l.length) : playF s (l.take (k + 1)) = stepF (playF s (l.take k)) l[k] := by
  unfold playF
  rw [List.take_succ_eq_append_getElem h, List.foldl_append]
  rfl
theorem Fob.new (w : World) (n : Nat) (hn : n ≤ w.heap.size) : Calls Try.prog 11 #[] w fun r w' => r = .returned (.pointer (some ⟨w.heap.size, 0, none⟩)) ∧ Fob w.heap.size [] 0 (fun k => n ≤ k) w' ∧ Kept (fun _ => False) w w' := by
  refine (FNew_any w).mono ?_
  rintro r w' ⟨h1, h2, h3⟩
  exact ⟨h1, ⟨_, _, 0, Nat.le_refl _, h2, fun k e => by omega⟩, h3⟩
theorem Rfb.new (w : World) : Calls Try.prog 12 #[] w fun r w' => r = .returned (.pointer (some ⟨w.heap.size, 0, none⟩)) ∧ Rfb w.heap.size [] (fun k => w.heap.size ≤ k) w' ∧ Kept (fun _ => False) w w' := by
  refine (RFNew_any w).mono ?_
  rintro r w' ⟨h1, h2, h3⟩
  exact ⟨h1, ⟨_, h2, fun k e => by omega⟩, h3⟩
set_option maxRecDepth 100000 in
set_option maxHeartbeats 12800000 in
theorem Plays_walk (A : Option Addr) (c : Nat) (l : List Stf) (w : World) (h : ScfAt w A l) (hl : l.length ≤ 4611686018427387904) :
    Calls Try.prog 3 #[.slice A l.length c] w (KnownPost w) := by
  have HSC := Lib.hid h
  clear h
  go_enter Try.func3, Try.ntmps3
  go_wp2_with (fail)
  refine (Much14_any A l c w HSC.out.steps hl).mono ?_
  rintro r w1 ⟨rfl, hk⟩
  have HA1 := Lib.hid hk
  clear hk
  obtain ⟨bm, hbm⟩ : ∃ bm, muchF l = bm := ⟨_, rfl⟩
  rw [hbm]
  have HBM := Lib.hid hbm
  clear hbm
  cases bm with
  | true =>
    as_aux_lemma =>
    go_wp2_with (fail)
    refine (Known14_any w1).mono ?_
    rintro r w2 ⟨rfl, hk⟩
    have HK := Lib.hid (HA1.out.trans hk fun _ _ e => e)
    clear hk
    go_wp2_with (fail)
    go_ret
    exact ⟨rfl, HK.out⟩
  | false =>
  obtain ⟨hok, hll⟩ := HSC.out.ok HBM.out
  have HOK := Lib.hid hok
  clear hok HBM hl
  go_wp2_with (fail)
  refine (Fob.new w1 w1.heap.size (Nat.le_refl _)).mono ?_
  rintro r w2 ⟨rfl, hn, hk⟩
  have HN2 := Lib.hid ((Fob.ob _ _ _).cut hn)
  have HA2 := Lib.hid (HA1.out.trans hk fun _ _ e => e)
  have HWP := Lib.hid HA1.out.size
  have HPS := Lib.hid hk.size
  clear hn hk HA1
  obtain ⟨p, hp⟩ : ∃ p, w1.heap.size = p := ⟨_, rfl⟩
  rw [hp] at HN2 HWP HPS ⊢
  clear hp
  go_wp2_with (fail)
  refine (Rfb.new w2).mono ?_
  rintro r w3 ⟨rfl, hn, hk⟩
  have HP := Lib.hid (show Pair (Fob p [] 0) (Rfb w2.heap.size []) (fun k => p ≤ k) w3 from Pair.make (Fob.ob _ _ _) (Rfb.ob _ _) ((Fob.ob _ _ _).fresh HN2.out hk) hn (fun k e1 e2 e3 => by omega) (fun k e => e.1) (fun k e => Nat.le_trans HPS.out e))
  have HA3 := Lib.hid (HA2.out.trans hk fun _ _ e => e)
  have HPS := Lib.hid (Nat.le_trans HPS.out hk.size)
  clear hn hk HA2 HN2
  obtain ⟨q, hq⟩ : ∃ q, w2.heap.size = q := ⟨_, rfl⟩
  rw [hq] at HP ⊢
  clear hq
  go_wp2_with (fail)
  go_loopw [5] (fun i wr => ∃ k : Nat, i = .int .i64 k ∧ k ≤ l.length ∧ Pair (Fob p (playF [] (l.take k)) (17 * k)) (Rfb q (playF [] (l.take k))) (fun k => p ≤ k) wr ∧ Kept (fun k => p ≤ k) w3 wr) (fun i _ => l.length - (intOf i).toNat)
  case atStart => exact ⟨0, rfl, Nat.zero_le _, HP.out, Kept.refl _ _⟩
  case round =>
    obtain ⟨k, rfl, hk, hn, hkk⟩ := hrel
    have HPR := Lib.hid hn
    have HK := Lib.hid hkk
    have HA := Lib.hid (HA3.out.trans hkk fun j hj e => by have := HWP.out; omega)
    have HPW := Lib.hid (Nat.le_trans HPS.out hkk.size)
    clear hn hkk HP
    by_cases hlt : k < l.length
    · as_aux_lemma =>
      obtain ⟨ad, rfl, x0, x1⟩ := HSC.out.steps.fresh HA.out k hlt
      have HST := Lib.hid (playF_take [] l k hlt)
      obtain ⟨y, hy⟩ : ∃ y, l[k] = y := ⟨_, rfl⟩
      have HOX := Lib.hid (show StfOk w y by rw [← hy]; exact HOK.out l[k] (List.getElem_mem hlt))
      have HARG := Lib.hid (show y.Arg w by rw [← hy]; exact HSC.out.xs l[k] (List.getElem_mem hlt))
      rw [hy] at x0 x1 HST
      have HX0 := Lib.hid x0
      have HX1 := Lib.hid x1
      clear x0 x1 hy
      obtain ⟨s0, hs0⟩ : ∃ s0, playF [] (l.take k) = s0 := ⟨_, rfl⟩
      rw [hs0] at HPR HST
      clear hs0
      have hstep := Step14_any p q (17 * k) s0 y (fun k => p ≤ k) wr HPR.out (fun j e => Nat.le_trans HPW.out e) (by omega) (HOX.out.fresh HA.out) HARG.out.vn HARG.out.mn (fun W hk => by
        have := HA.out.trans hk (S := fun _ => False) fun j hj e => by have := HWP.out; omega
        exact ⟨HOX.out.v.fresh this, HOX.out.m.fresh this⟩)
      obtain ⟨s1, hs1⟩ : ∃ s1, stepF s0 y = s1 := ⟨_, rfl⟩
      rw [hs1] at hstep HST
      have HSTEP := Lib.hid hstep
      clear hs1 hstep
      have hi0 : (0 : Int) ≤ (k : Int) := by omega
      have hin : (k : Int) < (l.length : Int) := by omega
      go_wp2_with (refine load_stf rfl _ rfl _ rfl y HX0.out HX1.out ?_)
      refine HSTEP.out.mono ?_
      rintro r w4 ⟨rfl, hp, hk4⟩
      have HP4 := Lib.hid hp
      have HK4 := Lib.hid (HK.out.trans hk4 fun _ _ e => e)
      clear hp hk4 HX0 HX1 HSTEP HPR
      go_wp2_with (fail)
      refine (Alike14_any p q _ s1 _ w4 (HP4.out.fst (Fob.ob _ _ _)) (HP4.out.snd (Rfb.ob _ _))).mono ?_
      rintro r w5 ⟨rfl, hk⟩
      have HP5 := Lib.hid ((Pair.ob (Fob.ob _ _ _) (Rfb.ob _ _)).fresh HP4.out hk)
      have HK5 := Lib.hid (HK4.out.trans hk fun _ _ e => e.elim)
      clear hk HP4 HK4
      go_wp2_with (fail)
      go_roundw
      case rel => exact ⟨k + 1, by go_num, by omega, by rw [HST.out]; exact HP5.out.fst_mono (Fob.widen (by omega)), HK5.out⟩
      case measure => simp [intOf]; omega
    · obtain rfl : k = l.length := by omega
      as_aux_lemma =>
      go_wp2_with (fail)
      refine (Alike14_any p q _ _ _ wr (HPR.out.fst (Fob.ob _ _ _)) (HPR.out.snd (Rfb.ob _ _))).mono ?_
      rintro r w4 ⟨rfl, hk⟩
      have HK4 := Lib.hid (HA.out.trans hk fun _ _ e => e)
      clear hk
      go_wp2_with (fail)
      refine (Known14_any w4).mono ?_
      rintro r w5 ⟨rfl, hk⟩
      have HK5 := Lib.hid (HK4.out.trans hk fun _ _ e => e)
      clear hk
      go_wp2_with (fail)
      go_ret
      exact ⟨rfl, HK5.out⟩
end Go.Proofs.Ythlejmpeigfdgaa
