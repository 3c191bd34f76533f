/- The walk of the law's known: it is true. No condition. -/
import Derived.Test.YthlejmpeigfdgaaFOb
namespace Go.Proofs.Ythlejmpeigfdgaa
open Go Go.RowKit

def kOwn : List Dt := [⟨1, 3⟩, ⟨2, 4⟩]
def kThree : List Dt := [⟨1, 3⟩]
def ks1 : List Fp := hear [] 2 kThree
def ks2 : List Fp := settle ks1 kOwn
theorem k_e1 : hearE 2 kThree = 0 := by decide +kernel
theorem k_f1 : frontier ks1 [1, 2] 1 kOwn = [] := by decide +kernel
theorem k_f2 : frontier ks2 [1, 2] 1 kOwn = kThree := by decide +kernel
theorem k_f3 : frontier ks2 [] 1 kOwn = kOwn := by decide +kernel
theorem k_h3 : heardF ks2 3 = false := by decide +kernel
theorem k_e0 : hearE 0 [] = 1 := by decide +kernel
def KnownPost (w : World) (e : Ending) (w' : World) : Prop := e = .returned (.bool true) ∧ Kept (fun _ => False) w w'
set_option maxRecDepth 100000 in
set_option maxHeartbeats 6400000 in
theorem Known14_any (w : World) : Calls Try.prog 10 #[] w (KnownPost w) := by
  go_enter Try.func10, Try.ntmps10
  go_wp2_with (fail)
  refine (FNew_any w).mono ?_
  rintro r w1 ⟨rfl, hf, hk⟩
  have HF := Lib.hid (show Fob w.heap.size [] 0 (fun k => w.heap.size ≤ k) w1 from ⟨_, _, 0, Nat.le_refl _, hf, fun k e => by omega⟩)
  have HK1 := Lib.hid hk
  have HPL := Lib.hid (show w.heap.size < w1.heap.size from hf.lt _ rfl)
  clear hf hk
  obtain ⟨p, hp⟩ : ∃ p, w.heap.size = p := ⟨_, rfl⟩
  have HWP := Lib.hid hp
  rw [hp] at HF HPL ⊢
  clear hp
  have hka : Kept (fun _ => False) w1 (w1.alloc (.cells #[.int .i64 1, .int .i64 3, .int .i64 2, .int .i64 4] 56)) := (Kept.refl _ _).alloc _
  have HO := Lib.hid (Own1.new w1 56 2 2 #[.int .i64 1, .int .i64 3, .int .i64 2, .int .i64 4] (dots kOwn) rfl rfl (by decide))
  have HP := Lib.hid (Pair.lay (Fob.ob _ _ _) (Own1.ob ..) HF.out hka HO.out (fun k e => by omega) (fun k e => by have := HPL.out; omega))
  have HK2 := Lib.hid (HK1.out.trans hka fun _ _ e => e)
  clear HO HF hka
  go_upto_region 5 with (fail)
  generalize hO : w1.heap.size = O at HP ⊢
  generalize w1.alloc (.cells #[.int .i64 1, .int .i64 3, .int .i64 2, .int .i64 4] 56) = w2 at HP HK2 ⊢
  have HPO := Lib.hid (show p < O by have := HPL.out; omega)
  clear hO HPL
  have hka : Kept (fun _ => False) w2 (w2.alloc (.cells #[.int .i64 1, .int .i64 3] 56)) := (Kept.refl _ _).alloc _
  have HT := Lib.hid (Own1.new w2 56 2 1 #[.int .i64 1, .int .i64 3] (dots kThree) rfl rfl (by decide))
  have HSZ := Lib.hid (show p ≤ w2.heap.size by have h1 := HK2.out.size; have h2 := HWP.out; omega)
  have HP2 := Lib.hid (HP.out.also (Fob.ob _ _ _) (Own1.ob ..) (Own1.ob ..) hka HT.out (fun k e => by omega) (fun k e => by have := HSZ.out; omega))
  have HK3 := Lib.hid (HK2.out.trans hka fun _ _ e => e)
  clear HP HT HK2 hka
  go_wp2_with (fail)
  generalize hT : w2.heap.size = T at HP2 ⊢
  generalize w2.alloc (.cells #[.int .i64 1, .int .i64 3] 56) = w3 at HP2 HK3 ⊢
  have HSW := Lib.hid (show p ≤ w3.heap.size by have h1 := HK3.out.size; have h2 := HWP.out; omega)
  clear hT HSZ
  obtain ⟨Ha, h1, h2, h3, h4⟩ := HP2.out.left (Ob.and (Own1.ob ..) (Own1.ob ..)) (Fob.ob _ _ _) (fun j e => Nat.le_trans HSW.out e)
  have hhear := h1.hear (m := 2) h2 (by decide) (by decide) (some ⟨T, 0, none⟩) kThree 1 (fun W' hk => DotsAt.of_own (Pair.stays (Ob.and (Own1.ob ..) (Own1.ob ..)) h4 hk).2.1) (by decide)
  rw [k_e1] at hhear
  have HH := Lib.hid hhear
  have H4 := Lib.hid h4
  clear h1 h2 h3 h4 hhear
  refine HH.out.mono ?_
  rintro r w4 ⟨rfl, hf, hk⟩
  obtain ⟨hp4, hk4⟩ := H4.out _ w4 (Fob.ob _ _ _) hf hk
  have HP4 := Lib.hid (hp4.snd_mono fun _ h => h.1)
  have HK4 := Lib.hid (HK3.out.trans hk4 fun k hk e => by have := HWP.out; omega)
  clear hf hk hp4 hk4 H4 HH HP2 HK3 HSW
  go_wp2_with (fail)
  have hka : Kept (fun _ => False) w4 (w4.alloc (.cells #[.int .i64 1, .int .i64 2] 3)) := (Kept.refl _ _).alloc _
  have HM5 := Lib.hid (IntsAt.new w4 [1, 2] 3 #[.int .i64 1, .int .i64 2] rfl)
  have HP5 := Lib.hid ((Pair.ob (Fob.ob _ _ _) (Own1.ob ..)).fresh HP4.out hka)
  have HK5 := Lib.hid (HK4.out.trans hka fun _ _ e => e)
  clear hka HP4 HK4
  generalize hM : w4.heap.size = M at HM5 ⊢
  generalize w4.alloc (.cells #[.int .i64 1, .int .i64 2] 3) = w5 at HM5 HP5 HK5 ⊢
  clear hM
  have hwf : ∀ m ∈ [(1 : Int), 2], (Lit.int .i64 m).wf = true := by decide
  have hfr := (HP5.out.fst (Fob.ob _ _ _)).frontier_ (some ⟨M, 0, none⟩) [1, 2] 2 1 (some ⟨O, 0, none⟩) kOwn 2 HM5.out (DotsAt.of_own (HP5.out.snd (Own1.ob ..)).1) (by decide) (by decide) hwf
  rw [show hear [] 2 kThree = ks1 from rfl] at hfr HP5
  rw [k_f1] at hfr
  have HFR := Lib.hid hfr
  clear hfr HM5
  refine HFR.out.mono ?_
  rintro r w6 ⟨A1, c1, rfl, -, hk⟩
  have HP6 := Lib.hid ((Pair.ob (Fob.ob _ _ _) (Own1.ob ..)).fresh HP5.out hk)
  have HK6 := Lib.hid (HK5.out.trans hk fun _ _ e => e)
  clear hk HFR HP5 HK5
  go_wp2_with (fail)
  have HSW := Lib.hid (show p ≤ w6.heap.size by have h1 := HK6.out.size; have h2 := HWP.out; omega)
  obtain ⟨Ha, h1, h2, h3, h4⟩ := HP6.out.left (Own1.ob ..) (Fob.ob _ _ _) (fun j e => Nat.le_trans HSW.out e)
  have hset := h1.settle h2 (by decide) (some ⟨O, 0, none⟩) kOwn 2 (fun W' hk => DotsAt.of_own (Pair.stays (Own1.ob ..) h4 hk).1) (by decide)
  rw [show settle ks1 kOwn = ks2 from rfl] at hset
  have HH := Lib.hid hset
  have H4 := Lib.hid h4
  clear h1 h2 h3 h4 hset
  refine HH.out.mono ?_
  rintro r w7 ⟨⟨u7, rfl⟩, hf, hk⟩
  obtain ⟨hp7, hk7⟩ := H4.out _ w7 (Fob.ob _ _ _) hf hk
  have HP7 := Lib.hid hp7
  have HK7 := Lib.hid (HK6.out.trans hk7 fun k hk e => by have := HWP.out; omega)
  clear hf hk hp7 hk7 H4 HH HP6 HK6 HSW
  go_wp2_with (fail)
  have hka : Kept (fun _ => False) w7 (w7.alloc (.cells #[.int .i64 1, .int .i64 2] 3)) := (Kept.refl _ _).alloc _
  have HM8 := Lib.hid (IntsAt.new w7 [1, 2] 3 #[.int .i64 1, .int .i64 2] rfl)
  have HP8 := Lib.hid ((Pair.ob (Fob.ob _ _ _) (Own1.ob ..)).fresh HP7.out hka)
  have HK8 := Lib.hid (HK7.out.trans hka fun _ _ e => e)
  clear hka HP7 HK7
  generalize hM : w7.heap.size = M2 at HM8 ⊢
  generalize w7.alloc (.cells #[.int .i64 1, .int .i64 2] 3) = w8 at HM8 HP8 HK8 ⊢
  clear hM
  have hfr := (HP8.out.fst (Fob.ob _ _ _)).frontier_ (some ⟨M2, 0, none⟩) [1, 2] 2 1 (some ⟨O, 0, none⟩) kOwn 2 HM8.out (DotsAt.of_own (HP8.out.snd (Own1.ob ..)).1) (by decide) (by decide) hwf
  rw [k_f2] at hfr
  have HFR := Lib.hid hfr
  clear hfr HM8 hwf
  refine HFR.out.mono ?_
  rintro r w9 ⟨A2, c2, rfl, hb, hk⟩
  have HSW8 := Lib.hid (show p ≤ w8.heap.size by have h1 := HK8.out.size; have h2 := HWP.out; omega)
  have HP9 := Lib.hid (HP8.out.also (C := Own1 56 2 (.slice A2 kThree.length c2) kThree.length (dots kThree)) (Fob.ob _ _ _) (Own1.ob ..) (Own1.ob ..) hk (Fc := fun k => (Value.slice A2 kThree.length c2).ownBlock = some k) ⟨own_base hb (Nat.zero_le _), fun k e => e⟩ (fun k e => (hb.lt k e).1) (fun k e => by have := HSW8.out; omega))
  have HK9 := Lib.hid (HK8.out.trans hk fun _ _ e => e)
  clear hb hk HFR HP8 HK8 HSW8
  go_wp2_with (fail)
  have hrow := (HP9.out.fst (Fob.ob _ _ _)).row_ (m := 3) (by decide)
  rw [k_h3] at hrow
  have HRW := Lib.hid hrow
  clear hrow
  refine HRW.out.mono ?_
  rintro r w10 ⟨A3, c3, rfl, -, hk⟩
  have HP10 := Lib.hid ((Pair.ob (Fob.ob _ _ _) (Ob.and (Own1.ob ..) (Own1.ob ..))).fresh HP9.out hk)
  have HK10 := Lib.hid (HK9.out.trans hk fun _ _ e => e)
  clear hk HRW HP9 HK9
  go_wp2_with (fail)
  have HSW := Lib.hid (show p ≤ w10.heap.size by have h1 := HK10.out.size; have h2 := HWP.out; omega)
  obtain ⟨Ha, h1, h2, h3, h4⟩ := HP10.out.left (Ob.and (Own1.ob ..) (Own1.ob ..)) (Fob.ob _ _ _) (fun j e => Nat.le_trans HSW.out e)
  have hhear := h1.hear (m := 0) h2 (by decide) (by decide) none [] 0 (fun W' hk => DotsAt.nil) (by decide)
  rw [k_e0, show hear ks2 0 [] = ks2 from if_neg (by rw [k_e0]; decide)] at hhear
  have HH := Lib.hid hhear
  have H4 := Lib.hid h4
  clear h1 h2 h3 h4 hhear
  refine HH.out.mono ?_
  rintro r w11 ⟨rfl, hf, hk⟩
  obtain ⟨hp11, hk11⟩ := H4.out _ w11 (Fob.ob _ _ _) hf hk
  have HP11 := Lib.hid hp11
  have HK11 := Lib.hid (HK10.out.trans hk11 fun k hk e => by have := HWP.out; omega)
  clear hf hk hp11 hk11 H4 HH HP10 HK10 HSW
  go_wp2_with (fail)
  have hka : Kept (fun _ => False) w11 (w11.alloc (.cells #[.int .i64 1, .int .i64 3] 56)) := (Kept.refl _ _).alloc _
  have HT := Lib.hid (DotsAt.new w11 kThree 56 #[.int .i64 1, .int .i64 3] rfl)
  have HP12 := Lib.hid ((Pair.ob (Fob.ob _ _ _) (Ob.and (Own1.ob ..) (Own1.ob ..))).fresh HP11.out hka)
  have HK12 := Lib.hid (HK11.out.trans hka fun _ _ e => e)
  clear hka HP11 HK11
  generalize hT : w11.heap.size = T2 at HT ⊢
  generalize w11.alloc (.cells #[.int .i64 1, .int .i64 3] 56) = w12 at HT HP12 HK12 ⊢
  clear hT
  have hve := vectors_any A2 (some ⟨T2, 0, none⟩) kThree kThree c2 1 w12 (DotsAt.of_own (HP12.out.snd (Ob.and (Own1.ob ..) (Own1.ob ..))).2.1) HT.out (by decide)
  rw [decide_eq_true (rfl : kThree = kThree)] at hve
  have HVE := Lib.hid hve
  clear hve HT
  refine HVE.out.mono ?_
  unfold SamePost
  rintro r w13 ⟨rfl, hk⟩
  have HP13 := Lib.hid ((Pair.ob (Fob.ob _ _ _) (Ob.and (Own1.ob ..) (Own1.ob ..))).fresh HP12.out hk)
  have HK13 := Lib.hid (HK12.out.trans hk fun _ _ e => e)
  clear hk HVE HP12 HK12
  go_wp2_with (fail)
  have hfr := (HP13.out.fst (Fob.ob _ _ _)).frontier_ none [] 0 1 (some ⟨O, 0, none⟩) kOwn 2 IntsAt.nil (DotsAt.of_own (HP13.out.snd (Ob.and (Own1.ob ..) (Own1.ob ..))).1.1) (by decide) (by decide) (by simp)
  rw [k_f3] at hfr
  have HFR := Lib.hid hfr
  clear hfr
  refine HFR.out.mono ?_
  rintro r w14 ⟨A4, c4, rfl, hb, hk⟩
  have HB14 := Lib.hid (DotsAt.of_own hb)
  have HO14 := Lib.hid (DotsAt.of_own (hk.own (HP13.out.snd (Ob.and (Own1.ob ..) (Own1.ob ..))).1.1 fun _ _ => id))
  have HK14 := Lib.hid (HK13.out.trans hk fun _ _ e => e)
  clear hk hb HFR HP13 HK13
  go_wp2_with (fail)
  have hve := vectors_any A4 (some ⟨O, 0, none⟩) kOwn kOwn c4 2 w14 HB14.out HO14.out (by decide)
  rw [decide_eq_true (rfl : kOwn = kOwn)] at hve
  have HVE := Lib.hid hve
  clear hve
  refine HVE.out.mono ?_
  unfold SamePost
  rintro r w15 ⟨rfl, hk⟩
  have HK15 := Lib.hid (HK14.out.trans hk fun _ _ e => e)
  clear hk HVE
  go_wp2_with (fail)
  go_ret
  exact ⟨rfl, HK15.out⟩
end Go.Proofs.Ythlejmpeigfdgaa
