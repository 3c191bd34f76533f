/- The walk of op.Take, for one kind. Conditions: the Reader lies in memory; what is taken is small. · The walk of op.Take, whole. Conditions: the Reader lies in memory; what is taken is small. · The walk of op.Decode. Conditions: the bytes lie in memory; what is taken is small. · The walks of the law's twin and bytes. Conditions: all lies in memory; nothing is longer than a million. -/
import Derived.Test.YtnlklhlnnoihiaaMO33
namespace Go.Proofs.Ytnlklhlnnoihiaa
open Go Go.RowKit

theorem intoV_deps (o : Opr) (s : Rd) : (intoV o s).2.1.deps = o.deps := by
  unfold intoV
  split
  · rfl
  · split
    · rfl
    · split <;> rfl
theorem take_out {w W : World} {d g : Nat} {tmps : Array Value} {cs : Array Value} {e : Int} {s' : Rd} {x : Int × Opr × Rd} (h2 : tmps.getD 2 undef = .pointer (some ⟨w.heap.size, 0, none⟩)) (h3 : tmps.getD 3 undef = .pointer (some ⟨w.heap.size + 1, 0, none⟩))
    (hb : Box W w.heap.size 30 cs) (hs : cs.size = 11) (he : Box W (w.heap.size + 1) 36 #[.int .i64 0]) (hr : RdAt W d g s') (hk : Kept (fun k => k = g) w W) (hg : g < w.heap.size) (hd : d < w.heap.size) (hx : x = (e, zeroO, s')) :
    bodyPostD Try.prog Try.f26 (TakeOPost w d g x) (Exit.panic [{ v := .iface 96 (.agg #[.int .i64 e]), recovered := false }]) { tmps := tmps, defers := [{ target := .fn (.func 56) #[.pointer (some ⟨w.heap.size, 0, none⟩), .pointer (some ⟨w.heap.size + 1, 0, none⟩)], args := #[] }] } W := by
  refine take_panics h2 h3 hb hs he (by omega) fun W' hkW => ?_
  subst hx
  exact ⟨none, 0, none, 0, rfl, World.ownsRow_nil _ _ _ _, World.ownsRow_nil _ _ _ _, hk.trans hkW fun k hlt e => by omega, hr.kept hkW (by omega) (by omega)⟩
/-- What a kind's into does. -/
def IntoAny (kd : Nat) (d g K : Nat) (r : Value) : Prop := ∀ (W : World) (G : Nat) (s' : Rd) (o : Opr) (dA : Option Addr) (dc : Nat), o.kind = kd → o.gone = [] → RdAt W d g s' → Box W G 30 (o.cells dA dc none 0) → G ≠ g → G ≠ d →
  Calls Try.prog K #[r, .pointer (some ⟨G, 0, none⟩), .pointer (some ⟨g, 0, none⟩)] W (IntoPost W d g G (intoV o s').2.2 (intoV o s').1 fun w' => ∃ gA gc, Box w' G 30 ((intoV o s').2.1.cells dA dc gA gc) ∧
    w'.ownsRow W.heap.size 32 3 (.slice gA (intoV o s').2.1.gone.length gc) (intoV o s').2.1.gone.length (runs (intoV o s').2.1.gone))
set_option maxRecDepth 100000 in
set_option maxHeartbeats 3200000 in
theorem OpTake_kind (d g : Nat) (s : Rd) (w : World) (kd : Nat) (T : TypeId) (v : Value) (K : Nat) (r : Value) (h : RdAt w d g s) (hs1 : s.nx.e = 0) (hkd : s.val = kd) (hk1 : 1 ≤ kd) (hk4 : kd ≤ 4)
    (HOF : Hid (∀ W, Calls Try.prog 45 #[.agg (({ zeroO with kind := kd } : Opr).cells none 0 none 0)] W (OfPost W (.iface T v))))
    (hm : ∀ W : World, (method 270 T v "hearsay/op.into").run Try.prog W = .ok (K, r) W) (hcf : ∀ (W : World) (a : Array Value), (callFunc K a).run Try.prog W = .ok (.enter K a) W)
    (HP : Hid (IntoAny kd d g K r)) (HSM : Hid ((takeR s).1 = 0 → (takeR s).2.1.Small)) :
    Calls Try.prog 26 #[.pointer (some ⟨g, 0, none⟩)] w (TakeOPost w d g (takeO s)) := by
  have hgl : g < w.heap.size := h.at_.lt
  have hdl : d < w.heap.size := h.at_.dlt
  have hmf : ∀ (fn : Fn) (first cap : Array Value) (w : World), (Instr.makeFunc fn first cap).run Try.prog w = .ok (.func fn first cap) w := fun _ _ _ _ => rfl
  have hnv : ¬ (s.val < 1 ∨ 4 < s.val) := by omega
  have HTa := Lib.hid (show s.nx.nx.nx.e ≠ 0 → takeO s = (s.nx.nx.nx.e, zeroO, s.nx.nx.nx) from fun h => by
    have : takeR s = (s.nx.nx.nx.e, zeroO, s.nx.nx.nx) := by unfold takeR; rw [if_neg (fun e => e hs1), if_neg hnv, if_pos h]
    unfold takeO; rw [this, if_pos h])
  have HTb := Lib.hid (show s.nx.nx.nx.e = 0 → (takeV s.nx.nx.nx).1 ≠ 0 → takeO s = ((takeV s.nx.nx.nx).1, zeroO, (takeV s.nx.nx.nx).2.2) from fun h h' => by
    have : takeR s = ((takeV s.nx.nx.nx).1, zeroO, (takeV s.nx.nx.nx).2.2) := by unfold takeR; rw [if_neg (fun e => e hs1), if_neg hnv, if_neg (fun e => e h), if_pos h']
    unfold takeO; rw [this, if_pos h'])
  have HTc := Lib.hid (show s.nx.nx.nx.e = 0 → (takeV s.nx.nx.nx).1 = 0 → takeR s = intoV { zeroO with dot := ⟨s.nx.val, s.nx.nx.val⟩, deps := (takeV s.nx.nx.nx).2.1, kind := kd } (takeV s.nx.nx.nx).2.2 from fun h h' => by
    unfold takeR; rw [if_neg (fun e => e hs1), if_neg hnv, if_neg (fun e => e h), if_neg (fun e => e h'), hkd])
  have hk0 : Kept (fun _ => False) w ((w.alloc (.cells zeroC 30)).alloc (.cells #[.int .i64 0] 36)) := ((Kept.refl _ _).alloc _).alloc _
  have HK := Lib.hid (show Kept (fun k => k = g) w ((w.alloc (.cells zeroC 30)).alloc (.cells #[.int .i64 0] 36)) from hk0.more fun _ _ e => e.elim)
  have HR := Lib.hid (h.fresh hk0)
  have HB := Lib.hid ((Box.new w 30 zeroC).alloc (.cells #[.int .i64 0] 36))
  have HE := Lib.hid ((Box.new (w.alloc (.cells zeroC 30)) 36 #[.int .i64 0]).at_eq (show _ = w.heap.size + 1 by simp))
  have HS1 := Lib.hid hs1
  have HKV := Lib.hid hkd
  clear h hk0 hs1 hnv hkd
  go_enter_defers Try.func26, Try.ntmps26
  go_upto_region 2 with (fail)
  have hzz : (w.alloc (.cells #[.int .i64 0, .int .i64 0, .slice none 0 0, .int .i64 0, .int .i64 0, .int .i64 0, .int .i64 0, .int .i64 0, .string ⟨#[]⟩, .slice none 0 0, .int .i64 0] 30)) = w.alloc (.cells zeroC 30) := rfl
  rw [hzz]
  clear hzz
  generalize (w.alloc (.cells zeroC 30)).alloc (.cells #[.int .i64 0] 36) = w0 at HK HR HB HE ⊢
  go_wp2_with (fail)
  refine (number_ok d g s w0 HR.out HS1.out).mono ?_

  rw [show RdPost w0 d g s = fun r w' => r = .returned (.int .i64 (kd : Int)) ∧ Kept (fun k => k = g) w0 w' ∧ RdAt w' d g s.nx from by rw [← HKV.out]; rfl]
  rintro r w1 ⟨rfl, hk, hr⟩
  have HB' := Lib.hid (HB.out.kept hk (by omega))
  have HE' := Lib.hid (HE.out.kept hk (by omega))
  have HK' := Lib.hid (HK.out.trans hk fun k _ e => e)
  have HR' := Lib.hid hr
  clear hk hr HB HE HR HK
  have HB := HB'
  have HE := HE'
  have HR := HR'
  have HK := HK'
  clear HB' HE' HR' HK'
  rw [← zeroO_c] at HB
  have x0 : w1.cell? ⟨w.heap.size, 3, none⟩ = some (.int .i64 0) := (HB.out.cell 3).trans rfl
  have f0 : w1.frozen? ⟨w.heap.size, 3, none⟩ = false := HB.out.frozen 3
  have hks : Kept (fun k => k = w.heap.size) w1 (w1.setCell ⟨w.heap.size, 3, none⟩ (.int .i64 kd)) := (Kept.refl (fun k => k = w.heap.size) _).at 3 _ (.inl rfl)
  have HB' := Lib.hid (show Box (w1.setCell ⟨w.heap.size, 3, none⟩ (.int .i64 kd)) w.heap.size 30 ((({ zeroO with kind := kd } : Opr).cells none 0 none 0)) from by simpa [Opr.cells, zeroO, zeroC] using HB.out.set 3 (.int .i64 kd))
  have HE' := Lib.hid (HE.out.kept hks (by omega))
  have HR' := Lib.hid (HR.out.kept hks (by omega) (by omega))
  have HK' := Lib.hid (HK.out.trans hks fun k hk e => by omega)
  clear hks HB HE HR HK
  have HB := HB'
  have HE := HE'
  have HR := HR'
  have HK := HK'
  clear HB' HE' HR' HK'
  go_upto_region 3 with (fail)
  clear x0 f0
  generalize w1.setCell ⟨w.heap.size, 3, none⟩ (.int .i64 kd) = w2 at HB HE HR HK ⊢
  generalize s.nx = s1 at *
  go_wp2_with (refine wpList_load_op rfl _ rfl w.heap.size rfl _ (({ zeroO with kind := kd } : Opr).cells none 0 none 0) rfl HB.out ?_)
  refine (HOF.out w2).mono ?_
  unfold OfPost
  rintro r w3 ⟨rfl, hk⟩
  have HB' := Lib.hid (HB.out.kept hk id)
  have HE' := Lib.hid (HE.out.kept hk id)
  have HR' := Lib.hid (HR.out.fresh hk)
  have HK' := Lib.hid (HK.out.trans hk fun _ _ e => e.elim)
  clear hk HB HE HR HK HOF
  have HB := HB'
  have HE := HE'
  have HR := HR'
  have HK := HK'
  clear HB' HE' HR' HK'
  go_wp2_with (fail)
  by_cases he2 : s1.nx.e ≠ 0
  · refine (number_no d g s1 w3 HR.out he2).mono ?_
    unfold refE
    rintro r w1 ⟨rfl, hk, hr⟩
    go_wp2_with (fail)
    exact take_out rfl rfl (HB.out.kept hk (by omega)) rfl (HE.out.kept hk (by omega)) hr (HK.out.trans hk fun k _ e => e) hgl hdl (by rw [HTa.out (by rw [(Rd.stop he2).2]; exact he2), (Rd.stop he2).2])
  · have he2' : s1.nx.e = 0 := by omega
    refine (number_ok d g s1 w3 HR.out he2').mono ?_
    rintro r w1 ⟨rfl, hk, hr⟩
    have HB' := Lib.hid (HB.out.kept hk (by omega))
    have HE' := Lib.hid (HE.out.kept hk (by omega))
    have HK' := Lib.hid (HK.out.trans hk fun k _ e => e)
    have HR' := Lib.hid hr
    clear hk hr HB HE HR HK
    have HB := HB'
    have HE := HE'
    have HR := HR'
    have HK := HK'
    clear HB' HE' HR' HK'
    have x0 : w1.cell? ⟨w.heap.size, 0, none⟩ = some (.int .i64 0) := (HB.out.cell 0).trans rfl
    have f0 : w1.frozen? ⟨w.heap.size, 0, none⟩ = false := HB.out.frozen 0
    have hks : Kept (fun k => k = w.heap.size) w1 (w1.setCell ⟨w.heap.size, 0, none⟩ (.int .i64 s1.val)) := (Kept.refl (fun k => k = w.heap.size) _).at 0 _ (.inl rfl)
    have HB' := Lib.hid (show Box (w1.setCell ⟨w.heap.size, 0, none⟩ (.int .i64 s1.val)) w.heap.size 30 ((({ zeroO with kind := kd, dot := ⟨s1.val, 0⟩ } : Opr).cells none 0 none 0)) from by simpa [Opr.cells, zeroO, zeroC] using HB.out.set 0 (.int .i64 s1.val))
    have HE' := Lib.hid (HE.out.kept hks (by omega))
    have HR' := Lib.hid (HR.out.kept hks (by omega) (by omega))
    have HK' := Lib.hid (HK.out.trans hks fun k hk e => by omega)
    clear hks HB HE HR HK
    have HB := HB'
    have HE := HE'
    have HR := HR'
    have HK := HK'
    clear HB' HE' HR' HK'
    go_upto_region 7 with (fail)
    clear x0 f0
    generalize w1.setCell ⟨w.heap.size, 0, none⟩ (.int .i64 s1.val) = w4 at HB HE HR HK ⊢
    go_wp2_with (fail)
    by_cases he3 : s1.nx.nx.e ≠ 0
    · refine (number_no d g s1.nx w4 HR.out he3).mono ?_
      unfold refE
      rintro r w1 ⟨rfl, hk, hr⟩
      go_wp2_with (fail)
      exact take_out rfl rfl (HB.out.kept hk (by omega)) rfl (HE.out.kept hk (by omega)) hr (HK.out.trans hk fun k _ e => e) hgl hdl (by rw [HTa.out he3])
    · have he3' : s1.nx.nx.e = 0 := by omega
      refine (number_ok d g s1.nx w4 HR.out he3').mono ?_
      rintro r w1 ⟨rfl, hk, hr⟩
      have HB' := Lib.hid (HB.out.kept hk (by omega))
      have HE' := Lib.hid (HE.out.kept hk (by omega))
      have HK' := Lib.hid (HK.out.trans hk fun k _ e => e)
      have HR' := Lib.hid hr
      clear hk hr HB HE HR HK
      have HB := HB'
      have HE := HE'
      have HR := HR'
      have HK := HK'
      clear HB' HE' HR' HK'
      have x0 : w1.cell? ⟨w.heap.size, 1, none⟩ = some (.int .i64 0) := (HB.out.cell 1).trans rfl
      have f0 : w1.frozen? ⟨w.heap.size, 1, none⟩ = false := HB.out.frozen 1
      have hks : Kept (fun k => k = w.heap.size) w1 (w1.setCell ⟨w.heap.size, 1, none⟩ (.int .i64 s1.nx.val)) := (Kept.refl (fun k => k = w.heap.size) _).at 1 _ (.inl rfl)
      have HB' := Lib.hid (show Box (w1.setCell ⟨w.heap.size, 1, none⟩ (.int .i64 s1.nx.val)) w.heap.size 30 ((({ zeroO with kind := kd, dot := ⟨s1.val, s1.nx.val⟩ } : Opr).cells none 0 none 0)) from by simpa [Opr.cells, zeroO, zeroC] using HB.out.set 1 (.int .i64 s1.nx.val))
      have HE' := Lib.hid (HE.out.kept hks (by omega))
      have HR' := Lib.hid (HR.out.kept hks (by omega) (by omega))
      have HK' := Lib.hid (HK.out.trans hks fun k hk e => by omega)
      clear hks HB HE HR HK
      have HB := HB'
      have HE := HE'
      have HR := HR'
      have HK := HK'
      clear HB' HE' HR' HK'
      go_upto_region 8 with (fail)
      clear x0 f0
      generalize w1.setCell ⟨w.heap.size, 1, none⟩ (.int .i64 s1.nx.val) = w5 at HB HE HR HK ⊢
      have hN5 : w.heap.size + 1 < w5.heap.size := HE.out.lt
      go_wp2_with (fail)
      refine (Take_any d g s1.nx.nx w5 HR.out).mono ?_
      have HTb' := Lib.hid (HTb.out he3')
      have HTc' := Lib.hid (HTc.out he3')
      clear HTa HTb HTc he2 he3 he2' he3'
      generalize takeV s1.nx.nx = V at HTb' HTc' ⊢
      generalize s1.nx.val = sq at *
      generalize s1.val = st at *
      obtain ⟨ve, deps, s4⟩ := V
      simp only at HTb' HTc' ⊢
      rintro r w6 ⟨dA, dc, rfl, ho, hk, hr⟩
      have HO := Lib.hid ho
      have HB' := Lib.hid (HB.out.kept hk (by omega))
      have HE' := Lib.hid (HE.out.kept hk (by omega))
      have HK' := Lib.hid (HK.out.trans hk fun k _ e => e)
      have HR' := Lib.hid hr
      clear hk hr HB HE HR HK
      have HB := HB'
      have HE := HE'
      have HR := HR'
      have HK := HK'
      clear HB' HE' HR' HK'
      by_cases hve : ve ≠ 0
      · have hne : (ve != 0) = true := bne_iff_ne.2 hve
        go_wp2_with (fail)
        exact take_out rfl rfl HB.out rfl HE.out HR.out HK.out hgl hdl (HTb'.out hve)
      · obtain rfl : ve = 0 := by omega
        have HTR := Lib.hid (HTc'.out rfl)
        clear HTb' HTc' hve ho
        have x0 : w6.cell? ⟨w.heap.size, 2, none⟩ = some (.slice none 0 0) := (HB.out.cell 2).trans rfl
        have f0 : w6.frozen? ⟨w.heap.size, 2, none⟩ = false := HB.out.frozen 2
        have hks : Kept (fun k => k = w.heap.size) w6 (w6.setCell ⟨w.heap.size, 2, none⟩ (.slice dA deps.length dc)) := (Kept.refl (fun k => k = w.heap.size) _).at 2 _ (.inl rfl)
        have HB' := Lib.hid (show Box (w6.setCell ⟨w.heap.size, 2, none⟩ (.slice dA deps.length dc)) w.heap.size 30 ((({ zeroO with kind := kd, dot := ⟨st, sq⟩, deps := deps } : Opr).cells dA dc none 0)) from by simpa [Opr.cells, zeroO, zeroC] using HB.out.set 2 (.slice dA deps.length dc))
        have HE' := Lib.hid (HE.out.kept hks (by omega))
        have HR' := Lib.hid (HR.out.kept hks (by omega) (by omega))
        have HK' := Lib.hid (HK.out.trans hks fun k hk e => by omega)
        have HO' := Lib.hid (hks.own HO.out fun j e hj => by have := (HO.out.lt j e).1; omega)
        clear HO
        have HO := HO'
        clear HO'
        clear hks HB HE HR HK
        have HB := HB'
        have HE := HE'
        have HR := HR'
        have HK := HK'
        clear HB' HE' HR' HK'
        go_upto_region 12 with (fail)
        clear x0 f0
        generalize w6.setCell ⟨w.heap.size, 2, none⟩ (.slice dA deps.length dc) = w7 at HB HE HR HK HO ⊢
        obtain ⟨o, ho⟩ : ∃ o : Opr, { zeroO with kind := (kd : Int), dot := ⟨st, sq⟩, deps := deps } = o := ⟨_, rfl⟩
        have hok : o.kind = kd := by rw [← ho]
        have hog : o.gone = [] := by rw [← ho]; rfl
        have hod : o.deps = deps := by rw [← ho]
        have HTR2 := Lib.hid (show takeR s = intoV o s4 from by rw [HTR.out, ← ho])
        rw [ho] at HB
        clear HTR ho
        have hcall := HP.out w7 w.heap.size s4 o dA dc hok hog HR.out HB.out (by omega) (by omega)
        have hyd := intoV_deps o s4
        rw [hod] at hyd
        obtain ⟨y, hy⟩ : ∃ y, intoV o s4 = y := ⟨_, rfl⟩
        rw [hy] at HTR2 hcall hyd
        clear hy hok hog hod HP
        go_wp2_with (fail)
        refine hcall.mono ?_
        clear hcall
        rintro r w8 ⟨hr, hk, hcase⟩
        have HR8 := Lib.hid hr
        have HE8 := Lib.hid (HE.out.kept hk (by omega))
        have HK8 := Lib.hid (HK.out.trans hk fun k hk e => by omega)
        have HO8 := Lib.hid (hk.own HO.out fun j e hj => by have := (HO.out.lt j e).1; omega)
        have hN7 : w.heap.size + 1 < w7.heap.size := HE.out.lt
        clear hr hk HR HE HO HB HK
        rcases hcase with ⟨hy1, rfl, gA, gc, hbx, hown⟩ | ⟨hy1, hre, cs, hcs, hbx⟩
        · have HB8 := Lib.hid hbx
          have HG8 := Lib.hid hown
          have hsm : y.2.1.Small := by have := HSM.out; rw [HTR2.out] at this; exact this hy1
          have HSM8 := Lib.hid hsm
          have HTO := Lib.hid (show takeO s = if okOp y.2.1 = true then y else (10, zeroO, y.2.2) from by unfold takeO; rw [HTR2.out, if_neg (fun e => e hy1)])
          have hchk := OpCheck_any y.2.1 dA gA dc gc w8 ⟨by rw [hyd]; exact DotsAt.of_own HO8.out, RunsAt.of_own hown, hsm.counts, hsm.dl, hsm.gl, hsm.tl⟩
          obtain ⟨cs, hcs⟩ : ∃ cs, y.2.1.cells dA dc gA gc = cs := ⟨_, rfl⟩
          have HCS := Lib.hid hcs
          have HSZ := Lib.hid (show cs.size = 11 by rw [← hcs]; rfl)
          rw [hcs] at HB8 hchk
          clear hbx hown hsm hcs
          go_wp2_with (refine wpList_load_op rfl _ rfl w.heap.size rfl _ cs HSZ.out HB8.out ?_)
          refine hchk.mono ?_
          clear hchk
          unfold IntPost
          rintro r w9 ⟨rfl, hk⟩
          have HB9 := Lib.hid (HB8.out.kept hk id)
          have HE9 := Lib.hid (HE8.out.kept hk id)
          have HR9 := Lib.hid (HR8.out.fresh hk)
          have HK9 := Lib.hid (HK8.out.trans hk fun _ _ e => e.elim)
          have HO9 := Lib.hid (hk.own HO8.out fun _ _ => id)
          have HG9 := Lib.hid (hk.own HG8.out fun _ _ => id)
          clear hk HB8 HE8 HR8 HK8 HO8 HG8
          cases hok : okOp y.2.1 with
          | false =>
            have hop : opE y.2.1 = 10 := by unfold opE; rw [hok]; rfl
            have HTO2 := Lib.hid (show takeO s = (10, zeroO, y.2.2) from by rw [HTO.out, hok, if_neg (by decide)])
            rw [hop]
            go_wp2_with (fail)
            exact take_out rfl rfl HB9.out HSZ.out HE9.out HR9.out HK9.out hgl hdl HTO2.out
          | true =>
            have hop : opE y.2.1 = 0 := by unfold opE; rw [hok]; rfl
            have HTO2 := Lib.hid (show takeO s = y from by rw [HTO.out, hok, if_pos rfl])
            rw [hop]
            have x9 : w9.cell? ⟨w.heap.size, 9, none⟩ = some (.slice gA y.2.1.gone.length gc) := (HB9.out.cell 9).trans (by rw [← HCS.out]; rfl)
            have f9 : w9.frozen? ⟨w.heap.size, 9, none⟩ = false := HB9.out.frozen 9
            have hgA : gA = none ∨ ∃ b, gA = some ⟨b, 0, none⟩ := by
              rcases HG9.out.2 with ⟨e, -⟩ | ⟨b, cap, cur, e, -⟩
              · injection e with e; exact .inl e
              · injection e with e; exact .inr ⟨b, e⟩
            have hgc := (own_cap HG9.out).1
            go_wp2_with (fail)
            refine (Clip_any gA y.2.1.gone.length gc w9 hgA hgc).mono ?_
            rintro r w9' ⟨rfl, rfl⟩
            have hks : Kept (fun k => k = w.heap.size) w9 (w9.setCell ⟨w.heap.size, 9, none⟩ (.slice gA y.2.1.gone.length y.2.1.gone.length)) := (Kept.refl (fun k => k = w.heap.size) _).at 9 _ (.inl rfl)
            have HB10 := Lib.hid (show Box (w9.setCell ⟨w.heap.size, 9, none⟩ (.slice gA y.2.1.gone.length y.2.1.gone.length)) w.heap.size 30 (y.2.1.cells dA dc gA y.2.1.gone.length) from by
              have := HB9.out.set 9 (.slice gA y.2.1.gone.length y.2.1.gone.length)
              rw [← HCS.out] at this
              simpa [Opr.cells] using this)
            have HE10 := Lib.hid (HE9.out.kept hks (by omega))
            have HR10 := Lib.hid (HR9.out.kept hks (by omega) (by omega))
            have HK10 := Lib.hid (HK9.out.trans hks fun k hk e => by omega)
            have HO10 := Lib.hid (hks.own HO9.out fun j e hj => by have := (HO9.out.lt j e).1; omega)
            have HG10 := Lib.hid (hks.own HG9.out fun j e hj => by have := (HG9.out.lt j e).1; omega)
            clear hks HE9 HR9 HK9 HO9 HG9
            go_upto_region 17 with (fail)
            clear x9 f9 HB9
            generalize w9.setCell ⟨w.heap.size, 9, none⟩ (.slice gA y.2.1.gone.length y.2.1.gone.length) = w10 at HB10 HE10 HR10 HK10 HO10 HG10 ⊢
            obtain ⟨cs2, hcs2⟩ : ∃ cs2, y.2.1.cells dA dc gA y.2.1.gone.length = cs2 := ⟨_, rfl⟩
            have HCS2 := Lib.hid hcs2
            have HSZ2 := Lib.hid (show cs2.size = 11 by rw [← hcs2]; rfl)
            have HON2 := Lib.hid (show cs2.all (·.oneCell') = true by rw [← hcs2]; exact Opr.cells_one _ _ _ _ _)
            rw [hcs2] at HB10
            clear hcs2
            go_wp2_with (first | refine wpList_load_op rfl _ rfl w.heap.size rfl _ cs2 HSZ2.out HB10.out ?_ | (refine wpList_store_box rfl 30 _ _ rfl w.heap.size cs2 rfl rfl 30 cs2 HB10.out (by rw [HSZ2.out]; exact size_op) rfl HON2.out ?_; intro w11 HB11 hk11; refine Hid.out ?_))
            refine Lib.hid ?_
            have HE11 := Lib.hid (HE10.out.kept hk11 (by omega))
            have HR11 := Lib.hid (HR10.out.kept hk11 (by omega) (by omega))
            have HK11 := Lib.hid (HK10.out.trans hk11 fun k hk e => by omega)
            have HO11 := Lib.hid (hk11.own HO10.out fun j e hj => by have := (HO10.out.lt j e).1; omega)
            have HG11 := Lib.hid (hk11.own HG10.out fun j e hj => by have := (HG10.out.lt j e).1; omega)
            have hN11 : w.heap.size + 1 < w11.heap.size := HE11.out.lt
            clear hk11 HB10 HE10 HR10 HK10 HO10 HG10
            have xe : w11.cell? ⟨w.heap.size + 1, 0, none⟩ = some (.int .i64 0) := (HE11.out.cell 0).trans rfl
            have fe : w11.frozen? ⟨w.heap.size + 1, 0, none⟩ = false := HE11.out.frozen 0
            have hke : Kept (fun k => k = w.heap.size + 1) w11 (w11.setCell ⟨w.heap.size + 1, 0, none⟩ (.int .i64 0)) := (Kept.refl (fun k => k = w.heap.size + 1) _).at 0 _ (.inl rfl)
            have HB12 := Lib.hid (HB11.out.kept hke (by omega))
            have HE12 := Lib.hid (show Box (w11.setCell ⟨w.heap.size + 1, 0, none⟩ (.int .i64 0)) (w.heap.size + 1) 36 #[.int .i64 0] by simpa using HE11.out.set 0 (.int .i64 0))
            have HR12 := Lib.hid (HR11.out.kept hke (by omega) (by omega))
            have HK12 := Lib.hid (HK11.out.trans hke fun k hk e => by omega)
            have HO12 := Lib.hid (hke.own HO11.out fun j e hj => by have := (HO11.out.lt j e).1; omega)
            have HG12 := Lib.hid (hke.own HG11.out fun j e hj => by have := (HG11.out.lt j e).1; omega)
            clear hke HE11 HR11 HK11 HO11 HG11 HB11
            go_wp2_with (fail)
            refine take_returns rfl rfl HB12.out HSZ2.out HE12.out ?_
            rw [HTO2.out]
            refine ⟨dA, dc, gA, gc, by rw [HCS2.out, hy1], ?_, own_base HG12.out (by omega), HK12.out, HR12.out⟩
            rw [hyd]
            exact own_base HO12.out (by omega)
        · subst hre
          have HB8 := Lib.hid hbx
          have HTO := Lib.hid (show takeO s = (y.1, zeroO, y.2.2) from by unfold takeO; rw [HTR2.out, if_pos hy1])
          clear hbx
          unfold refE
          go_wp2_with (fail)
          exact take_out rfl rfl HB8.out hcs HE8.out HR8.out HK8.out hgl hdl HTO.out
end Go.Proofs.Ytnlklhlnnoihiaa

namespace Go.Proofs.Ytnlklhlnnoihiaa
open Go Go.RowKit

theorem intoI_is (d g : Nat) (c0 c1 c2 c3 c4 : Value) : IntoAny 1 d g 97 (.agg #[c0, c1, c2, c3, c4]) := by
  intro W G s' o dA dc hk hg hr hb hne hnd
  have hv : intoV o s' = (s'.nx.nx.nx.nt.e, { o with id := ⟨s'.val, o.dot.site⟩, ref := ⟨s'.nx.val, s'.nx.nx.val⟩, text := s'.nx.nx.nx.txt }, s'.nx.nx.nx.nt) := if_pos hk
  rw [hv]
  refine (intoI_any d g G s' c0 c1 c2 c3 c4 W o.dot.site _ _ _ _ _ _ _ _ _ _ hr hb hne hnd).mono ?_
  rintro r w' ⟨h1, h2, h3⟩
  refine ⟨h1, h2, h3.imp_left ?_⟩
  rintro ⟨h4, h5, h6⟩
  refine ⟨h4, h5, none, 0, h6, ?_⟩
  rw [hg]
  exact World.ownsRow_nil _ _ _ _
theorem intoR_is (d g : Nat) (c0 : Value) : IntoAny 2 d g 109 (.agg #[c0]) := by
  intro W G s' o dA dc hk hg hr hb hne hnd
  have hk : o.kind = 2 := hk
  have hv : intoV o s' = ((intoR s').1, { o with gone := (intoR s').2.1 }, (intoR s').2.2) := by unfold intoV; rw [if_neg (by rw [hk]; decide), if_pos hk]
  rw [hv]
  refine (intoR_any d g G s' c0 W o.dot.site _ _ _ _ _ _ _ _ _ hr (by rw [Opr.cells, hg] at hb; exact hb) hne hnd).mono ?_
  rintro r w' ⟨h1, h2, h3⟩
  exact ⟨h1, h2, h3⟩
theorem intoJ_is (d g : Nat) (c0 : Value) : IntoAny 3 d g 119 (.agg #[c0]) := by
  intro W G s' o dA dc hk hg hr hb hne hnd
  have hk : o.kind = 3 := hk
  have hv : intoV o s' = (s'.nx.e, { o with site := s'.val }, s'.nx) := by unfold intoV; rw [if_neg (by rw [hk]; decide), if_neg (by rw [hk]; decide), if_pos hk]
  rw [hv]
  refine (intoJ_any d g G s' c0 W o.dot.site _ _ _ _ _ _ _ _ _ _ hr hb hne hnd).mono ?_
  rintro r w' ⟨h1, h2, h3⟩
  refine ⟨h1, h2, h3.imp_left ?_⟩
  rintro ⟨h4, h5, h6⟩
  refine ⟨h4, h5, none, 0, h6, ?_⟩
  rw [hg]
  exact World.ownsRow_nil _ _ _ _
theorem intoL_is (d g : Nat) : IntoAny 4 d g 123 (.agg #[]) := by
  intro W G s' o dA dc hk hg hr hb hne hnd
  have hk : o.kind = 4 := hk
  have hv : intoV o s' = (0, o, s') := by unfold intoV; rw [if_neg (by rw [hk]; decide), if_neg (by rw [hk]; decide), if_neg (by rw [hk]; decide)]
  rw [hv]
  refine (intoL_any d g G s' W _ hr hb).mono ?_
  rintro r w' ⟨h1, h2, h3⟩
  refine ⟨h1, h2, h3.imp_left ?_⟩
  rintro ⟨h4, h5, h6⟩
  refine ⟨h4, h5, none, 0, h6, ?_⟩
  rw [hg]
  exact World.ownsRow_nil _ _ _ _
/-- The memory as op.Take's body begins. -/
theorem take_begin (w : World) : Kept (fun _ => False) w ((w.alloc (.cells zeroC 30)).alloc (.cells #[.int .i64 0] 36)) ∧ Box ((w.alloc (.cells zeroC 30)).alloc (.cells #[.int .i64 0] 36)) w.heap.size 30 zeroC ∧
    Box ((w.alloc (.cells zeroC 30)).alloc (.cells #[.int .i64 0] 36)) (w.heap.size + 1) 36 #[.int .i64 0] :=
  ⟨((Kept.refl _ _).alloc _).alloc _, (Box.new w 30 zeroC).alloc (.cells #[.int .i64 0] 36), (Box.new (w.alloc (.cells zeroC 30)) 36 #[.int .i64 0]).at_eq (show _ = w.heap.size + 1 by simp)⟩
set_option maxRecDepth 100000 in
set_option maxHeartbeats 1600000 in
theorem OpTake_nil (w : World) : Calls Try.prog 26 #[.pointer none] w (fun r w' => r = .returned (.tuple #[.agg zeroC, .int .i64 1]) ∧ Kept (fun _ => False) w w') := by
  have hmf : ∀ (fn : Fn) (first cap : Array Value) (w : World), (Instr.makeFunc fn first cap).run Try.prog w = .ok (.func fn first cap) w := fun _ _ _ _ => rfl
  have HBG := Lib.hid (take_begin w)
  go_enter_defers Try.func26, Try.ntmps26
  go_upto_region 2 with (fail)
  have hzz : (w.alloc (.cells #[.int .i64 0, .int .i64 0, .slice none 0 0, .int .i64 0, .int .i64 0, .int .i64 0, .int .i64 0, .int .i64 0, .string ⟨#[]⟩, .slice none 0 0, .int .i64 0] 30)) = w.alloc (.cells zeroC 30) := rfl
  rw [hzz]
  clear hzz
  generalize (w.alloc (.cells zeroC 30)).alloc (.cells #[.int .i64 0] 36) = w0 at HBG ⊢
  go_wp2_with (fail)
  refine (number_nil w0).mono ?_
  unfold refE
  rintro r w1 ⟨rfl, rfl⟩
  go_wp2_with (fail)
  exact take_panics rfl rfl HBG.out.2.1 rfl HBG.out.2.2 (by omega) fun W' hkW => ⟨rfl, HBG.out.1.trans hkW fun k hk e => by omega⟩
set_option maxRecDepth 100000 in
set_option maxHeartbeats 1600000 in
theorem OpTake_no (d g : Nat) (s : Rd) (w : World) (h : RdAt w d g s) (hs1 : s.nx.e ≠ 0) : Calls Try.prog 26 #[.pointer (some ⟨g, 0, none⟩)] w (TakeOPost w d g (takeO s)) := by
  have hmf : ∀ (fn : Fn) (first cap : Array Value) (w : World), (Instr.makeFunc fn first cap).run Try.prog w = .ok (.func fn first cap) w := fun _ _ _ _ => rfl
  have HBG := Lib.hid (take_begin w)
  have HR := Lib.hid (h.fresh (take_begin w).1)
  have HT := Lib.hid (show takeO s = (s.nx.e, zeroO, s.nx) from by
    have : takeR s = (s.nx.e, zeroO, s.nx) := by unfold takeR; rw [if_pos hs1]
    unfold takeO; rw [this, if_pos hs1])
  have hgl : g < w.heap.size := h.at_.lt
  have hdl : d < w.heap.size := h.at_.dlt
  have HS1 := Lib.hid hs1
  clear h hs1
  go_enter_defers Try.func26, Try.ntmps26
  go_upto_region 2 with (fail)
  have hzz : (w.alloc (.cells #[.int .i64 0, .int .i64 0, .slice none 0 0, .int .i64 0, .int .i64 0, .int .i64 0, .int .i64 0, .int .i64 0, .string ⟨#[]⟩, .slice none 0 0, .int .i64 0] 30)) = w.alloc (.cells zeroC 30) := rfl
  rw [hzz]
  clear hzz
  generalize (w.alloc (.cells zeroC 30)).alloc (.cells #[.int .i64 0] 36) = w0 at HBG HR ⊢
  go_wp2_with (fail)
  refine (number_no d g s w0 HR.out HS1.out).mono ?_
  unfold refE
  rintro r w1 ⟨rfl, hk, hr⟩
  go_wp2_with (fail)
  exact take_out rfl rfl (HBG.out.2.1.kept hk (by omega)) rfl (HBG.out.2.2.kept hk (by omega)) hr ((show Kept (fun k => k = g) w w0 from HBG.out.1.more fun _ _ e => e.elim).trans hk fun k _ e => e) hgl hdl HT.out
set_option maxRecDepth 100000 in
set_option maxHeartbeats 1600000 in
theorem OpTake_kindless (d g : Nat) (s : Rd) (w : World) (h : RdAt w d g s) (hs1 : s.nx.e = 0) (hkd : s.val < 1 ∨ 4 < s.val) : Calls Try.prog 26 #[.pointer (some ⟨g, 0, none⟩)] w (TakeOPost w d g (takeO s)) := by
  have hmf : ∀ (fn : Fn) (first cap : Array Value) (w : World), (Instr.makeFunc fn first cap).run Try.prog w = .ok (.func fn first cap) w := fun _ _ _ _ => rfl
  have HBG := Lib.hid (take_begin w)
  have HR := Lib.hid (h.fresh (take_begin w).1)
  have HT := Lib.hid (show takeO s = (10, zeroO, s.nx) from by
    have : takeR s = (10, zeroO, s.nx) := by unfold takeR; rw [if_neg (fun e => e hs1), if_pos hkd]
    unfold takeO; rw [this, if_pos (show (10 : Int) ≠ 0 by decide)])
  have hgl : g < w.heap.size := h.at_.lt
  have hdl : d < w.heap.size := h.at_.dlt
  have HS1 := Lib.hid hs1
  obtain ⟨n, hn⟩ : ∃ n, s.val = n := ⟨_, rfl⟩
  have HN := Lib.hid (show RdPost = RdPost from rfl)
  have HOF := Lib.hid (fun W => opof_any ({ zeroO with kind := (n : Int) } : Opr) none none 0 0 W)
  have hof : ofV ({ zeroO with kind := (n : Int) } : Opr) none 0 = .nilIface := by
    unfold ofV
    rw [if_neg (by simp only; omega), if_neg (by simp only; omega), if_neg (by simp only; omega), if_neg (by simp only; omega)]
  rw [hof] at HOF
  have HV := Lib.hid hn
  clear h hs1 hkd hn hof HN
  go_enter_defers Try.func26, Try.ntmps26
  go_upto_region 2 with (fail)
  have hzz : (w.alloc (.cells #[.int .i64 0, .int .i64 0, .slice none 0 0, .int .i64 0, .int .i64 0, .int .i64 0, .int .i64 0, .int .i64 0, .string ⟨#[]⟩, .slice none 0 0, .int .i64 0] 30)) = w.alloc (.cells zeroC 30) := rfl
  rw [hzz]
  clear hzz
  generalize (w.alloc (.cells zeroC 30)).alloc (.cells #[.int .i64 0] 36) = w0 at HBG HR ⊢
  go_wp2_with (fail)
  refine (number_ok d g s w0 HR.out HS1.out).mono ?_
  rw [show RdPost w0 d g s = fun r w' => r = .returned (.int .i64 (n : Int)) ∧ Kept (fun k => k = g) w0 w' ∧ RdAt w' d g s.nx from by rw [← HV.out]; rfl]
  rintro r w1 ⟨rfl, hk, hr⟩
  have HB := Lib.hid (HBG.out.2.1.kept hk (by omega))
  have HE := Lib.hid (HBG.out.2.2.kept hk (by omega))
  have HK := Lib.hid ((show Kept (fun k => k = g) w w0 from HBG.out.1.more fun _ _ e => e.elim).trans hk fun k _ e => e)
  have HR1 := Lib.hid hr
  clear hk hr HBG HR
  have x0 : w1.cell? ⟨w.heap.size, 3, none⟩ = some (.int .i64 0) := (HB.out.cell 3).trans rfl
  have f0 : w1.frozen? ⟨w.heap.size, 3, none⟩ = false := HB.out.frozen 3
  have hks : Kept (fun k => k = w.heap.size) w1 (w1.setCell ⟨w.heap.size, 3, none⟩ (.int .i64 n)) := (Kept.refl (fun k => k = w.heap.size) _).at 3 _ (.inl rfl)
  have HB2 := Lib.hid (show Box (w1.setCell ⟨w.heap.size, 3, none⟩ (.int .i64 n)) w.heap.size 30 (({ zeroO with kind := (n : Int) } : Opr).cells none 0 none 0) from by simpa [Opr.cells, zeroO, zeroC, noId] using HB.out.set 3 (.int .i64 n))
  have HE2 := Lib.hid (HE.out.kept hks (by omega))
  have HR2 := Lib.hid (HR1.out.kept hks (by omega) (by omega))
  have HK2 := Lib.hid (HK.out.trans hks fun k hk e => by omega)
  clear hks HB HE HR1 HK
  go_upto_region 3 with (fail)
  clear x0 f0
  generalize w1.setCell ⟨w.heap.size, 3, none⟩ (.int .i64 n) = w2 at HB2 HE2 HR2 HK2 ⊢
  go_wp2_with (refine wpList_load_op rfl _ rfl w.heap.size rfl _ (({ zeroO with kind := (n : Int) } : Opr).cells none 0 none 0) rfl HB2.out ?_)
  refine (HOF.out w2).mono ?_
  unfold OfPost
  rintro r w3 ⟨rfl, hk⟩
  go_wp2_with (fail)
  exact take_out rfl rfl (HB2.out.kept hk id) rfl (HE2.out.kept hk id) (HR2.out.fresh hk) (HK2.out.trans hk fun _ _ e => e.elim) hgl hdl HT.out
theorem OpTake_any (d g : Nat) (s : Rd) (w : World) (h : RdAt w d g s) (hsm : (takeR s).1 = 0 → (takeR s).2.1.Small) : Calls Try.prog 26 #[.pointer (some ⟨g, 0, none⟩)] w (TakeOPost w d g (takeO s)) := by
  by_cases hs1 : s.nx.e ≠ 0
  · exact OpTake_no d g s w h hs1
  · have hs1 : s.nx.e = 0 := by omega
    by_cases hkd : s.val < 1 ∨ 4 < s.val
    · exact OpTake_kindless d g s w h hs1 hkd
    · have hc : s.val = 1 ∨ s.val = 2 ∨ s.val = 3 ∨ s.val = 4 := by omega
      have HSM := Lib.hid hsm
      rcases hc with hc | hc | hc | hc
      · exact OpTake_kind d g s w 1 114 (.agg #[.int .i64 0, .int .i64 0, .int .i64 0, .int .i64 0, .string ⟨#[]⟩]) 97 (.agg #[.int .i64 0, .int .i64 0, .int .i64 0, .int .i64 0, .string ⟨#[]⟩]) h hs1 hc (by omega) (by omega) (Lib.hid fun W => opof_any ({ zeroO with kind := ((1 : Nat) : Int) } : Opr) none none 0 0 W) (fun _ => by kernel_rfl) (fun _ _ => by kernel_rfl) (Lib.hid (intoI_is d g _ _ _ _ _)) HSM
      · exact OpTake_kind d g s w 2 116 (.agg #[.slice none 0 0]) 109 (.agg #[.slice none 0 0]) h hs1 hc (by omega) (by omega) (Lib.hid fun W => opof_any ({ zeroO with kind := ((2 : Nat) : Int) } : Opr) none none 0 0 W) (fun _ => by kernel_rfl) (fun _ _ => by kernel_rfl) (Lib.hid (intoR_is d g _)) HSM
      · exact OpTake_kind d g s w 3 118 (.agg #[.int .i64 0]) 119 (.agg #[.int .i64 0]) h hs1 hc (by omega) (by omega) (Lib.hid fun W => opof_any ({ zeroO with kind := ((3 : Nat) : Int) } : Opr) none none 0 0 W) (fun _ => by kernel_rfl) (fun _ _ => by kernel_rfl) (Lib.hid (intoJ_is d g _)) HSM
      · exact OpTake_kind d g s w 4 120 (.agg #[]) 123 (.agg #[]) h hs1 hc (by omega) (by omega) (Lib.hid fun W => opof_any ({ zeroO with kind := ((4 : Nat) : Int) } : Opr) none none 0 0 W) (fun _ => by kernel_rfl) (fun _ _ => by kernel_rfl) (Lib.hid (intoL_is d g)) HSM
end Go.Proofs.Ytnlklhlnnoihiaa

namespace Go.Proofs.Ytnlklhlnnoihiaa
open Go Go.RowKit

def decO (b : List Int) : Int × Opr := if (takeO ⟨b, 0⟩).1 ≠ 0 then ((takeO ⟨b, 0⟩).1, zeroO) else if 0 < (takeO ⟨b, 0⟩).2.2.l.length then (6, zeroO) else (0, (takeO ⟨b, 0⟩).2.1)
def DecOPost (w : World) (x : Int × Opr) (r : Ending) (w' : World) : Prop :=
  ∃ dA dc gA gc, r = .returned (.tuple #[.agg (x.2.cells dA dc gA x.2.gone.length), .int .i64 x.1]) ∧ w'.ownsRow w.heap.size 23 2 (.slice dA x.2.deps.length dc) x.2.deps.length (dots x.2.deps) ∧
    w'.ownsRow w.heap.size 32 3 (.slice gA x.2.gone.length gc) x.2.gone.length (runs x.2.gone) ∧ Kept (fun _ => False) w w'
theorem results_cell_slot {fn : Func} {p q : Tmp} {ty : TypeId} (h : fn.results = #[.cell p ty, .tmp q]) (tmps : Array Value) (w : World) (v u : Value) (g : Nat)
    (hp : tmps.getD p undef = .pointer (some ⟨g, 0, none⟩)) (hl : (loadVar ty ⟨g, 0, none⟩).run Try.prog w = .ok v w) (hq : tmps.getD q undef = u) :
    (results fn tmps).run Try.prog w = .ok (.tuple #[v, u]) w := by
  have hp' : tmps[p]?.getD undef = .pointer (some ⟨g, 0, none⟩) := by simpa using hp
  have hq' : tmps[q]?.getD undef = u := by simpa using hq
  simp [results, h, hp', hq', asAddr, hl]
theorem dec_ret {R : Ending → World → Prop} {w : World} {a : Act} {N : Nat} {cs : Array Value} {e : Int} (hb : Box w N 30 cs) (hs : cs.size = 11) (h2 : a.tmps.getD 2 undef = .pointer (some ⟨N, 0, none⟩)) (h3 : a.tmps.getD 3 undef = .int .i64 e) (hd : a.defers = [])
    (hR : R (.returned (.tuple #[.agg cs, .int .i64 e])) w) : bodyPost Try.prog Try.f20 R Exit.ret a w :=
  bodyPost_ret (results_cell_slot (show Try.f20.results = #[.cell 2 30, .tmp 3] by kernel_rfl) _ _ _ _ N h2 (load_OP hb hs) h3) hd hR
set_option maxRecDepth 100000 in
set_option maxHeartbeats 1600000 in
theorem OpDecode_any (A : Option Addr) (b : List Int) (c : Nat) (w : World) (hb : BytesAt w A b) (hn : A = none → b = []) (hlen : b.length ≤ 100000000) (hby : isByte b) (hsm : (takeR ⟨b, 0⟩).1 = 0 → (takeR ⟨b, 0⟩).2.1.Small) :
    Calls Try.prog 20 #[.slice A b.length c] w (DecOPost w (decO b)) := by
  have hk0 : Kept (fun _ => False) w (w.alloc (.cells zeroC 30)) := (Kept.refl _ _).alloc _
  have HK := Lib.hid hk0
  have HB := Lib.hid (Box.new w 30 zeroC)
  have HY := Lib.hid (hb.fresh hk0)
  have HN := Lib.hid hn
  have HBY := Lib.hid hby
  have HSM := Lib.hid hsm
  have HD1 := Lib.hid (show (takeO ⟨b, 0⟩).1 ≠ 0 → decO b = ((takeO ⟨b, 0⟩).1, zeroO) from fun h => if_pos h)
  have HD2 := Lib.hid (show (takeO ⟨b, 0⟩).1 = 0 → 0 < (takeO ⟨b, 0⟩).2.2.l.length → decO b = (6, zeroO) from fun h h' => by unfold decO; rw [if_neg (fun e => e h), if_pos h'])
  have HD3 := Lib.hid (show (takeO ⟨b, 0⟩).1 = 0 → ¬ 0 < (takeO ⟨b, 0⟩).2.2.l.length → decO b = (0, (takeO ⟨b, 0⟩).2.1) from fun h h' => by unfold decO; rw [if_neg (fun e => e h), if_neg h'])
  obtain ⟨D, hD⟩ : ∃ D, decO b = D := ⟨_, rfl⟩
  rw [hD] at HD1 HD2 HD3 ⊢
  clear hk0 hb hn hby hsm hD
  go_enter Try.func20, Try.ntmps20
  go_upto_region 1 with (fail)
  have hzz : (w.alloc (.cells #[.int .i64 0, .int .i64 0, .slice none 0 0, .int .i64 0, .int .i64 0, .int .i64 0, .int .i64 0, .int .i64 0, .string ⟨#[]⟩, .slice none 0 0, .int .i64 0] 30)) = w.alloc (.cells zeroC 30) := rfl
  rw [hzz]
  clear hzz
  generalize w.alloc (.cells zeroC 30) = w0 at HK HB HY ⊢
  go_wp2_with (fail)
  refine (Read_any A b c w0 HY.out HN.out hlen).mono ?_
  rintro r w1 ⟨d, g, rfl, hr, ⟨hd, hg⟩, hk⟩
  have HB1 := Lib.hid (HB.out.kept hk id)
  have HK1 := Lib.hid (HK.out.trans hk fun _ _ e => e)
  have HR1 := Lib.hid (show RdAt w1 d g ⟨b, 0⟩ from ⟨hr, HBY.out⟩)
  have hN0 : w.heap.size < w0.heap.size := HB.out.lt
  clear hk hr HB HK HY
  go_wp2_with (fail)
  refine (OpTake_any d g ⟨b, 0⟩ w1 HR1.out HSM.out).mono ?_
  generalize takeO ⟨b, 0⟩ = X at HD1 HD2 HD3 ⊢
  rintro r w2 ⟨dA, dc, gA, gc, rfl, ho, hg2, hk, hr⟩
  obtain ⟨e, o, s'⟩ := X
  simp only at HD1 HD2 HD3 ho hg2 hr ⊢
  have hw1 : w.heap.size ≤ w1.heap.size := HK1.out.size
  have HO := Lib.hid (own_base ho hw1)
  have HG := Lib.hid (own_base hg2 hw1)
  have HB2 := Lib.hid (HB1.out.kept hk (by omega))
  have HK2 := Lib.hid (HK1.out.trans hk fun k hk e => by omega)
  have HR2 := Lib.hid hr
  have hoN : ∀ k, (Value.slice dA o.deps.length dc).ownBlock = some k → w.heap.size < k := fun k e => by have := (ho.lt k e).1; have := HB1.out.lt; omega
  have hgN : ∀ k, (Value.slice gA o.gone.length gc).ownBlock = some k → w.heap.size < k := fun k e => by have := (hg2.lt k e).1; have := HB1.out.lt; omega
  have HON := Lib.hid hoN
  have HGN := Lib.hid hgN
  obtain ⟨cs, hcs⟩ : ∃ cs, o.cells dA dc gA o.gone.length = cs := ⟨_, rfl⟩
  have HCS := Lib.hid hcs
  have HSZ := Lib.hid (show cs.size = 11 by rw [← hcs]; rfl)
  have HON2 := Lib.hid (show cs.all (·.oneCell') = true by rw [← hcs]; exact Opr.cells_one _ _ _ _ _)
  rw [hcs]
  clear ho hg2 hk hr HB1 HK1 HR1 hcs hoN hgN
  have hka : Kept (fun _ => False) w2 (w2.alloc (.cells zeroC 30)) := (Kept.refl _ _).alloc _
  have HBN := Lib.hid (Box.new w2 30 zeroC)
  have HB3 := Lib.hid (HB2.out.kept hka id)
  have HK3 := Lib.hid (HK2.out.trans hka fun _ _ e => e)
  have HR3 := Lib.hid (HR2.out.fresh hka)
  have HO3 := Lib.hid (hka.own HO.out fun _ _ => id)
  have HG3 := Lib.hid (hka.own HG.out fun _ _ => id)
  have hN2 : w.heap.size < w2.heap.size := HB2.out.lt
  have hgd : g < w2.heap.size ∧ d < w2.heap.size := ⟨HR2.out.at_.lt, HR2.out.at_.dlt⟩
  have HOL := Lib.hid (fun k (e : (Value.slice dA o.deps.length dc).ownBlock = some k) => (HO.out.lt k e).2)
  have HGL := Lib.hid (fun k (e : (Value.slice gA o.gone.length gc).ownBlock = some k) => (HG.out.lt k e).2)
  clear hka HB2 HK2 HR2 HO HG
  go_wp2_with (refine wpList_store_box rfl 30 _ _ rfl w2.heap.size cs rfl rfl 30 zeroC HBN.out (by rw [HSZ.out]; exact size_op) HSZ.out.symm HON2.out ?_; intro w4 HB4 hk4; refine Hid.out ?_)
  refine Lib.hid ?_
  have HB5 := Lib.hid (HB3.out.kept hk4 (by omega))
  have HK5 := Lib.hid (HK3.out.trans hk4 fun k hk e => by omega)
  have HR5 := Lib.hid (HR3.out.kept hk4 (by omega) (by omega))
  have HO5 := Lib.hid (hk4.own HO3.out fun j e hj => by have := HOL.out j e; omega)
  have HG5 := Lib.hid (hk4.own HG3.out fun j e hj => by have := HGL.out j e; omega)
  obtain ⟨M, hM⟩ : ∃ M, w2.heap.size = M := ⟨_, rfl⟩
  rw [hM] at HB4 hN2 ⊢
  clear hk4 HB3 HK3 HR3 HO3 HG3 HBN hM
  by_cases he : e ≠ 0
  · have hne : (e != 0) = true := bne_iff_ne.2 he
    have HX := Lib.hid (HD1.out he)
    go_wp2_with (refine wpList_store_box rfl 30 _ _ rfl w.heap.size zeroC rfl rfl 30 zeroC HB5.out (size_op.trans rfl) rfl (by simp [zeroC, Value.oneCell']) ?_; intro w6 HB6 hk6; refine Hid.out ?_)
    refine Lib.hid ?_
    have HK6 := Lib.hid (HK5.out.trans hk6 fun k hk e => by omega)
    clear hk6
    go_wp2_with (fail)
    refine dec_ret HB6.out rfl rfl rfl rfl ?_
    rw [HX.out]
    exact ⟨none, 0, none, 0, rfl, World.ownsRow_nil _ _ _ _, World.ownsRow_nil _ _ _ _, HK6.out⟩
  · obtain rfl : e = 0 := by omega
    go_wp2_with (fail)
    refine (Left_any d g s'.l s'.e w4 HR5.out.at_).mono ?_
    rintro r w5 ⟨rfl, rfl⟩
    by_cases hl : 0 < s'.l.length
    · have HX := Lib.hid (HD2.out trivial hl)
      have hl' : (0 : Int) < (s'.l.length : Int) := by omega
      go_wp2_with (refine wpList_store_box rfl 30 _ _ rfl w.heap.size zeroC rfl rfl 30 zeroC HB5.out (size_op.trans rfl) rfl (by simp [zeroC, Value.oneCell']) ?_; intro w6 HB6 hk6; refine Hid.out ?_)
      refine Lib.hid ?_
      have HK6 := Lib.hid (HK5.out.trans hk6 fun k hk e => by omega)
      clear hk6
      go_wp2_with (fail)
      refine dec_ret HB6.out rfl rfl rfl rfl ?_
      rw [HX.out]
      exact ⟨none, 0, none, 0, rfl, World.ownsRow_nil _ _ _ _, World.ownsRow_nil _ _ _ _, HK6.out⟩
    · have HX := Lib.hid (HD3.out trivial hl)
      have hl' : ¬ (0 : Int) < (s'.l.length : Int) := by omega
      go_wp2_with (first | refine wpList_load_op rfl _ rfl M rfl _ cs HSZ.out HB4.out ?_ | (refine wpList_store_box rfl 30 _ _ rfl w.heap.size cs rfl rfl 30 zeroC HB5.out (by rw [HSZ.out]; exact size_op) HSZ.out.symm HON2.out ?_; intro w6 HB6 hk6; refine Hid.out ?_))
      refine Lib.hid ?_
      have HK6 := Lib.hid (HK5.out.trans hk6 fun k hk e => by omega)
      have HO6 := Lib.hid (hk6.own HO5.out fun j e hj => by have := HON.out j e; omega)
      have HG6 := Lib.hid (hk6.own HG5.out fun j e hj => by have := HGN.out j e; omega)
      clear hk6
      go_wp2_with (fail)
      refine dec_ret HB6.out HSZ.out rfl rfl rfl ?_
      rw [HX.out]
      exact ⟨dA, dc, gA, gc, by rw [HCS.out], HO6.out, HG6.out, HK6.out⟩
end Go.Proofs.Ytnlklhlnnoihiaa

namespace Go.Proofs.Ytnlklhlnnoihiaa
open Go Go.RowKit

theorem own_cells {w : World} {base s n c : Nat} {e : TypeId} {A : Option Addr} {xs : List Value} (h : w.ownsRow base e s (.slice A n c) n xs) (hn : 0 < n) : ∃ g, A = some ⟨g, 0, none⟩ ∧ (Value.slice A n c).ownBlock = some g ∧ (∀ j v, xs[j]? = some v → w.cell? ⟨g, j, none⟩ = some v) ∧ ∀ j, w.frozen? ⟨g, j, none⟩ = false := by
  obtain ⟨g, cap, hv, _, _⟩ := World.ownsRow.form h hn
  injection hv with e1 _ e3
  subst e1 e3
  refine ⟨g, rfl, rfl, fun j v hj => ?_, fun j => World.ownsRow.frozenAt h j⟩
  have := h.cells (g := g) rfl j v hj
  rwa [add_none] at this
def dotM : Dt := ⟨77, 77⟩
def runM : Rn := ⟨⟨0, 0⟩, 77⟩
/-- An operation in lists of its own, each with a marked place behind. -/
structure TwinAt (W : World) (base : Nat) (o : Opr) (y : Lop) : Prop where
  eq : y.o = o
  d : W.ownsRow base 23 2 (.slice y.dA (o.deps.length + 1) y.dc) (o.deps.length + 1) (dots (o.deps ++ [dotM]))
  g : W.ownsRow base 32 3 (.slice y.gA (o.gone.length + 1) y.gc) (o.gone.length + 1) (runs (o.gone ++ [runM]))
theorem DotsAt.pre {w : World} {A : Option Addr} {l m : List Dt} (h : DotsAt w A (l ++ m)) : DotsAt w A l := fun k hk => by
  have := h k (by rw [List.length_append]; omega)
  rwa [List.getElem_append_left hk] at this
theorem RunsAt.pre {w : World} {A : Option Addr} {l m : List Rn} (h : RunsAt w A (l ++ m)) : RunsAt w A l := fun k hk => by
  have := h k (by rw [List.length_append]; omega)
  rwa [List.getElem_append_left hk] at this
theorem DotsAt.nilness {w : World} {A : Option Addr} {l : List Dt} {c : Nat} (h : DotsAt w A l) (hc : A = none → c = 0) : A = none → l.length = 0 ∧ c = 0 := by
  rintro rfl
  refine ⟨?_, hc rfl⟩
  rcases Nat.eq_zero_or_pos l.length with h0 | h0
  · exact h0
  · obtain ⟨ad, e, _⟩ := h 0 h0
    cases e
theorem RunsAt.nilness {w : World} {A : Option Addr} {l : List Rn} {c : Nat} (h : RunsAt w A l) (hc : A = none → c = 0) : A = none → l.length = 0 ∧ c = 0 := by
  rintro rfl
  refine ⟨?_, hc rfl⟩
  rcases Nat.eq_zero_or_pos l.length with h0 | h0
  · exact h0
  · obtain ⟨ad, e, _⟩ := h 0 h0
    cases e
section
variable {W W' : World} {base : Nat} {o : Opr} {y : Lop} {S : Nat → Prop}
theorem TwinAt.at (h : TwinAt W base o y) : y.At W := ⟨by rw [h.eq]; exact DotsAt.pre (DotsAt.of_own h.d), by rw [h.eq]; exact RunsAt.pre (RunsAt.of_own h.g)⟩
theorem TwinAt.fresh (h : TwinAt W base o y) (hk : Kept (fun _ => False) W W') : TwinAt W' base o y := ⟨h.eq, hk.own h.d fun _ _ => id, hk.own h.g fun _ _ => id⟩
theorem TwinAt.kept (h : TwinAt W base o y) (hk : Kept S W W') (hd : NoKind W S 23) (hg : NoKind W S 32) : TwinAt W' base o y := ⟨h.eq, hk.own_kind hd h.d, hk.own_kind hg h.g⟩
theorem TwinAt.older {b : Nat} (h : TwinAt W base o y) (hb : b ≤ base) : TwinAt W b o y := ⟨h.eq, own_base h.d hb, own_base h.g hb⟩
theorem TwinAt.deps (h : TwinAt W base o y) : ∃ gd, y.dA = some ⟨gd, 0, none⟩ ∧ o.deps.length + 1 ≤ y.dc ∧ W.cell? ⟨gd, o.deps.length * 2 + 1, none⟩ = some (.int .i64 77) := by
  obtain ⟨g, hA, -, hc, -⟩ := own_cells h.d (by omega)
  refine ⟨g, hA, (own_cap h.d).1, hc _ _ ?_⟩
  obtain ⟨-, g1⟩ := dots_get (o.deps ++ [dotM]) o.deps.length (by simp)
  rw [g1]
  simp [dotM]
theorem TwinAt.gone (h : TwinAt W base o y) : ∃ gg, y.gA = some ⟨gg, 0, none⟩ ∧ o.gone.length + 1 ≤ y.gc ∧ W.cell? ⟨gg, o.gone.length * 3 + 2, none⟩ = some (.int .i64 77) := by
  obtain ⟨g, hA, -, hc, -⟩ := own_cells h.g (by omega)
  refine ⟨g, hA, (own_cap h.g).1, hc _ _ ?_⟩
  obtain ⟨-, -, g1⟩ := runs_get (o.gone ++ [runM]) o.gone.length (by simp)
  rw [g1]
  simp [runM]
end
def TwinPost (w : World) (o : Opr) (e : Ending) (w' : World) : Prop := ∃ y : Lop, e = .returned (.agg y.c) ∧ TwinAt w' w.heap.size o y ∧ Kept (fun _ => False) w w'
/-- What an operation that is handed in has beside its lists. -/
structure Lop.Nil (x : Lop) : Prop where
  d : x.dA = none → x.dc = 0
  g : x.gA = none → x.gc = 0

set_option maxRecDepth 100000 in
set_option maxHeartbeats 1600000 in
theorem twin_any (x : Lop) (w : World) (h : x.At w) (hn : x.Nil) (hs : x.o.Small) : Calls Try.prog 14 #[.agg x.c] w (TwinPost w x.o) := by
  obtain ⟨⟨⟨ds, dq⟩, deps, kind, ⟨it, is⟩, ⟨rt, rs⟩, text, gone, site⟩, dA, dc, gA, gc⟩ := x
  have hk0 : Kept (fun _ => False) w ((w.alloc (.cells #[.int .i64 ds, .int .i64 dq, .slice dA deps.length dc, .int .i64 kind, .int .i64 it, .int .i64 is, .int .i64 rt, .int .i64 rs, .string text, .slice gA gone.length gc, .int .i64 site] 30)).alloc (.cells opZ 30)) := ((Kept.refl _ _).alloc _).alloc _
  have HD := Lib.hid (h.d.fresh hk0)
  have HG := Lib.hid (h.g.fresh hk0)
  have HND := Lib.hid (h.d.nilness hn.d)
  have HNG := Lib.hid (h.g.nilness hn.g)
  have hdl := hs.dl
  have hgl := hs.gl
  have HK := Lib.hid hk0
  clear h hs hn hk0
  simp only at HD HG HND HNG hdl hgl ⊢
  unfold Lop.c Opr.cells
  simp only
  have HB := Lib.hid ((Box.new w 30 #[.int .i64 ds, .int .i64 dq, .slice dA deps.length dc, .int .i64 kind, .int .i64 it, .int .i64 is, .int .i64 rt, .int .i64 rs, .string text, .slice gA gone.length gc, .int .i64 site]).alloc (.cells opZ 30))
  have HR := Lib.hid ((Box.new (w.alloc (.cells #[.int .i64 ds, .int .i64 dq, .slice dA deps.length dc, .int .i64 kind, .int .i64 it, .int .i64 is, .int .i64 rt, .int .i64 rs, .string text, .slice gA gone.length gc, .int .i64 site] 30)) 30 opZ).at_eq (show _ = w.heap.size + 1 by simp))
  unfold opZ at *
  go_enter Try.func14, Try.ntmps14
  go_upto_region 2 with (fail)
  generalize (w.alloc (.cells #[.int .i64 ds, .int .i64 dq, .slice dA deps.length dc, .int .i64 kind, .int .i64 it, .int .i64 is, .int .i64 rt, .int .i64 rs, .string text, .slice gA gone.length gc, .int .i64 site] 30)).alloc (.cells #[.int .i64 0, .int .i64 0, .slice none 0 0, .int .i64 0, .int .i64 0, .int .i64 0, .int .i64 0, .int .i64 0, .string ⟨#[]⟩, .slice none 0 0, .int .i64 0] 30) = w0 at HD HG HK HB HR ⊢
  have b2 := HB.out.cell 2
  simp only [List.getElem?_toArray, List.getElem?_cons_succ, List.getElem?_cons_zero] at b2
  go_wp2_with (at_builtin; refine wpList_append_copy eltDots rfl _ _ rfl rfl dA deps.length dc (dots deps) rfl HND.out (dots_len deps) HD.out.cells (dots_one deps) (by omega) ?_)
  intro A1 c1 w1 HO1 HK1
  have hs1 := HK1.out.size
  go_wp2_with (at_builtin; refine wpList_append_new eltDots rfl _ _ rfl w0.heap.size _ deps.length (dots deps) rfl HO1.out 1 1 rfl rfl rfl (by omega) hs1 ?_)
  intro A2 c2 w2 HO2 HK2 HM2
  have hk2 : Kept (fun _ => False) w0 w2 := HK1.out.trans HK2.out fun k hk e => by have := (HO1.out.lt k e).1; omega
  have HD2 := Lib.hid (show w2.ownsRow w.heap.size 23 2 (.slice A2 (deps.length + 1) c2) (deps.length + 1) (dots (deps ++ [dotM])) by rw [dots_app]; exact own_base HO2.out HK.out.size)
  have HB2 := Lib.hid (HB.out.kept hk2 id)
  have HR2 := Lib.hid (HR.out.kept hk2 id)
  have HG2 := Lib.hid (HG.out.fresh hk2)
  have HKK := Lib.hid (HK.out.trans hk2 fun _ _ e => e)
  have hcd := own_cap HO2.out
  clear hk2 HO1 HK1 HO2 HK2 HM2 HB HR HG HK HD HND b2 hs1
  have b2 := HB2.out.cell 2
  have f2 := HB2.out.frozen 2
  have b9 := HB2.out.cell 9
  simp only [List.getElem?_toArray, List.getElem?_cons_succ, List.getElem?_cons_zero] at b2 b9
  go_wp2_with (at_builtin; refine wpList_append_copy eltRuns rfl _ _ rfl rfl gA gone.length gc (runs gone) rfl HNG.out (runs_len gone) HG2.out.cells (runs_one gone) (by omega) ?_)
  intro A3 c3 w3 HO3 HK3
  have hs3 := HK3.out.size
  go_wp2_with (at_builtin; refine wpList_append_new eltRuns rfl _ _ rfl w2.heap.size _ gone.length (runs gone) rfl HO3.out 1 1 rfl rfl rfl (by omega) hs3 ?_)
  intro A4 c4 w4 HO4 HK4 HM4
  have hk4 : Kept (fun _ => False) w2 w4 := HK3.out.trans HK4.out fun k hk e => by have := (HO3.out.lt k e).1; omega
  have HG4 := Lib.hid (show w4.ownsRow w.heap.size 32 3 (.slice A4 (gone.length + 1) c4) (gone.length + 1) (runs (gone ++ [runM])) by rw [runs_app]; exact own_base HO4.out HKK.out.size)
  have HD4 := Lib.hid (hk4.own HD2.out fun _ _ => id)
  have HB4 := Lib.hid (HB2.out.kept hk4 id)
  have HR4 := Lib.hid (HR2.out.kept hk4 id)
  have HK5 := Lib.hid (HKK.out.trans hk4 fun _ _ e => e)
  have hcg := own_cap HO4.out
  clear hk4 HO3 HK3 HO4 HK4 HM4 HB2 HR2 HG2 HKK HD2 HNG b2 b9 f2 hs3
  have b2 := HB4.out.cell 2
  have f2 := HB4.out.frozen 2
  simp only [List.getElem?_toArray, List.getElem?_cons_succ, List.getElem?_cons_zero] at b2
  have l1 : deps.length ≤ c2 := by omega
  go_upto_region 8 with (fail)
  have HB5 := Lib.hid (HB4.out.set 2 (.slice A2 deps.length c2))
  have hk5 : Kept (fun k => k = w.heap.size) w4 (w4.setCell ⟨w.heap.size, 2, none⟩ (.slice A2 deps.length c2)) := (Kept.refl _ _).at 2 _ (.inl rfl)
  have HR5 := Lib.hid (HR4.out.kept hk5 (by omega))
  have HD5 := Lib.hid (hk5.own HD4.out fun k e1 e2 => own_box_ne HD4.out HB4.out (by decide) (by rw [e1, e2]))
  have HG5 := Lib.hid (hk5.own HG4.out fun k e1 e2 => own_box_ne HG4.out HB4.out (by decide) (by rw [e1, e2]))
  have HK6 := Lib.hid (HK5.out.trans hk5 fun k hk e => by omega)
  simp only [List.setIfInBounds_toArray, List.set_cons_zero, List.set_cons_succ] at HB5
  clear hk5 HB4 HR4 HD4 HG4 HK5 b2 f2
  generalize w4.setCell ⟨w.heap.size, 2, none⟩ (.slice A2 deps.length c2) = w5 at HB5 HR5 HD5 HG5 HK6 ⊢
  have b9 := HB5.out.cell 9
  have f9 := HB5.out.frozen 9
  simp only [List.getElem?_toArray, List.getElem?_cons_succ, List.getElem?_cons_zero] at b9
  have l2 : gone.length ≤ c4 := by omega
  go_upto_region 9 with (fail)
  have HB6 := Lib.hid (HB5.out.set 9 (.slice A4 gone.length c4))
  have hk6 : Kept (fun k => k = w.heap.size) w5 (w5.setCell ⟨w.heap.size, 9, none⟩ (.slice A4 gone.length c4)) := (Kept.refl _ _).at 9 _ (.inl rfl)
  have HR6 := Lib.hid (HR5.out.kept hk6 (by omega))
  have HD6 := Lib.hid (hk6.own HD5.out fun k e1 e2 => own_box_ne HD5.out HB5.out (by decide) (by rw [e1, e2]))
  have HG6 := Lib.hid (hk6.own HG5.out fun k e1 e2 => own_box_ne HG5.out HB5.out (by decide) (by rw [e1, e2]))
  have HK7 := Lib.hid (HK6.out.trans hk6 fun k hk e => by omega)
  simp only [List.setIfInBounds_toArray, List.set_cons_zero, List.set_cons_succ] at HB6
  clear hk6 HB5 HR5 HD5 HG5 HK6 b9 f9
  generalize w5.setCell ⟨w.heap.size, 9, none⟩ (.slice A4 gone.length c4) = w6 at HB6 HR6 HD6 HG6 HK7 ⊢
  go_wp2_with (first | (refine wpList_load_op rfl _ rfl w.heap.size rfl _ _ rfl HB6.out ?_) | (refine wpList_store_box rfl 30 _ _ rfl (w.heap.size + 1) (Opr.cells ⟨⟨ds, dq⟩, deps, kind, ⟨it, is⟩, ⟨rt, rs⟩, text, gone, site⟩ A2 c2 A4 c4) rfl rfl 30 _ HR6.out (size_op.trans rfl) rfl (Opr.cells_one ..) ?_; intro w7 HR7 hk7))
  have HK8 := Lib.hid (HK7.out.trans hk7 fun k hk e => by omega)
  have HD7 := Lib.hid (hk7.own HD6.out fun k hk e => own_box_ne HD6.out HR6.out (by decide) (by rw [hk, e]))
  have HG7 := Lib.hid (hk7.own HG6.out fun k hk e => own_box_ne HG6.out HR6.out (by decide) (by rw [hk, e]))
  refine bodyPost_ret (results_cell_row rfl _ _ (w.heap.size + 1) 30 (Opr.cells ⟨⟨ds, dq⟩, deps, kind, ⟨it, is⟩, ⟨rt, rs⟩, text, gone, site⟩ A2 c2 A4 c4) (0, 0) _ rfl HR7.out Try.underlying30 rfl (size_op.trans rfl)) rfl ?_
  exact ⟨⟨⟨⟨ds, dq⟩, deps, kind, ⟨it, is⟩, ⟨rt, rs⟩, text, gone, site⟩, A2, c2, A4, c4⟩, rfl, ⟨rfl, HD7.out, HG7.out⟩, HK8.out⟩
set_option maxRecDepth 100000 in
set_option maxHeartbeats 1600000 in
theorem Bytes8_any (A B : Option Addr) (l m : List Int) (c d : Nat) (w : World) (hl : BytesAt w A l) (hm : BytesAt w B m) (hlen : l.length ≤ 4611686018427387904) :
    Calls Try.prog 23 #[.slice A l.length c, .slice B m.length d] w (SamePost w (decide (l = m))) := by
  by_cases hn : l.length = m.length
  · have HL := Lib.hid hl
    have HM := Lib.hid hm
    clear hl hm
    obtain ⟨b, hb⟩ : ∃ b, decide (l = m) = b := ⟨_, rfl⟩
    rw [hb, ← hn]
    have HN := Lib.hid hn
    have HBB := Lib.hid hb
    clear hn hb
    go_enter Try.func23, Try.ntmps23
    go_wp2_with (fail)
    go_loopw [5] (fun i wr => ∃ k : Nat, i = .int .i64 k ∧ k ≤ l.length ∧ l.take k = m.take k ∧ Kept (fun _ => False) w wr) (fun i _ => l.length - (intOf i).toNat)
    case atStart => exact ⟨0, rfl, Nat.zero_le _, rfl, Kept.refl _ _⟩
    case round =>
      obtain ⟨k, rfl, hk, hat, hkk⟩ := hrel
      have HK := Lib.hid hkk
      have HAT := Lib.hid hat
      by_cases hlt : k < l.length
      · obtain ⟨ad, rfl, x0⟩ := HL.out.fresh hkk k hlt
        obtain ⟨ad', rfl, y0⟩ := HM.out.fresh hkk k (by rw [← HN.out]; exact hlt)
        generalize hd : l[k] = d1 at x0
        generalize hd' : m[k]'(by rw [← HN.out]; exact hlt) = d2 at y0
        have HD := Lib.hid hd
        have HD' := Lib.hid hd'
        clear hd hd' hkk hat
        by_cases he : d1 = d2
        · have hx : (d1 != d2) = false := by simp [he]
          have HE := Lib.hid he
          clear he
          go_wp2_with (fail)
          go_quiet (fail)
          go_wp2
          go_roundw
          case rel =>
            refine ⟨k + 1, by go_num, by omega, ?_, HK.out.trans (Kept.drewN_eq nq) fun _ _ e => e⟩
            have hm' : k < m.length := by rw [← HN.out]; exact hlt
            rw [List.take_succ_eq_append_getElem hlt, List.take_succ_eq_append_getElem hm', HAT.out, HD.out, HD'.out, HE.out]
          case measure => simp [intOf]; omega
        · have hx : (d1 != d2) = true := by simp [he]
          have HE := Lib.hid he
          clear he
          go_wp2_with (fail)
          go_quiet (fail)
          go_wp2
          go_ret
          refine ⟨?_, HK.out.trans (Kept.drewN_eq nq) fun _ _ e => e⟩
          rw [← HBB.out]
          refine (ret_bool (decide_eq_false fun e => HE.out ?_)).symm
          subst e
          exact HD.out.symm.trans HD'.out
      · obtain rfl : k = l.length := by omega
        have hkk' := HK.out
        clear hat hkk
        go_wp2
        go_ret
        refine ⟨?_, hkk'⟩
        rw [← HBB.out]
        refine (ret_bool (decide_eq_true ?_)).symm
        have := HAT.out
        rwa [List.take_length, HN.out, List.take_length] at this
  · have hn' : (l.length : Int) ≠ m.length := by omega
    have hb : decide (l = m) = false := decide_eq_false fun e => hn (by rw [e])
    rw [hb]
    generalize l.length = p at *
    generalize m.length = q at *
    clear hb hl hm
    go_enter Try.func23, Try.ntmps23
    go_wp2
    go_ret
    exact ⟨rfl, Kept.refl _ _⟩

end Go.Proofs.Ytnlklhlnnoihiaa
