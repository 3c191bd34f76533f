/- The walk of the reference's vector Take from any place. Conditions: the bytes lie in memory as BytesAt says. · The walk of the reference's TakeText. Conditions: the bytes lie in memory as BytesAt says. · The walks of the reference's Read, Left, End. Conditions: the place lies in the bytes. -/
import Derived.Test.YtnlklhlnnoihiaaDEA
import Derived.Test.YtnlklhlnnoihiaaMO33
namespace Go.Proofs.Ytnlklhlnnoihiaa
open Go.RowKit

/-- What the reference's vector Take answers; its list lies behind what there was. -/
def RTakeGPost (w : World) (A : Option Addr) (b : List Int) (c : Nat) (x : Int × List Dt × Rd) (r : Ending) (w' : World) : Prop :=
  ∃ V C a, r = .returned (.tuple #[.slice V x.2.1.length C, .agg (rdV A b c a x.2.2.e), .int .i64 x.1]) ∧ a ≤ b.length ∧ b.drop a = x.2.2.l ∧ w'.ownsRow w.heap.size 23 2 (.slice V x.2.1.length C) x.2.1.length (dots x.2.1) ∧ Kept (fun _ => False) w w'
theorem RTakeGPost.ret {w w' : World} {A : Option Addr} {b : List Int} {c g C n : Nat} {V : Option Addr} {er e : Int} {L : List Dt} {s : Rd} {x : Int × List Dt × Rd} {ac : Act} {a : Nat} (hx : x = (er, L, s)) (hse : s.e = e) (hb : Box w' (g + 1) 52 (rdV A b c a e)) (h1 : a ≤ b.length) (h2 : b.drop a = s.l)
    (hd : w'.ownsRow w.heap.size 23 2 (.slice V L.length C) L.length (dots L)) (hk : Kept (fun _ => False) w w') (hn : n = L.length) (e2 : ac.tmps.getD 2 undef = .slice V n C) (e3 : ac.tmps.getD 3 undef = .pointer (some ⟨g + 1, 0, none⟩)) (e4 : ac.tmps.getD 4 undef = .int .i64 er) (hdf : ac.defers = []) :
    bodyPost Try.prog Try.f61 (RTakeGPost w A b c x) Exit.ret ac w' := by
  subst hx hn hse
  exact bodyPost_ret (results_slot_cell_slot (show Try.f61.results = #[.tmp 2, .cell 3 52, .tmp 4] by kernel_rfl) _ _ _ _ _ (g + 1) e2 e3 (load_RR hb) e4) hdf ⟨V, C, a, rfl, h1, h2, hd, hk⟩

set_option maxRecDepth 100000 in
set_option maxHeartbeats 6400000 in
theorem RTakeG_any (A : Option Addr) (b : List Int) (c at_ : Nat) (hat : at_ ≤ b.length) (w : World) (hb : BytesAt w A b) (hby : isByte b) (hlen : b.length ≤ 1000000) (hA : b ≠ [] → ∀ a, A = some a → a.block < w.heap.size) :
    Calls Try.prog 61 #[.agg #[.slice A b.length c, .int .i64 at_, .int .i64 0]] w (RTakeGPost w A b c (takeV ⟨b.drop at_, 0⟩)) := by
  have HK0 := Lib.hid (((Kept.refl (fun _ => False) w).alloc (.cells #[.slice A b.length c, .int .i64 at_, .int .i64 0] 52)).alloc (.cells #[.slice none 0 0, .int .i64 0, .int .i64 0] 52))
  have HR := Lib.hid (show RAt w w.heap.size A b c ⟨b.drop at_, 0⟩ ((w.alloc (.cells #[.slice A b.length c, .int .i64 at_, .int .i64 0] 52)).alloc (.cells #[.slice none 0 0, .int .i64 0, .int .i64 0] 52)) from
    ⟨⟨at_, (Box.new w _ _).alloc _, hat, rfl⟩, (Box.new (w.alloc (.cells #[.slice A b.length c, .int .i64 at_, .int .i64 0] 52)) _ _).at_eq (by simp), hb.fresh HK0.out, hA, HK0.out, Nat.le_refl _⟩)
  have HBY := Lib.hid hby
  obtain ⟨x, hx⟩ : ∃ x, takeV ⟨b.drop at_, 0⟩ = x := ⟨_, rfl⟩
  have HX1 := Lib.hid (show (⟨b.drop at_, 0⟩ : Rd).nx.e ≠ 0 → x = ((⟨b.drop at_, 0⟩ : Rd).nx.e, [], (⟨b.drop at_, 0⟩ : Rd).nx) from fun h => by rw [← hx]; exact if_pos h)
  have HX2 := Lib.hid (show (⟨b.drop at_, 0⟩ : Rd).nx.e = 0 → 16 < (⟨b.drop at_, 0⟩ : Rd).val → x = (6, [], (⟨b.drop at_, 0⟩ : Rd).nx) from fun h h' => by rw [← hx, takeV, if_neg (fun h'' => h'' h), if_pos h'])
  have HX3 := Lib.hid (show (⟨b.drop at_, 0⟩ : Rd).nx.e = 0 → ¬ 16 < (⟨b.drop at_, 0⟩ : Rd).val → takeLoop (⟨b.drop at_, 0⟩ : Rd).val 0 [] (⟨b.drop at_, 0⟩ : Rd).nx = x from fun h h' => by rw [← hx, takeV, if_neg (fun h'' => h'' h), if_neg h'])
  rw [hx]
  clear hx hb hby hA HK0
  generalize hs0 : (⟨b.drop at_, 0⟩ : Rd) = s0 at HR HX1 HX2 HX3
  have HS0 := Lib.hid (show (⟨b.drop at_, 0⟩ : Rd) = s0 by rw [← hs0])
  clear hs0
  go_enter Try.func61, Try.ntmps61
  go_wp2_with (fail)
  generalize (w.alloc (.cells #[.slice A b.length c, .int .i64 at_, .int .i64 0] 52)).alloc (.cells #[.slice none 0 0, .int .i64 0, .int .i64 0] 52) = W at HR ⊢

  refine (RTNum_any A b c at_ 0 _ HR.out.bytes HBY.out hat hlen).mono ?_
  rw [HS0.out]
  rintro r w1 ⟨a1, rfl, ha1, hl1, hk⟩
  have HR1 := Lib.hid (HR.out.fresh hk)
  clear hk HR HS0
  obtain ⟨aq, hbq, -, -⟩ := HR1.out.box
  have HBQ := Lib.hid hbq
  clear hbq
  have ha_a1 := ha1
  have hl_a1 := Lib.hid hl1
  clear ha1 hl1
  by_cases he : s0.nx.e = 0
  · rw [he]
    have HEE := Lib.hid he
    by_cases hn : 16 < s0.val
    · have HXX := Lib.hid (HX2.out he hn)
      have hn' : (16 : Int) < (s0.val : Int) := by omega
      clear HX1 HX2 HX3 he hn
      go_wp2_with (refine wpList_store_box rfl 52 (.tmp 1) (.tmp 14) rfl w.heap.size (rdV A b c a1 0) rfl rfl 52 (rdV A b c aq s0.e) HBQ.out (size_RR.trans rfl) rfl (rdV_one _ _ _ _ _) ?_; intro w2 HB_w2 hk_w2; have z2 : w2.cell? ⟨w.heap.size, 2, none⟩ = some (.int .i64 0) := (by simpa [rdV] using HB_w2.out.cell 2))
      have HR2 := Lib.hid (HR1.out.store (s' := s0.nx) (a := a1) (by rw [HEE.out]; exact HB_w2.out) ha_a1 hl_a1.out hk_w2)
      clear z2
      have y0 : w2.cell? ⟨w.heap.size, 0, none⟩ = some (.slice A b.length c) := by simpa [rdV] using HB_w2.out.cell 0
      have y1 : w2.cell? ⟨w.heap.size, 1, none⟩ = some (.int .i64 a1) := by simpa [rdV] using HB_w2.out.cell 1
      have y2 : w2.cell? ⟨w.heap.size, 2, none⟩ = some (.int .i64 0) := by simpa [rdV] using HB_w2.out.cell 2
      go_wp2_with (fail)
      go_still_tail 2, (by kernel_rfl)
      change wpList _ _ _ _ _ w2.drew
      have HR9 := Lib.hid (HR2.out.fresh (Kept.refl _ _).drew)
      clear y0 y1 y2
      generalize w2.drew = W9 at HR9 ⊢
      go_wp2_with (refine wpList_store_box rfl 52 (.tmp 3) (.tmp 23) rfl (w.heap.size + 1) (rdV A b c a1 0) rfl rfl 52 (rdV none [] 0 0 0) HR9.out.res (size_RR.trans rfl) rfl (rdV_one _ _ _ _ _) ?_; intro w9 HBX hkX)
      exact RTakeGPost.ret (g := w.heap.size) (s := _) HXX.out HEE.out HBX.out ha_a1 hl_a1.out (World.ownsRow_nil _ _ _ _) (HR9.out.k.trans hkX fun k hk e => by omega) rfl rfl rfl rfl rfl
    · have HXX := Lib.hid (HX3.out he hn)
      have hn' : ¬ (16 : Int) < (s0.val : Int) := by omega
      clear HX1 HX2 HX3 he
      go_wp2_with (refine wpList_store_box rfl 52 (.tmp 1) (.tmp 14) rfl w.heap.size (rdV A b c a1 0) rfl rfl 52 (rdV A b c aq s0.e) HBQ.out (size_RR.trans rfl) rfl (rdV_one _ _ _ _ _) ?_; intro w2 HB_w2 hk_w2; have z2 : w2.cell? ⟨w.heap.size, 2, none⟩ = some (.int .i64 0) := (by simpa [rdV] using HB_w2.out.cell 2))
      have HR2 := Lib.hid (HR1.out.store (s' := s0.nx) (a := a1) (by rw [HEE.out]; exact HB_w2.out) ha_a1 hl_a1.out hk_w2)
      clear z2 HB_w2 hk_w2 ha_a1 hl_a1 HR1 HBQ
      generalize s0.nx = s1 at HR2 HXX HEE
      generalize s0.val = n at hn hn' HXX ⊢
      go_loopw [6, 7, 8] (fun v t i wr => ∃ (k : Nat) (last : Int) (acc : List Dt) (s' : Rd), i = .int .i64 k ∧ k ≤ n ∧ t = .int .i64 last ∧ acc.length = k ∧ wr.ownsRow w.heap.size 23 2 v acc.length (dots acc) ∧ takeLoop (n - k) last acc s' = x ∧ s'.e = 0 ∧ RAt w w.heap.size A b c s' wr) (fun _ _ i _ => n - (intOf i).toNat)
      case atStart => exact ⟨0, 0, [], s1, rfl, Nat.zero_le _, rfl, rfl, World.ownsRow_nil _ _ _ _, HXX.out, HEE.out, HR2.out⟩
      case round =>
        clear HR2 HXX HEE
        obtain ⟨k, last, acc, s', rfl, hk, rfl, hacc, hown, htl, hse, hrat⟩ := hrel
        obtain ⟨V, cv, rfl⟩ := own_form hown
        by_cases hlt : k < n
        · have HT := Lib.hid (show takeLoop (n - (k + 1) + 1) last acc s' = x by rw [← htl]; congr 1; omega)
          have HSE := Lib.hid hse
          have HA := Lib.hid hacc
          have haccl : acc.length ≤ 16 := by omega
          have hka := (Kept.refl (fun _ => False) wr).alloc (.cells #[.int .i64 0, .int .i64 0] 23)
          have HRd := Lib.hid (hrat.fresh hka)
          have HO := Lib.hid (hown.alloc (.cells #[.int .i64 0, .int .i64 0] 23))
          have HBd := Lib.hid (Box.new wr 23 #[.int .i64 0, .int .i64 0])
          have HGD := Lib.hid (show w.heap.size + 2 ≤ wr.heap.size from by have := hrat.res.lt; omega)
          have HOG := Lib.hid (show ∀ j, (Value.slice V acc.length cv).ownBlock = some j → j < wr.heap.size ∧ w.heap.size ≤ j from fun j e => ⟨(hown.lt j e).2, (hown.lt j e).1⟩)
          have HOB := Lib.hid (show (Value.slice V acc.length cv).ownBlock ≠ some w.heap.size ∧ (Value.slice V acc.length cv).ownBlock ≠ some (w.heap.size + 1) from by
            obtain ⟨_, hbb, _⟩ := hrat.box
            exact ⟨own_box_ne hown hbb (by decide), own_box_ne hown hrat.res (by decide)⟩)
          obtain ⟨ak, hbk, ha_ak, hl_ak⟩ := HRd.out.box
          rw [hse] at hbk
          have hs : (⟨b.drop ak, 0⟩ : Rd) = s' := by rw [hl_ak, ← hse]
          have HS := Lib.hid hs
          have HBk := Lib.hid hbk
          clear hown htl hse hrat hacc hka hbk hl_ak hs
          go_upto_region 12 with (fail)
          generalize wr.alloc (.cells #[.int .i64 0, .int .i64 0] 23) = Wd at HRd HO HBd HBk ⊢
          obtain ⟨gd, hgd⟩ : ∃ gd, wr.heap.size = gd := ⟨_, rfl⟩
          rw [hgd] at HBd HGD HOG ⊢
          clear hgd
          have y0 : Wd.cell? ⟨w.heap.size, 0, none⟩ = some (.slice A b.length c) := by simpa [rdV] using HBk.out.cell 0
          have y1 : Wd.cell? ⟨w.heap.size, 1, none⟩ = some (.int .i64 ak) := by simpa [rdV] using HBk.out.cell 1
          have y2 : Wd.cell? ⟨w.heap.size, 2, none⟩ = some (.int .i64 0) := by simpa [rdV] using HBk.out.cell 2
          go_wp2_with (fail)
          refine (RTNum_any A b c ak 0 _ HRd.out.bytes HBY.out ha_ak hlen).mono ?_
          rw [HS.out]
          rintro r w3 ⟨a3, rfl, ha_a3, hl3, hk3⟩
          have hl_a3 := Lib.hid hl3
          have HR3 := Lib.hid ((HRd.out.fresh hk3).kept (w2 := w3.setCell ⟨gd, 0, none⟩ (.int .i64 (s'.val : Int))) ((Kept.refl (fun k => k = gd) _).at 0 _ (.inl rfl)) fun k e => by have := HGD.out; omega)
          have HB3 := Lib.hid ((HBk.out.kept hk3 id).far (p := ⟨gd, 0, none⟩) (by have := HGD.out; show w.heap.size ≠ gd; omega) (.int .i64 (s'.val : Int)))
          have HD3 := Lib.hid (show Box (w3.setCell ⟨gd, 0, none⟩ (.int .i64 (s'.val : Int))) gd 23 #[.int .i64 (s'.val : Int), .int .i64 0] from by have := (HBd.out.kept hk3 id).set 0 (.int .i64 (s'.val : Int)); simpa using this)
          have HO3 := Lib.hid ((show Kept (fun k => k = gd) w3 (w3.setCell ⟨gd, 0, none⟩ (.int .i64 (s'.val : Int))) from (Kept.refl _ _).at 0 _ (.inl rfl)).own (hk3.own HO.out fun _ _ => id) fun j e hj => by have := (HOG.out j e).1; omega)
          have d0 : w3.cell? ⟨gd, 0, none⟩ = some (.int .i64 0) := by simpa using (HBd.out.kept hk3 id).cell 0
          have df : w3.frozen? ⟨gd, 0, none⟩ = false := (HBd.out.kept hk3 id).frozen 0
          clear hl3 hk3 HRd HBk HBd HO HS y0 y1 y2
          have HT1 := Lib.hid (show s'.nx.e ≠ 0 → x = (s'.nx.e, [], s'.nx) from fun h => by rw [← HT.out, tl1 h])
          have HT2 := Lib.hid (show s'.nx.e = 0 → siteB s'.val = false ∨ (s'.val : Int) ≤ last → x = (6, [], s'.nx) from fun h h' => by rw [← HT.out, tl2 h h'])
          have HT3 := Lib.hid (show s'.nx.e = 0 → ¬ (siteB s'.val = false ∨ (s'.val : Int) ≤ last) → s'.nx.nx.e ≠ 0 → x = (s'.nx.nx.e, [], s'.nx.nx) from fun h h' h'' => by rw [← HT.out, tl3 h h' h''])
          have HT4 := Lib.hid (show s'.nx.e = 0 → ¬ (siteB s'.val = false ∨ (s'.val : Int) ≤ last) → s'.nx.nx.e = 0 → s'.nx.val < 1 ∨ 2147483647 < s'.nx.val → x = (6, [], s'.nx.nx) from fun h h' h'' h4 => by rw [← HT.out, tl4 h h' h'' h4])
          have HT5 := Lib.hid (show s'.nx.e = 0 → ¬ (siteB s'.val = false ∨ (s'.val : Int) ≤ last) → s'.nx.nx.e = 0 → ¬ (s'.nx.val < 1 ∨ 2147483647 < s'.nx.val) → takeLoop (n - (k + 1)) s'.val (acc ++ [⟨s'.val, s'.nx.val⟩]) s'.nx.nx = x from fun h h' h'' h4 => by rw [← HT.out, tl5 h h' h'' h4])
          clear HT
          generalize s'.val = st at HT2 HT3 HT4 HT5 HR3 HB3 HD3 HO3 ⊢
          generalize s'.nx = s2 at HT1 HT2 HT3 HT4 HT5 hl_a3 ⊢
          by_cases he : s2.e = 0
          case' neg =>
            have HXX := Lib.hid (HT1.out he)
            have e1 : (s2.e != 0) = true := by simp [he]
            obtain ⟨ee, hee⟩ : ∃ ee, s2.e = ee := ⟨_, rfl⟩
            rw [hee] at e1 ⊢
            have HEE := Lib.hid hee
            clear HT1 HT2 HT3 HT4 HT5 he hee
            go_wp2_with (refine wpList_store_box rfl 52 (.tmp 1) (.tmp 33) rfl w.heap.size (rdV A b c a3 ee) rfl rfl 52 (rdV A b c ak 0) HB3.out (size_RR.trans rfl) rfl (rdV_one _ _ _ _ _) ?_; intro w5 HB_w5 hk_w5; have z0 : w5.cell? ⟨w.heap.size, 0, none⟩ = some (.slice A b.length c) := (by simpa [rdV] using HB_w5.out.cell 0); have z1 : w5.cell? ⟨w.heap.size, 1, none⟩ = some (.int .i64 a3) := (by simpa [rdV] using HB_w5.out.cell 1); have z2 : w5.cell? ⟨w.heap.size, 2, none⟩ = some (.int .i64 ee) := (by simpa [rdV] using HB_w5.out.cell 2); have q0 : w5.cell? ⟨gd, 0, none⟩ = some (.int .i64 (st : Int)) := (by simpa using (HD3.out.kept hk_w5 (by have := HGD.out; omega)).cell 0); have q1 : w5.cell? ⟨gd, 1, none⟩ = some (.int .i64 0) := (by simpa using (HD3.out.kept hk_w5 (by have := HGD.out; omega)).cell 1))
            have HR5 := Lib.hid (HR3.out.store (s' := s2) (a := a3) (by rw [HEE.out]; exact HB_w5.out) ha_a3 hl_a3.out hk_w5)
            clear z0 z1 z2 q0 q1 d0 df
            have y0 : w5.cell? ⟨w.heap.size, 0, none⟩ = some (.slice A b.length c) := by simpa [rdV] using HB_w5.out.cell 0
            have y1 : w5.cell? ⟨w.heap.size, 1, none⟩ = some (.int .i64 a3) := by simpa [rdV] using HB_w5.out.cell 1
            have y2 : w5.cell? ⟨w.heap.size, 2, none⟩ = some (.int .i64 ee) := by simpa [rdV] using HB_w5.out.cell 2
            have r0 : w5.cell? ⟨w.heap.size + 1, 0, none⟩ = some (.slice none 0 0) := by simpa [rdV] using HR5.out.res.cell 0
            have f0 : w5.frozen? ⟨w.heap.size + 1, 0, none⟩ = false := HR5.out.res.frozen 0
            have r1 : w5.cell? ⟨w.heap.size + 1, 1, none⟩ = some (.int .i64 0) := by simpa [rdV] using HR5.out.res.cell 1
            have f1 : w5.frozen? ⟨w.heap.size + 1, 1, none⟩ = false := HR5.out.res.frozen 1
            have r2 : w5.cell? ⟨w.heap.size + 1, 2, none⟩ = some (.int .i64 0) := by simpa [rdV] using HR5.out.res.cell 2
            have f2 : w5.frozen? ⟨w.heap.size + 1, 2, none⟩ = false := HR5.out.res.frozen 2
            go_wp2_with (fail)
            go_region
            all_goals
              go_wp2
              have hbx : Box (((w5.drew.setCell ⟨w.heap.size + 1, 0, none⟩ (.slice A b.length c)).setCell ⟨w.heap.size + 1, 1, none⟩ (.int .i64 a3)).setCell ⟨w.heap.size + 1, 2, none⟩ (.int .i64 ee)) (w.heap.size + 1) 52 (rdV A b c a3 ee) := by
                have := (((HR5.out.fresh (Kept.refl _ _).drew).res.set 0 (.slice A b.length c)).set 1 (.int .i64 a3)).set 2 (.int .i64 ee)
                simpa [rdV] using this
              have hkx : Kept (fun k => k = w.heap.size + 1) w5 (((w5.drew.setCell ⟨w.heap.size + 1, 0, none⟩ (.slice A b.length c)).setCell ⟨w.heap.size + 1, 1, none⟩ (.int .i64 a3)).setCell ⟨w.heap.size + 1, 2, none⟩ (.int .i64 ee)) := ((((Kept.refl (fun k => k = w.heap.size + 1) w5).drew).at 0 _ (.inl rfl)).at 1 _ (.inl rfl)).at 2 _ (.inl rfl)
              exact RTakeGPost.ret (g := w.heap.size) (s := _) (HXX.out.trans (by rw [HEE.out])) HEE.out hbx ha_a3 hl_a3.out (World.ownsRow_nil _ _ _ _) (HR5.out.k.trans hkx fun k hk e => by omega) rfl rfl rfl rfl rfl
          have HEE := Lib.hid he
          rw [he]
          clear HT1 he
          have hst : (siteB (st : Int) = false ∨ (st : Int) ≤ last) ∨ ¬ (siteB (st : Int) = false ∨ (st : Int) ≤ last) := Classical.em _
          rcases hst with hst | hst
          · have HXX := Lib.hid (HT2.out HEE.out hst)
            have hc : (st : Int) < 1 ∨ (1 ≤ (st : Int) ∧ 16 < (st : Int)) ∨ (1 ≤ (st : Int) ∧ (st : Int) ≤ 16 ∧ (st : Int) ≤ last) := by simp [siteB] at hst; omega
            clear HT2 HT3 HT4 HT5 hst
            rcases hc with hc | ⟨hc, hc2⟩ | ⟨hc, hc2, hc3⟩
            all_goals
              go_wp2_with (refine wpList_store_box rfl 52 (.tmp 1) (.tmp 33) rfl w.heap.size (rdV A b c a3 0) rfl rfl 52 (rdV A b c ak 0) HB3.out (size_RR.trans rfl) rfl (rdV_one _ _ _ _ _) ?_; intro w5 HB_w5 hk_w5; have z0 : w5.cell? ⟨w.heap.size, 0, none⟩ = some (.slice A b.length c) := (by simpa [rdV] using HB_w5.out.cell 0); have z1 : w5.cell? ⟨w.heap.size, 1, none⟩ = some (.int .i64 a3) := (by simpa [rdV] using HB_w5.out.cell 1); have z2 : w5.cell? ⟨w.heap.size, 2, none⟩ = some (.int .i64 0) := (by simpa [rdV] using HB_w5.out.cell 2); have q0 : w5.cell? ⟨gd, 0, none⟩ = some (.int .i64 (st : Int)) := (by simpa using (HD3.out.kept hk_w5 (by have := HGD.out; omega)).cell 0); have q1 : w5.cell? ⟨gd, 1, none⟩ = some (.int .i64 0) := (by simpa using (HD3.out.kept hk_w5 (by have := HGD.out; omega)).cell 1))
              have HR5 := Lib.hid (HR3.out.store (s' := s2) (a := a3) (by rw [HEE.out]; exact HB_w5.out) ha_a3 hl_a3.out hk_w5)
              clear z0 z1 z2 q0 q1 d0 df
              have y0 : w5.cell? ⟨w.heap.size, 0, none⟩ = some (.slice A b.length c) := by simpa [rdV] using HB_w5.out.cell 0
              have y1 : w5.cell? ⟨w.heap.size, 1, none⟩ = some (.int .i64 a3) := by simpa [rdV] using HB_w5.out.cell 1
              have y2 : w5.cell? ⟨w.heap.size, 2, none⟩ = some (.int .i64 0) := by simpa [rdV] using HB_w5.out.cell 2
              go_wp2_with (fail)
              go_still_tail 2, (by kernel_rfl)
              change wpList _ _ _ _ _ w5.drew
              have HR9 := Lib.hid (HR5.out.fresh (Kept.refl _ _).drew)
              clear y0 y1 y2
              generalize w5.drew = W9 at HR9 ⊢
              go_wp2_with (refine wpList_store_box rfl 52 (.tmp 3) (.tmp 55) rfl (w.heap.size + 1) (rdV A b c a3 0) rfl rfl 52 (rdV none [] 0 0 0) HR9.out.res (size_RR.trans rfl) rfl (rdV_one _ _ _ _ _) ?_; intro w9 HBX hkX)
              exact RTakeGPost.ret (g := w.heap.size) (s := _) HXX.out HEE.out HBX.out ha_a3 hl_a3.out (World.ownsRow_nil _ _ _ _) (HR9.out.k.trans hkX fun k hk e => by omega) rfl rfl rfl rfl rfl
          · have HT3' := Lib.hid (HT3.out HEE.out hst)
            have HT4' := Lib.hid (HT4.out HEE.out hst)
            have HT5' := Lib.hid (HT5.out HEE.out hst)
            obtain ⟨hc1, hc2, hc3⟩ : 1 ≤ (st : Int) ∧ (st : Int) ≤ 16 ∧ ¬ (st : Int) ≤ last := by simp [siteB] at hst; omega
            clear HT2 HT3 HT4 HT5 hst
            go_wp2_with (refine wpList_store_box rfl 52 (.tmp 1) (.tmp 33) rfl w.heap.size (rdV A b c a3 0) rfl rfl 52 (rdV A b c ak 0) HB3.out (size_RR.trans rfl) rfl (rdV_one _ _ _ _ _) ?_; intro w5 HB_w5 hk_w5; have z0 : w5.cell? ⟨w.heap.size, 0, none⟩ = some (.slice A b.length c) := (by simpa [rdV] using HB_w5.out.cell 0); have z1 : w5.cell? ⟨w.heap.size, 1, none⟩ = some (.int .i64 a3) := (by simpa [rdV] using HB_w5.out.cell 1); have z2 : w5.cell? ⟨w.heap.size, 2, none⟩ = some (.int .i64 0) := (by simpa [rdV] using HB_w5.out.cell 2); have q0 : w5.cell? ⟨gd, 0, none⟩ = some (.int .i64 (st : Int)) := (by simpa using (HD3.out.kept hk_w5 (by have := HGD.out; omega)).cell 0); have q1 : w5.cell? ⟨gd, 1, none⟩ = some (.int .i64 0) := (by simpa using (HD3.out.kept hk_w5 (by have := HGD.out; omega)).cell 1))
            have HR5 := Lib.hid (HR3.out.store (s' := s2) (a := a3) (by rw [HEE.out]; exact HB_w5.out) ha_a3 hl_a3.out hk_w5)
            have HD5 := Lib.hid (HD3.out.kept hk_w5 (by have := HGD.out; omega))
            have HO5 := Lib.hid (hk_w5.own HO3.out fun j e hj => by subst hj; exact HOB.out.1 e)
            have HS2 := Lib.hid (show (⟨b.drop a3, 0⟩ : Rd) = s2 by rw [hl_a3.out, ← HEE.out])
            clear z0 z1 z2 q0 q1 d0 df hk_w5 HR3 HB3 HD3 HO3 HEE hl_a3
            refine (RTNum_any A b c a3 0 _ HR5.out.bytes HBY.out ha_a3 hlen).mono ?_
            rw [HS2.out]
            rintro r w6 ⟨a6, rfl, ha_a6, hl6, hk6⟩
            have hl_a6 := Lib.hid hl6
            have HR6 := Lib.hid ((HR5.out.fresh hk6).kept (w2 := w6.setCell ⟨gd, 1, none⟩ (.int .i64 (s2.val : Int))) ((Kept.refl (fun k => k = gd) _).at 1 _ (.inl rfl)) fun k e => by have := HGD.out; omega)
            have HB6 := Lib.hid ((HB_w5.out.kept hk6 id).far (p := ⟨gd, 1, none⟩) (by have := HGD.out; show w.heap.size ≠ gd; omega) (.int .i64 (s2.val : Int)))
            have HD6 := Lib.hid (show Box (w6.setCell ⟨gd, 1, none⟩ (.int .i64 (s2.val : Int))) gd 23 #[.int .i64 (st : Int), .int .i64 (s2.val : Int)] from by have := (HD5.out.kept hk6 id).set 1 (.int .i64 (s2.val : Int)); simpa using this)
            have HO6 := Lib.hid ((show Kept (fun k => k = gd) w6 (w6.setCell ⟨gd, 1, none⟩ (.int .i64 (s2.val : Int))) from (Kept.refl _ _).at 1 _ (.inl rfl)).own (hk6.own HO5.out fun _ _ => id) fun j e hj => by have := (HOG.out j e).1; omega)
            have d0 : w6.cell? ⟨gd, 1, none⟩ = some (.int .i64 0) := by simpa using (HD5.out.kept hk6 id).cell 1
            have df : w6.frozen? ⟨gd, 1, none⟩ = false := (HD5.out.kept hk6 id).frozen 1
            clear hl6 hk6 HR5 HB_w5 HD5 HO5 HS2
            generalize s2.val = sq at HT4' HT5' HR6 HB6 HD6 HO6 ⊢
            generalize s2.nx = s3 at HT3' HT4' HT5' hl_a6 ⊢
            by_cases he : s3.e = 0
            case' neg =>
              have HXX := Lib.hid (HT3'.out he)
              have e1 : (s3.e != 0) = true := by simp [he]
              obtain ⟨ee, hee⟩ : ∃ ee, s3.e = ee := ⟨_, rfl⟩
              rw [hee] at e1 ⊢
              have HEE := Lib.hid hee
              clear HT3' HT4' HT5' he hee
              go_wp2_with (refine wpList_store_box rfl 52 (.tmp 1) (.tmp 62) rfl w.heap.size (rdV A b c a6 ee) rfl rfl 52 (rdV A b c a3 0) HB6.out (size_RR.trans rfl) rfl (rdV_one _ _ _ _ _) ?_; intro w8 HB_w8 hk_w8; have z0 : w8.cell? ⟨w.heap.size, 0, none⟩ = some (.slice A b.length c) := (by simpa [rdV] using HB_w8.out.cell 0); have z1 : w8.cell? ⟨w.heap.size, 1, none⟩ = some (.int .i64 a6) := (by simpa [rdV] using HB_w8.out.cell 1); have z2 : w8.cell? ⟨w.heap.size, 2, none⟩ = some (.int .i64 ee) := (by simpa [rdV] using HB_w8.out.cell 2); have q0 : w8.cell? ⟨gd, 0, none⟩ = some (.int .i64 (st : Int)) := (by simpa using (HD6.out.kept hk_w8 (by have := HGD.out; omega)).cell 0); have q1 : w8.cell? ⟨gd, 1, none⟩ = some (.int .i64 (sq : Int)) := (by simpa using (HD6.out.kept hk_w8 (by have := HGD.out; omega)).cell 1))
              have HR8 := Lib.hid (HR6.out.store (s' := s3) (a := a6) (by rw [HEE.out]; exact HB_w8.out) ha_a6 hl_a6.out hk_w8)
              clear z0 z1 z2 q0 q1 d0 df
              have y0 : w8.cell? ⟨w.heap.size, 0, none⟩ = some (.slice A b.length c) := by simpa [rdV] using HB_w8.out.cell 0
              have y1 : w8.cell? ⟨w.heap.size, 1, none⟩ = some (.int .i64 a6) := by simpa [rdV] using HB_w8.out.cell 1
              have y2 : w8.cell? ⟨w.heap.size, 2, none⟩ = some (.int .i64 ee) := by simpa [rdV] using HB_w8.out.cell 2
              have r0 : w8.cell? ⟨w.heap.size + 1, 0, none⟩ = some (.slice none 0 0) := by simpa [rdV] using HR8.out.res.cell 0
              have f0 : w8.frozen? ⟨w.heap.size + 1, 0, none⟩ = false := HR8.out.res.frozen 0
              have r1 : w8.cell? ⟨w.heap.size + 1, 1, none⟩ = some (.int .i64 0) := by simpa [rdV] using HR8.out.res.cell 1
              have f1 : w8.frozen? ⟨w.heap.size + 1, 1, none⟩ = false := HR8.out.res.frozen 1
              have r2 : w8.cell? ⟨w.heap.size + 1, 2, none⟩ = some (.int .i64 0) := by simpa [rdV] using HR8.out.res.cell 2
              have f2 : w8.frozen? ⟨w.heap.size + 1, 2, none⟩ = false := HR8.out.res.frozen 2
              go_wp2_with (fail)
              go_region
              all_goals
                go_wp2
                have hbx : Box (((w8.drew.setCell ⟨w.heap.size + 1, 0, none⟩ (.slice A b.length c)).setCell ⟨w.heap.size + 1, 1, none⟩ (.int .i64 a6)).setCell ⟨w.heap.size + 1, 2, none⟩ (.int .i64 ee)) (w.heap.size + 1) 52 (rdV A b c a6 ee) := by
                  have := (((HR8.out.fresh (Kept.refl _ _).drew).res.set 0 (.slice A b.length c)).set 1 (.int .i64 a6)).set 2 (.int .i64 ee)
                  simpa [rdV] using this
                have hkx : Kept (fun k => k = w.heap.size + 1) w8 (((w8.drew.setCell ⟨w.heap.size + 1, 0, none⟩ (.slice A b.length c)).setCell ⟨w.heap.size + 1, 1, none⟩ (.int .i64 a6)).setCell ⟨w.heap.size + 1, 2, none⟩ (.int .i64 ee)) := ((((Kept.refl (fun k => k = w.heap.size + 1) w8).drew).at 0 _ (.inl rfl)).at 1 _ (.inl rfl)).at 2 _ (.inl rfl)
                exact RTakeGPost.ret (g := w.heap.size) (s := _) (HXX.out.trans (by rw [HEE.out])) HEE.out hbx ha_a6 hl_a6.out (World.ownsRow_nil _ _ _ _) (HR8.out.k.trans hkx fun k hk e => by omega) rfl rfl rfl rfl rfl
            have HEE := Lib.hid he
            have HT4 := Lib.hid (HT4'.out he)
            have HT5 := Lib.hid (HT5'.out he)
            rw [he]
            clear HT3' HT4' HT5' he
            by_cases hq : sq < 1 ∨ 2147483647 < sq
            · have HXX := Lib.hid (HT4.out hq)
              have hc : (sq : Int) < 1 ∨ (1 ≤ (sq : Int) ∧ 2147483647 < (sq : Int)) := by omega
              clear HT4 HT5 hq
              rcases hc with hc | ⟨hc, hc4⟩
              all_goals
                go_wp2_with (refine wpList_store_box rfl 52 (.tmp 1) (.tmp 62) rfl w.heap.size (rdV A b c a6 0) rfl rfl 52 (rdV A b c a3 0) HB6.out (size_RR.trans rfl) rfl (rdV_one _ _ _ _ _) ?_; intro w8 HB_w8 hk_w8; have z0 : w8.cell? ⟨w.heap.size, 0, none⟩ = some (.slice A b.length c) := (by simpa [rdV] using HB_w8.out.cell 0); have z1 : w8.cell? ⟨w.heap.size, 1, none⟩ = some (.int .i64 a6) := (by simpa [rdV] using HB_w8.out.cell 1); have z2 : w8.cell? ⟨w.heap.size, 2, none⟩ = some (.int .i64 0) := (by simpa [rdV] using HB_w8.out.cell 2); have q0 : w8.cell? ⟨gd, 0, none⟩ = some (.int .i64 (st : Int)) := (by simpa using (HD6.out.kept hk_w8 (by have := HGD.out; omega)).cell 0); have q1 : w8.cell? ⟨gd, 1, none⟩ = some (.int .i64 (sq : Int)) := (by simpa using (HD6.out.kept hk_w8 (by have := HGD.out; omega)).cell 1))
                have HR8 := Lib.hid (HR6.out.store (s' := s3) (a := a6) (by rw [HEE.out]; exact HB_w8.out) ha_a6 hl_a6.out hk_w8)
                clear z0 z1 z2 q0 q1 d0 df
                have y0 : w8.cell? ⟨w.heap.size, 0, none⟩ = some (.slice A b.length c) := by simpa [rdV] using HB_w8.out.cell 0
                have y1 : w8.cell? ⟨w.heap.size, 1, none⟩ = some (.int .i64 a6) := by simpa [rdV] using HB_w8.out.cell 1
                have y2 : w8.cell? ⟨w.heap.size, 2, none⟩ = some (.int .i64 0) := by simpa [rdV] using HB_w8.out.cell 2
                go_wp2_with (fail)
                go_still_tail 2, (by kernel_rfl)
                change wpList _ _ _ _ _ w8.drew
                have HR9 := Lib.hid (HR8.out.fresh (Kept.refl _ _).drew)
                clear y0 y1 y2
                generalize w8.drew = W9 at HR9 ⊢
                go_wp2_with (refine wpList_store_box rfl 52 (.tmp 3) (.tmp 78) rfl (w.heap.size + 1) (rdV A b c a6 0) rfl rfl 52 (rdV none [] 0 0 0) HR9.out.res (size_RR.trans rfl) rfl (rdV_one _ _ _ _ _) ?_; intro w9 HBX hkX)
                exact RTakeGPost.ret (g := w.heap.size) (s := _) HXX.out HEE.out HBX.out ha_a6 hl_a6.out (World.ownsRow_nil _ _ _ _) (HR9.out.k.trans hkX fun k hk e => by omega) rfl rfl rfl rfl rfl
            · have HXX := Lib.hid (HT5.out hq)
              have hq1 : 1 ≤ (sq : Int) := by omega
              have hq2 : (sq : Int) ≤ 2147483647 := by omega
              clear HT4 HT5 hq
              go_upto_region 23 with (refine wpList_store_box rfl 52 (.tmp 1) (.tmp 62) rfl w.heap.size (rdV A b c a6 0) rfl rfl 52 (rdV A b c a3 0) HB6.out (size_RR.trans rfl) rfl (rdV_one _ _ _ _ _) ?_; intro w8 HB_w8 hk_w8; have z2 : w8.cell? ⟨w.heap.size, 2, none⟩ = some (.int .i64 0) := (by simpa [rdV] using HB_w8.out.cell 2); have q0 : w8.cell? ⟨gd, 0, none⟩ = some (.int .i64 (st : Int)) := (by simpa using (HD6.out.kept hk_w8 (by have := HGD.out; omega)).cell 0); have q1 : w8.cell? ⟨gd, 1, none⟩ = some (.int .i64 (sq : Int)) := (by simpa using (HD6.out.kept hk_w8 (by have := HGD.out; omega)).cell 1))
              have HR8 := Lib.hid (HR6.out.store (s' := s3) (a := a6) (by rw [HEE.out]; exact HB_w8.out) ha_a6 hl_a6.out hk_w8)
              have HO8 := Lib.hid (hk_w8.own HO6.out fun j e hj => by subst hj; exact HOB.out.1 e)
              have HSZ := Lib.hid (show w.heap.size ≤ w8.heap.size from by have := HR8.out.res.lt; omega)
              clear z2 d0 df hk_w8 HB_w8 HR6 HB6 HD6 HO6
              have hsz := HSZ.out
              go_wp2_with (at_builtin; refine wpList_append_new eltDts rfl (.tmp 79) (.tmp 81) rfl w.heap.size _ acc.length (dots acc) rfl HO8.out 1 1 rfl rfl rfl (by omega) hsz ?_)
              intro A2 c2 w10 HO10 HK10 _
              have HR10 := Lib.hid (show RAt w w.heap.size A b c s3 w10 from by
                obtain ⟨aq, hbq, h1, h2⟩ := HR8.out.box
                refine ⟨⟨aq, hbq.kept HK10.out fun e => HOB.out.1 e, h1, h2⟩, HR8.out.res.kept HK10.out fun e => HOB.out.2 e, ?_, HR8.out.off, HR8.out.k.trans HK10.out fun k hk e => by have := (HOG.out k e).2; omega, HR8.out.ge⟩
                rcases b with _ | ⟨x, b⟩
                · exact BytesAt.nil
                · exact HR8.out.bytes.kept HK10.out fun a ha e => by have := HR8.out.off (by simp) a ha; have := (HOG.out _ e).2; omega)
              clear q0 q1 HR8 HO8
              go_wp2
              go_roundw
              case rel => exact ⟨k + 1, st, acc ++ [⟨st, sq⟩], s3, by go_num, by omega, rfl, by simp [HA.out], by rw [dots_app, List.length_append]; exact HO10.out, HXX.out, HEE.out, HR10.out⟩
              case measure => simp [intOf]; omega
        · obtain rfl : k = n := by omega
          have HXX := Lib.hid (show x = (0, acc, s') by rw [← htl, Nat.sub_self]; rfl)
          have HRz := Lib.hid hrat
          have HSE := Lib.hid hse
          have HOz := Lib.hid hown
          have HVg := Lib.hid (own_box_ne hown hrat.res (by decide))
          obtain ⟨az, hbz, ha_az, hl_z⟩ := hrat.box
          rw [hse] at hbz
          have HB_z := Lib.hid hbz
          have hl_az := Lib.hid hl_z
          clear hown htl hse hrat hbz hl_z
          have y0 : wr.cell? ⟨w.heap.size, 0, none⟩ = some (.slice A b.length c) := by simpa [rdV] using HB_z.out.cell 0
          have y1 : wr.cell? ⟨w.heap.size, 1, none⟩ = some (.int .i64 az) := by simpa [rdV] using HB_z.out.cell 1
          have y2 : wr.cell? ⟨w.heap.size, 2, none⟩ = some (.int .i64 0) := by simpa [rdV] using HB_z.out.cell 2
          go_wp2_with (fail)
          go_still_tail 3, (by kernel_rfl)
          change wpList _ _ _ _ _ wr.drew
          have HR9 := Lib.hid (HRz.out.fresh (Kept.refl _ _).drew)
          have HD9 := Lib.hid (((Kept.refl (fun _ => False) wr).drew).own HOz.out fun _ _ => id)
          clear y0 y1 y2
          generalize wr.drew = W9 at HR9 HD9 ⊢
          go_wp2_with (refine wpList_store_box rfl 52 (.tmp 3) (.tmp 84) rfl (w.heap.size + 1) (rdV A b c az 0) rfl rfl 52 (rdV none [] 0 0 0) HR9.out.res (size_RR.trans rfl) rfl (rdV_one _ _ _ _ _) ?_; intro w9 HBX hkX)
          exact RTakeGPost.ret (g := w.heap.size) (s := _) HXX.out HSE.out HBX.out ha_az hl_az.out (hkX.own HD9.out fun j e hj => by subst hj; exact HVg.out e) (HR9.out.k.trans hkX fun k hk e => by omega) hacc.symm rfl rfl rfl rfl
  · have HXX := Lib.hid (HX1.out he)
    have e1 : (s0.nx.e != 0) = true := by simp [he]
    obtain ⟨ee, hee⟩ : ∃ ee, s0.nx.e = ee := ⟨_, rfl⟩
    rw [hee] at e1 ⊢
    have HEE := Lib.hid hee
    clear HX1 HX2 HX3 he hee
    go_wp2_with (refine wpList_store_box rfl 52 (.tmp 1) (.tmp 14) rfl w.heap.size (rdV A b c a1 ee) rfl rfl 52 (rdV A b c aq s0.e) HBQ.out (size_RR.trans rfl) rfl (rdV_one _ _ _ _ _) ?_; intro w2 HB_w2 hk_w2; have z2 : w2.cell? ⟨w.heap.size, 2, none⟩ = some (.int .i64 ee) := (by simpa [rdV] using HB_w2.out.cell 2))
    have HR2 := Lib.hid (HR1.out.store (s' := s0.nx) (a := a1) (by rw [HEE.out]; exact HB_w2.out) ha_a1 hl_a1.out hk_w2)
    clear z2
    have y0 : w2.cell? ⟨w.heap.size, 0, none⟩ = some (.slice A b.length c) := by simpa [rdV] using HB_w2.out.cell 0
    have y1 : w2.cell? ⟨w.heap.size, 1, none⟩ = some (.int .i64 a1) := by simpa [rdV] using HB_w2.out.cell 1
    have y2 : w2.cell? ⟨w.heap.size, 2, none⟩ = some (.int .i64 ee) := by simpa [rdV] using HB_w2.out.cell 2
    have r0 : w2.cell? ⟨w.heap.size + 1, 0, none⟩ = some (.slice none 0 0) := by simpa [rdV] using HR2.out.res.cell 0
    have f0 : w2.frozen? ⟨w.heap.size + 1, 0, none⟩ = false := HR2.out.res.frozen 0
    have r1 : w2.cell? ⟨w.heap.size + 1, 1, none⟩ = some (.int .i64 0) := by simpa [rdV] using HR2.out.res.cell 1
    have f1 : w2.frozen? ⟨w.heap.size + 1, 1, none⟩ = false := HR2.out.res.frozen 1
    have r2 : w2.cell? ⟨w.heap.size + 1, 2, none⟩ = some (.int .i64 0) := by simpa [rdV] using HR2.out.res.cell 2
    have f2 : w2.frozen? ⟨w.heap.size + 1, 2, none⟩ = false := HR2.out.res.frozen 2
    go_wp2_with (fail)
    go_region
    all_goals
      go_wp2
      have hbx : Box (((w2.drew.setCell ⟨w.heap.size + 1, 0, none⟩ (.slice A b.length c)).setCell ⟨w.heap.size + 1, 1, none⟩ (.int .i64 a1)).setCell ⟨w.heap.size + 1, 2, none⟩ (.int .i64 ee)) (w.heap.size + 1) 52 (rdV A b c a1 ee) := by
        have := (((HR2.out.fresh (Kept.refl _ _).drew).res.set 0 (.slice A b.length c)).set 1 (.int .i64 a1)).set 2 (.int .i64 ee)
        simpa [rdV] using this
      have hkx : Kept (fun k => k = w.heap.size + 1) w2 (((w2.drew.setCell ⟨w.heap.size + 1, 0, none⟩ (.slice A b.length c)).setCell ⟨w.heap.size + 1, 1, none⟩ (.int .i64 a1)).setCell ⟨w.heap.size + 1, 2, none⟩ (.int .i64 ee)) := ((((Kept.refl (fun k => k = w.heap.size + 1) w2).drew).at 0 _ (.inl rfl)).at 1 _ (.inl rfl)).at 2 _ (.inl rfl)
      exact RTakeGPost.ret (g := w.heap.size) (s := _) (HXX.out.trans (by rw [HEE.out])) HEE.out hbx ha_a1 hl_a1.out (World.ownsRow_nil _ _ _ _) (HR2.out.k.trans hkx fun k hk e => by omega) rfl rfl rfl rfl rfl
end Go.Proofs.Ytnlklhlnnoihiaa

namespace Go.Proofs.Ytnlklhlnnoihiaa
open Go Go.RowKit

theorem BytesAt.mid {w : World} {A : Option Addr} {b : List Int} (h : BytesAt w A b) (a n : Nat) (hn : a + n ≤ b.length) : BytesAt w (Option.map (fun x => x.add a) A) ((b.drop a).take n) := by
  intro k hk
  rw [List.length_take, List.length_drop] at hk
  obtain ⟨ad, e, h0⟩ := h (a + k) (by omega)
  subst e
  refine ⟨ad.add a, rfl, ?_⟩
  rw [Go.Deep.add_add, h0]
  simp
def RTxtPost (w : World) (A : Option Addr) (b : List Int) (c : Nat) (s : Rd) (r : Ending) (w' : World) : Prop :=
  ∃ a, r = .returned (.tuple #[.string s.txt, .agg (rdV A b c a s.nt.e)]) ∧ a ≤ b.length ∧ b.drop a = s.nt.l ∧ Kept (fun _ => False) w w'
theorem RTxtPost.ret {w w' : World} {A : Option Addr} {b : List Int} {c at' g : Nat} {s : Rd} {v : ByteArray} {e' : Int} {l : List Int} {a : Act} (hb : Box w' g 52 (rdV A b c at' e')) (hv : s.txt = v ∧ s.nt = ⟨l, e'⟩) (hat : at' ≤ b.length) (hd : b.drop at' = l) (hk : Kept (fun _ => False) w w')
    (h2 : a.tmps.getD 2 undef = .string v) (h3 : a.tmps.getD 3 undef = .pointer (some ⟨g, 0, none⟩)) (hdf : a.defers = []) : bodyPost Try.prog Try.f62 (RTxtPost w A b c s) Exit.ret a w' := by
  refine bodyPost_ret (v := .tuple #[.string v, .agg (rdV A b c at' e')]) ?_ hdf ⟨at', by rw [hv.1, hv.2], hat, by rw [hv.2]; exact hd, hk⟩
  exact results_slot_cell (show Try.f62.results = #[.tmp 2, .cell 3 52] by kernel_rfl) _ _ _ _ g h2 h3 (load_RR hb)

set_option maxHeartbeats 3200000 in
set_option maxRecDepth 100000 in
theorem RTText_any (A : Option Addr) (b : List Int) (c at_ : Nat) (e : Int) (w : World) (hb : BytesAt w A b) (hby : isByte b) (hat : at_ ≤ b.length) (hlen : b.length ≤ 1000000) (hc : b.length ≤ c ∧ c ≤ maxLen) (hA : b ≠ [] → ∀ a, A = some a → a.block < w.heap.size) :
    Calls Try.prog 62 #[.agg #[.slice A b.length c, .int .i64 at_, .int .i64 e]] w (RTxtPost w A b c ⟨b.drop at_, e⟩) := by
  have HK0 := Lib.hid (((Kept.refl (fun _ => False) w).alloc (.cells #[.slice A b.length c, .int .i64 at_, .int .i64 e] 52)).alloc (.cells #[.slice none 0 0, .int .i64 0, .int .i64 0] 52))
  have HR := Lib.hid (show RAt w w.heap.size A b c ⟨b.drop at_, e⟩ ((w.alloc (.cells #[.slice A b.length c, .int .i64 at_, .int .i64 e] 52)).alloc (.cells #[.slice none 0 0, .int .i64 0, .int .i64 0] 52)) from
    ⟨⟨at_, (Box.new w _ _).alloc _, hat, rfl⟩, (Box.new (w.alloc (.cells #[.slice A b.length c, .int .i64 at_, .int .i64 e] 52)) _ _).at_eq (by simp), hb.fresh HK0.out, hA, HK0.out, Nat.le_refl _⟩)
  have HBY := Lib.hid hby
  have HS0 := Lib.hid (show w.heap.size + 2 ≤ ((w.alloc (.cells #[.slice A b.length c, .int .i64 at_, .int .i64 e] 52)).alloc (.cells #[.slice none 0 0, .int .i64 0, .int .i64 0] 52)).heap.size by simp)
  have HN := Lib.hid (RTNum_any A b c at_ e _ HR.out.bytes HBY.out hat hlen)
  clear hb hby hA HK0
  generalize hs : (⟨b.drop at_, e⟩ : Rd) = s at HR HN ⊢
  clear hs
  have HV := Lib.hid (show s.nx.e ≠ 0 → s.txt = ⟨#[]⟩ ∧ s.nt = ⟨s.l, s.nx.e⟩ from by
    intro h
    by_cases he : s.e = 0
    · exact ⟨by unfold Rd.txt; rw [if_neg (fun e => h e.2.1)], by unfold Rd.nt; rw [if_neg (fun e => e he), if_pos h]⟩
    · have hn : s.nx = s := by unfold Rd.nx; rw [if_neg he]
      exact ⟨by unfold Rd.txt; rw [if_neg (fun e => he e.1)], by unfold Rd.nt; rw [if_pos he, hn]⟩)
  have HZ := Lib.hid (show s.nx.e = 0 → s.e = 0 from by
    intro h
    by_cases he : s.e = 0
    · exact he
    · have hn : s.nx = s := by unfold Rd.nx; rw [if_neg he]
      rw [hn] at h; exact h)
  have HV2 := Lib.hid (show s.nx.e = 0 → ¬ s.val ≤ s.nx.l.length → s.txt = ⟨#[]⟩ ∧ s.nt = ⟨s.l, 5⟩ from fun h h' => ⟨by unfold Rd.txt; rw [if_neg (fun e => h' e.2.2)], by unfold Rd.nt; rw [if_neg (fun e => e (HZ.out h)), if_neg (fun e => e h), if_neg h']⟩)
  have HV3 := Lib.hid (show s.nx.e = 0 → s.val ≤ s.nx.l.length → s.txt = strOfNums (s.nx.l.take s.val) ∧ s.nt = ⟨s.nx.l.drop s.val, 0⟩ from fun h h' => ⟨by unfold Rd.txt; rw [if_pos ⟨HZ.out h, h, h'⟩], by unfold Rd.nt; rw [if_neg (fun e => e (HZ.out h)), if_neg (fun e => e h), if_pos h']⟩)
  go_enter Try.func62, Try.ntmps62
  go_wp2_with (fail)
  generalize (w.alloc (.cells #[.slice A b.length c, .int .i64 at_, .int .i64 e] 52)).alloc (.cells #[.slice none 0 0, .int .i64 0, .int .i64 0] 52) = W at HR HN HS0 ⊢
  refine HN.out.mono ?_
  rintro r w1 ⟨a1, rfl, ha1, hl1, hk⟩
  have HG1 := Lib.hid (show w.heap.size + 2 ≤ w1.heap.size from Nat.le_trans HS0.out hk.size)
  have HR1 := Lib.hid (HR.out.fresh hk |>.fresh ((Kept.refl (fun _ => False) w1).alloc (.cells #[.slice none 0 0, .int .i64 0, .int .i64 0] 52)))
  have HB5 := Lib.hid (show Box (w1.alloc (.cells #[.slice none 0 0, .int .i64 0, .int .i64 0] 52)) w1.heap.size 52 (rdV none [] 0 0 0) from Box.new w1 _ _)
  clear hk HR HN HS0
  have hl_a1 := Lib.hid hl1
  clear hl1
  obtain ⟨aq, hbq, haq, hlq⟩ := HR1.out.box
  have HBQ := Lib.hid hbq
  have HLQ := Lib.hid hlq
  clear hbq hlq
  obtain ⟨ee, hee⟩ : ∃ ee, s.nx.e = ee := ⟨_, rfl⟩
  rw [hee]
  by_cases he : ee = 0
  · subst he
    have hvl : s.val = s.val := rfl
    by_cases hlt : s.val ≤ s.nx.l.length
    · have HT := Lib.hid (HV3.out hee hlt)
      clear HV HV2 HV3 HZ
      have hle : a1 + s.val ≤ b.length := by
        have := congrArg List.length hl_a1.out
        rw [List.length_drop] at this
        omega
      rw [← hl_a1.out] at HT
      clear hlt hee hvl
      have hgt : ¬ ((b.length : Int) - a1 < (s.val : Int)) := by omega
      have hgt' : decide ((b.length : Int) - a1 < (s.val : Int)) = false := decide_eq_false hgt
      generalize s.val = n at hle HT hgt hgt' ⊢
      by_cases hcap : c = a1
      · subst hcap
        have HN0 := Lib.hid (show n = 0 by omega)
        have HCV := Lib.hid (fun (V : World) (hV : BytesAt V A b) => (show (convert 41 9 (.slice A n 0)).run Try.prog V = .ok (.string (strOfNums ((b.drop c).take n))) V by
          rw [HN0.out, List.take_zero]; exact conv_at V A [] 0 BytesAt.nil))
        have hle' := hle
        go_wp2_with (refine wpList_store_box rfl 52 (.tmp 5) (.tmp 11) rfl w1.heap.size (rdV A b c c 0) rfl rfl 52 (rdV none [] 0 0 0) HB5.out (size_RR.trans rfl) rfl (rdV_one _ _ _ _ _) ?_; intro w2 HBX hk2; have HB2 := Lib.hid (HBQ.out.kept hk2 (show ¬ w.heap.size = w1.heap.size by have := HG1.out; omega)); have HR2 := Lib.hid (HR1.out.kept hk2 fun k e => (by have := HG1.out; omega)); have HX := HBX; have z0 := (show w2.cell? ⟨w1.heap.size, 0, none⟩ = some (.slice A b.length c) by simpa [rdV] using HBX.out.cell 0); have z1 := (show w2.cell? ⟨w1.heap.size, 1, none⟩ = some (.int .i64 c) by simpa [rdV] using HBX.out.cell 1); have z2 := (show w2.cell? ⟨w1.heap.size, 2, none⟩ = some (.int .i64 0) by simpa [rdV] using HBX.out.cell 2); have g1 := (show w2.frozen? ⟨w1.heap.size, 1, none⟩ = false from HBX.out.frozen 1); have y0 := (show w2.cell? ⟨w.heap.size, 0, none⟩ = some (.slice A b.length c) by simpa [rdV] using HB2.out.cell 0); have y1 := (show w2.cell? ⟨w.heap.size, 1, none⟩ = some (.int .i64 aq) by simpa [rdV] using HB2.out.cell 1); have y2 := (show w2.cell? ⟨w.heap.size, 2, none⟩ = some (.int .i64 s.e) by simpa [rdV] using HB2.out.cell 2); have f2 := (show w2.frozen? ⟨w.heap.size, 2, none⟩ = false from HB2.out.frozen 2); clear HBX hk2; have hconv := HCV.out w2 HR2.out.bytes)
        have hbx := Lib.hid (show Box (w2.setCell ⟨w1.heap.size, 1, none⟩ (.int .i64 ((c : Int) + n))) w1.heap.size 52 (rdV A b c (c + n) 0) by
          have := HX.out.set 1 (.int .i64 ((c : Int) + n))
          simpa [rdV] using this)
        have HR3 := Lib.hid (HR2.out.kept ((Kept.refl (fun k => k = w1.heap.size) w2).at 1 (.int .i64 ((c : Int) + n)) (.inl rfl)) fun k e => (by have := HG1.out; omega))
        clear z0 z1 z2 g1 y0 y1 y2 f2 HB5 HBQ HB2 HX hconv
        generalize w2.setCell ⟨w1.heap.size, 1, none⟩ (.int .i64 ((c : Int) + n)) = W3 at hbx HR3 ⊢
        have z0 : W3.cell? ⟨w1.heap.size, 0, none⟩ = some (.slice A b.length c) := by simpa [rdV] using hbx.out.cell 0
        have z1 : W3.cell? ⟨w1.heap.size, 1, none⟩ = some (.int .i64 ((c : Int) + n)) := by simpa [rdV] using hbx.out.cell 1
        have z2 : W3.cell? ⟨w1.heap.size, 2, none⟩ = some (.int .i64 0) := by simpa [rdV] using hbx.out.cell 2
        go_still_tail 3, (by kernel_rfl)
        change wpList _ _ _ _ _ W3.drew
        have HR4 := Lib.hid (HR3.out.fresh (Kept.refl _ _).drew)
        clear z0 z1 z2
        generalize W3.drew = W4 at HR4 ⊢
        go_wp2_with (refine wpList_store_box rfl 52 (.tmp 3) (.tmp 45) rfl (w.heap.size + 1) (rdV A b c (c + n) 0) rfl rfl 52 (rdV none [] 0 0 0) HR4.out.res (size_RR.trans rfl) rfl (rdV_one _ _ _ _ _) ?_; intro w9 HB9 hk9)
        exact RTxtPost.ret (g := w.heap.size + 1) HB9.out HT.out hle' (by rw [List.drop_drop]) (HR4.out.k.trans hk9 fun k hk e => by omega) rfl rfl rfl
      · have HCV := Lib.hid (fun (V : World) (hV : BytesAt V A b) => (show (convert 41 9 (.slice (Option.map (fun x => x.add a1) A) n (c - a1))).run Try.prog V = .ok (.string (strOfNums ((b.drop a1).take n))) V by
          have := conv_at V (Option.map (fun x => x.add a1) A) ((b.drop a1).take n) (c - a1) (hV.mid a1 n hle)
          rwa [List.length_take, List.length_drop, Nat.min_eq_left (by omega)] at this))
        have hle' := hle
        go_wp2_with (refine wpList_store_box rfl 52 (.tmp 5) (.tmp 11) rfl w1.heap.size (rdV A b c a1 0) rfl rfl 52 (rdV none [] 0 0 0) HB5.out (size_RR.trans rfl) rfl (rdV_one _ _ _ _ _) ?_; intro w2 HBX hk2; have HB2 := Lib.hid (HBQ.out.kept hk2 (show ¬ w.heap.size = w1.heap.size by have := HG1.out; omega)); have HR2 := Lib.hid (HR1.out.kept hk2 fun k e => (by have := HG1.out; omega)); have HX := HBX; have z0 := (show w2.cell? ⟨w1.heap.size, 0, none⟩ = some (.slice A b.length c) by simpa [rdV] using HBX.out.cell 0); have z1 := (show w2.cell? ⟨w1.heap.size, 1, none⟩ = some (.int .i64 a1) by simpa [rdV] using HBX.out.cell 1); have z2 := (show w2.cell? ⟨w1.heap.size, 2, none⟩ = some (.int .i64 0) by simpa [rdV] using HBX.out.cell 2); have g1 := (show w2.frozen? ⟨w1.heap.size, 1, none⟩ = false from HBX.out.frozen 1); have y0 := (show w2.cell? ⟨w.heap.size, 0, none⟩ = some (.slice A b.length c) by simpa [rdV] using HB2.out.cell 0); have y1 := (show w2.cell? ⟨w.heap.size, 1, none⟩ = some (.int .i64 aq) by simpa [rdV] using HB2.out.cell 1); have y2 := (show w2.cell? ⟨w.heap.size, 2, none⟩ = some (.int .i64 s.e) by simpa [rdV] using HB2.out.cell 2); have f2 := (show w2.frozen? ⟨w.heap.size, 2, none⟩ = false from HB2.out.frozen 2); clear HBX hk2; have hconv := HCV.out w2 HR2.out.bytes)
        have hbx := Lib.hid (show Box (w2.setCell ⟨w1.heap.size, 1, none⟩ (.int .i64 ((a1 : Int) + n))) w1.heap.size 52 (rdV A b c (a1 + n) 0) by
          have := HX.out.set 1 (.int .i64 ((a1 : Int) + n))
          simpa [rdV] using this)
        have HR3 := Lib.hid (HR2.out.kept ((Kept.refl (fun k => k = w1.heap.size) w2).at 1 (.int .i64 ((a1 : Int) + n)) (.inl rfl)) fun k e => (by have := HG1.out; omega))
        clear z0 z1 z2 g1 y0 y1 y2 f2 HB5 HBQ HB2 HX hconv
        generalize w2.setCell ⟨w1.heap.size, 1, none⟩ (.int .i64 ((a1 : Int) + n)) = W3 at hbx HR3 ⊢
        have z0 : W3.cell? ⟨w1.heap.size, 0, none⟩ = some (.slice A b.length c) := by simpa [rdV] using hbx.out.cell 0
        have z1 : W3.cell? ⟨w1.heap.size, 1, none⟩ = some (.int .i64 ((a1 : Int) + n)) := by simpa [rdV] using hbx.out.cell 1
        have z2 : W3.cell? ⟨w1.heap.size, 2, none⟩ = some (.int .i64 0) := by simpa [rdV] using hbx.out.cell 2
        go_still_tail 3, (by kernel_rfl)
        change wpList _ _ _ _ _ W3.drew
        have HR4 := Lib.hid (HR3.out.fresh (Kept.refl _ _).drew)
        clear z0 z1 z2
        generalize W3.drew = W4 at HR4 ⊢
        go_wp2_with (refine wpList_store_box rfl 52 (.tmp 3) (.tmp 45) rfl (w.heap.size + 1) (rdV A b c (a1 + n) 0) rfl rfl 52 (rdV none [] 0 0 0) HR4.out.res (size_RR.trans rfl) rfl (rdV_one _ _ _ _ _) ?_; intro w9 HB9 hk9)
        exact RTxtPost.ret (g := w.heap.size + 1) HB9.out HT.out hle' (by rw [List.drop_drop]) (HR4.out.k.trans hk9 fun k hk e => by omega) rfl rfl rfl
    · have HT := Lib.hid (HV2.out hee hlt)
      clear HV HV2 HV3 HZ
      have hgt : ((b.length : Int) - a1 < (s.val : Int)) := by
        have := congrArg List.length hl_a1.out
        rw [List.length_drop] at this
        omega
      have hgt' : decide ((b.length : Int) - a1 < (s.val : Int)) = true := decide_eq_true hgt
      clear hlt hee hvl
      generalize s.val = n at hgt hgt' ⊢
      go_wp2_with (refine wpList_store_box rfl 52 (.tmp 5) (.tmp 11) rfl w1.heap.size (rdV A b c a1 0) rfl rfl 52 (rdV none [] 0 0 0) HB5.out (size_RR.trans rfl) rfl (rdV_one _ _ _ _ _) ?_; intro w2 HBX hk2; have HB2 := Lib.hid (HBQ.out.kept hk2 (show ¬ w.heap.size = w1.heap.size by have := HG1.out; omega)); have HR2 := Lib.hid (HR1.out.kept hk2 fun k e => (by have := HG1.out; omega)); have HX := HBX; have z0 := (show w2.cell? ⟨w1.heap.size, 0, none⟩ = some (.slice A b.length c) by simpa [rdV] using HBX.out.cell 0); have z1 := (show w2.cell? ⟨w1.heap.size, 1, none⟩ = some (.int .i64 a1) by simpa [rdV] using HBX.out.cell 1); have z2 := (show w2.cell? ⟨w1.heap.size, 2, none⟩ = some (.int .i64 0) by simpa [rdV] using HBX.out.cell 2); have g1 := (show w2.frozen? ⟨w1.heap.size, 1, none⟩ = false from HBX.out.frozen 1); have y0 := (show w2.cell? ⟨w.heap.size, 0, none⟩ = some (.slice A b.length c) by simpa [rdV] using HB2.out.cell 0); have y1 := (show w2.cell? ⟨w.heap.size, 1, none⟩ = some (.int .i64 aq) by simpa [rdV] using HB2.out.cell 1); have y2 := (show w2.cell? ⟨w.heap.size, 2, none⟩ = some (.int .i64 s.e) by simpa [rdV] using HB2.out.cell 2); have f2 := (show w2.frozen? ⟨w.heap.size, 2, none⟩ = false from HB2.out.frozen 2); clear HBX hk2)
      have hbx := Lib.hid (show Box (w2.setCell ⟨w.heap.size, 2, none⟩ (.int .i64 5)) w.heap.size 52 (rdV A b c aq 5) by
        have := HB2.out.set 2 (.int .i64 5)
        simpa [rdV] using this)
      have HR3 := Lib.hid (HR2.out.store (s' := ⟨s.l, 5⟩) (a := aq) hbx.out haq HLQ.out ((Kept.refl (fun k => k = w.heap.size) w2).at 2 _ (.inl rfl)))
      clear z0 z1 z2 g1 y0 y1 y2 f2 HB5 HBQ HB2 HX
      generalize w2.setCell ⟨w.heap.size, 2, none⟩ (.int .i64 5) = W3 at hbx HR3 ⊢
      have z0 : W3.cell? ⟨w.heap.size, 0, none⟩ = some (.slice A b.length c) := by simpa [rdV] using hbx.out.cell 0
      have z1 : W3.cell? ⟨w.heap.size, 1, none⟩ = some (.int .i64 aq) := by simpa [rdV] using hbx.out.cell 1
      have z2 : W3.cell? ⟨w.heap.size, 2, none⟩ = some (.int .i64 5) := by simpa [rdV] using hbx.out.cell 2
      go_still_tail 2, (by kernel_rfl)
      change wpList _ _ _ _ _ W3.drew
      have HR4 := Lib.hid (HR3.out.fresh (Kept.refl _ _).drew)
      clear z0 z1 z2
      generalize W3.drew = W4 at HR4 ⊢
      go_wp2_with (refine wpList_store_box rfl 52 (.tmp 3) (.tmp 28) rfl (w.heap.size + 1) (rdV A b c aq 5) rfl rfl 52 (rdV none [] 0 0 0) HR4.out.res (size_RR.trans rfl) rfl (rdV_one _ _ _ _ _) ?_; intro w9 HB9 hk9)
      exact RTxtPost.ret (g := w.heap.size + 1) HB9.out HT.out haq HLQ.out (HR4.out.k.trans hk9 fun k hk e => by omega) rfl rfl rfl
  · have HT := Lib.hid (HV.out (by rw [hee]; exact he))
    rw [hee] at HT
    clear HV HV2 HV3 HZ
    have e1 : (ee != 0) = true := by simp [he]
    clear he hee
    generalize s.val = n
    go_wp2_with (refine wpList_store_box rfl 52 (.tmp 5) (.tmp 11) rfl w1.heap.size (rdV A b c a1 ee) rfl rfl 52 (rdV none [] 0 0 0) HB5.out (size_RR.trans rfl) rfl (rdV_one _ _ _ _ _) ?_; intro w2 HBX hk2; have HB2 := Lib.hid (HBQ.out.kept hk2 (show ¬ w.heap.size = w1.heap.size by have := HG1.out; omega)); have HR2 := Lib.hid (HR1.out.kept hk2 fun k e => (by have := HG1.out; omega)); have HX := HBX; have z0 := (show w2.cell? ⟨w1.heap.size, 0, none⟩ = some (.slice A b.length c) by simpa [rdV] using HBX.out.cell 0); have z1 := (show w2.cell? ⟨w1.heap.size, 1, none⟩ = some (.int .i64 a1) by simpa [rdV] using HBX.out.cell 1); have z2 := (show w2.cell? ⟨w1.heap.size, 2, none⟩ = some (.int .i64 ee) by simpa [rdV] using HBX.out.cell 2); have g1 := (show w2.frozen? ⟨w1.heap.size, 1, none⟩ = false from HBX.out.frozen 1); have y0 := (show w2.cell? ⟨w.heap.size, 0, none⟩ = some (.slice A b.length c) by simpa [rdV] using HB2.out.cell 0); have y1 := (show w2.cell? ⟨w.heap.size, 1, none⟩ = some (.int .i64 aq) by simpa [rdV] using HB2.out.cell 1); have y2 := (show w2.cell? ⟨w.heap.size, 2, none⟩ = some (.int .i64 s.e) by simpa [rdV] using HB2.out.cell 2); have f2 := (show w2.frozen? ⟨w.heap.size, 2, none⟩ = false from HB2.out.frozen 2); clear HBX hk2)
    have hbx := Lib.hid (show Box (w2.setCell ⟨w.heap.size, 2, none⟩ (.int .i64 ee)) w.heap.size 52 (rdV A b c aq ee) by
      have := HB2.out.set 2 (.int .i64 ee)
      simpa [rdV] using this)
    have HR3 := Lib.hid (HR2.out.store (s' := ⟨s.l, ee⟩) (a := aq) hbx.out haq HLQ.out ((Kept.refl (fun k => k = w.heap.size) w2).at 2 _ (.inl rfl)))
    clear z0 z1 z2 g1 y0 y1 y2 f2 HB5 HBQ HB2 HX
    generalize w2.setCell ⟨w.heap.size, 2, none⟩ (.int .i64 ee) = W3 at hbx HR3 ⊢
    have z0 : W3.cell? ⟨w.heap.size, 0, none⟩ = some (.slice A b.length c) := by simpa [rdV] using hbx.out.cell 0
    have z1 : W3.cell? ⟨w.heap.size, 1, none⟩ = some (.int .i64 aq) := by simpa [rdV] using hbx.out.cell 1
    have z2 : W3.cell? ⟨w.heap.size, 2, none⟩ = some (.int .i64 ee) := by simpa [rdV] using hbx.out.cell 2
    go_still_tail 2, (by kernel_rfl)
    change wpList _ _ _ _ _ W3.drew
    have HR4 := Lib.hid (HR3.out.fresh (Kept.refl _ _).drew)
    clear z0 z1 z2
    generalize W3.drew = W4 at HR4 ⊢
    go_wp2_with (refine wpList_store_box rfl 52 (.tmp 3) (.tmp 18) rfl (w.heap.size + 1) (rdV A b c aq ee) rfl rfl 52 (rdV none [] 0 0 0) HR4.out.res (size_RR.trans rfl) rfl (rdV_one _ _ _ _ _) ?_; intro w9 HB9 hk9)
    exact RTxtPost.ret (g := w.heap.size + 1) HB9.out HT.out haq HLQ.out (HR4.out.k.trans hk9 fun k hk e => by omega) rfl rfl rfl
end Go.Proofs.Ytnlklhlnnoihiaa

namespace Go.Proofs.Ytnlklhlnnoihiaa
open Go.RowKit

set_option maxRecDepth 100000 in
theorem RRead_at (A : Option Addr) (b : List Int) (c : Nat) (w : World) : Calls Try.prog 28 #[.slice A b.length c] w fun r w' => r = .returned (.agg (rdV A b c 0 0)) ∧ Kept (fun _ => False) w w' := by
  go_enter Try.func28, Try.ntmps28
  go_wp2
  exact bodyPost_ret (results_cell_row (show Try.f28.results = #[.cell 2 52] by kernel_rfl) _ _ w.heap.size 52 (rdV A b c 0 0) (0, 0) _ rfl (Box.new w _ _) Try.underlying52 rfl (size_RR.trans rfl)) rfl ⟨rfl, (Kept.refl _ _).alloc _⟩
set_option maxRecDepth 100000 in
theorem RLeft_at (A : Option Addr) (b : List Int) (c a : Nat) (e : Int) (w : World) (ha : a ≤ b.length) (hl : b.length ≤ 1000000) : Calls Try.prog 30 #[.agg #[.slice A b.length c, .int .i64 a, .int .i64 e]] w fun r w' => r = .returned (.int .i64 (b.drop a).length) ∧ Kept (fun _ => False) w w' := by
  go_enter Try.func30, Try.ntmps30
  go_wp2
  go_ret
  exact ⟨ret_int (by rw [List.length_drop]; omega), (Kept.refl _ _).alloc _⟩

set_option maxHeartbeats 1600000 in
set_option maxRecDepth 100000 in
theorem REnd_any (A : Option Addr) (b : List Int) (c a : Nat) (e : Int) (w : World) (ha : a ≤ b.length) (hl : b.length ≤ 1000000) : Calls Try.prog 54 #[.agg #[.slice A b.length c, .int .i64 a, .int .i64 e]] w fun r w' => r = .returned (.int .i64 (if e ≠ 0 then e else if 0 < (b.drop a).length then 6 else 0)) ∧ Kept (fun _ => False) w w' := by
  by_cases he : e = 0
  · subst he
    rw [if_neg (fun h => h rfl)]
    by_cases h0 : 0 < (b.drop a).length
    · rw [if_pos h0]
      have h0' : decide ((0 : Int) < ((b.drop a).length : Int)) = true := decide_eq_true (by omega)
      have h1 : a < b.length := by rw [List.length_drop] at h0; omega
      go_enter Try.func54, Try.ntmps54
      go_wp2_with (fail)
      refine (RLeft_at A b c a 0 _ ha hl).mono ?_
      rintro r w1 ⟨rfl, hk⟩
      have HK := Lib.hid ((((Kept.refl (fun _ => False) w).alloc _).trans hk fun k _ e => e))
      clear hk
      go_wp2_with (fail)
      go_ret
      exact ⟨rfl, HK.out⟩
    · rw [if_neg h0]
      have h1 : ¬ a < b.length := by rw [List.length_drop] at h0; omega
      have h0' : decide ((0 : Int) < ((b.drop a).length : Int)) = false := decide_eq_false (by omega)
      have h00 : (b.drop a).length = 0 := by omega
      go_enter Try.func54, Try.ntmps54
      go_wp2_with (fail)
      refine (RLeft_at A b c a 0 _ ha hl).mono ?_
      rintro r w1 ⟨rfl, hk⟩
      rw [h00]
      have HK := Lib.hid ((((Kept.refl (fun _ => False) w).alloc _).trans hk fun k _ e => e))
      clear hk h00 h0 h0'
      go_wp2_with (fail)
      go_ret
      exact ⟨rfl, HK.out⟩
  · rw [if_pos he]
    have e1 : (e != 0) = true := by simp [he]
    clear he
    go_enter Try.func54, Try.ntmps54
    go_wp2_with (fail)
    go_ret
    exact ⟨rfl, (Kept.refl _ _).alloc _⟩
end Go.Proofs.Ytnlklhlnnoihiaa
