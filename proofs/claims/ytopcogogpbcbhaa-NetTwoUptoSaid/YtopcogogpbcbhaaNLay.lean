/- The walk of a network's lay. Conditions: the network and the frame lie in memory; less than 100,000 copies were laid. -/
import Derived.Test.YtopcogogpbcbhaaNLayP
namespace Go.Proofs.Ytopcogogpbcbhaa
open Go Go.RowKit

/-- What lay leaves. -/
def LayPost (w : World) (p f : Nat) (F : Nat → Prop) (v : Value) (s : Nt) (n : Nat) (r : Ending) (w' : World) : Prop :=
  r = .returned (.tuple #[.int .i64 (n : Int), .int .i64 0]) ∧ ∃ F' es', NetAt w' p F' s es' ∧ (∀ k, F' k → F k ∨ k = f ∨ v.ownBlock = some k ∨ w.heap.size ≤ k) ∧ Kept F w w' ∧ Kept (fun k => k = p ∨ Off w k) w w'
theorem num_wf {n : Nat} (h : n ≤ 100000) : (Lit.int .i64 (n : Int)).wf = true := by
  have h1 : IntKind.i64.min = -9223372036854775808 := by kernel_rfl
  have h2 : IntKind.i64.max = 9223372036854775807 := by kernel_rfl
  simp only [Lit.wf, Bool.and_eq_true, decide_eq_true_eq, h1, h2]
  omega
set_option maxRecDepth 100000 in
set_option maxHeartbeats 3200000 in
theorem Lay_any (p : Nat) (F : Nat → Prop) (s : Nt) (es : List Ce) (w : World) (h : NetAt w p F s es) (hlast : s.last < 100000) (src dst sent : Int) (clean : List Int) (hby : isByte clean) (hlen : clean.length ≤ 60000) (f : Nat) (cA : Option Addr) (cc : Nat)
    (hf : Box w f 84 #[.int .i64 src, .int .i64 dst, .int .i64 sent, .slice cA clean.length cc]) (hcl : w.ownsRow 0 5 1 (.slice cA clean.length cc) clean.length (bys clean)) :
    Calls Try.prog 38 #[.pointer (some ⟨p, 0, none⟩), .pointer (some ⟨f, 0, none⟩)] w (LayPost w p f F (.slice cA clean.length cc) (s.add src dst sent clean) (s.last + 1)) := by
  have hq := fun (W : World) (r : Option Nat) => run_eql_map_nil (P := Try.prog) W 36 3 75 r Try.underlying36
  have hmm := run_makeMap (P := Try.prog) 36 w
  obtain ⟨mb, hp, hm⟩ := h.box
  have hpf : ¬ p = f := Box.ne hp hf (by decide)
  have HNET := Lib.hid h
  have HBY := Lib.hid hby
  have hl1 : ¬ ((s.last : Int) = 2147483647) := by omega
  have hw1 : IntKind.i64.wrap ((s.last : Int) + 1) = (s.last : Int) + 1 := IntWalk.i64_in _ ⟨by omega, by omega⟩
  have x0 : w.cell? ⟨p, 0, none⟩ = some (.int .i64 (s.last : Int)) := (hp.cell 0).trans rfl
  have x1 : w.cell? ⟨p, 1, none⟩ = some (.map mb) := (hp.cell 1).trans rfl
  have f0 : w.frozen? ⟨p, 0, none⟩ = false := hp.frozen 0
  have f1 : w.frozen? ⟨p, 1, none⟩ = false := hp.frozen 1
  have HP := Lib.hid hp
  have HF := Lib.hid hf
  have HC := Lib.hid hcl
  clear h hp hf hcl hby
  rcases hm with ⟨rfl, rfl⟩ | ⟨b, D, rfl, hFb, hmap, hD⟩
  · go_enter Try.func38, Try.ntmps38
    have xa : (w.alloc (.map #[] 0)).cell? ⟨p, 1, none⟩ = some (.map none) := ((HP.out.alloc (.map #[] 0)).cell 1).trans rfl
    have fa : (w.alloc (.map #[] 0)).frozen? ⟨p, 1, none⟩ = false := (HP.out.alloc (.map #[] 0)).frozen 1
    go_upto_region 5 with (fail)
    clear xa fa
    have hka : Kept (fun _ => False) w (w.alloc (.map #[] 0)) := (Kept.refl _ _).alloc _
    have hks : Kept (fun k => k = p) (w.alloc (.map #[] 0)) ((w.alloc (.map #[] 0)).setCell ⟨p, 1, none⟩ (.map (some w.heap.size))) := (Kept.refl (fun k => k = p) _).at 1 _ (.inl rfl)
    have HMA := Lib.hid (show (w.alloc (.map #[] 0)).ownsMap Try.prog 3 ptrElem w.heap.size 0 (.map []) from World.ownsMap_made _ _ _ _)
    have hpw : p < w.heap.size := HP.out.lt
    have hfw : f < w.heap.size := HF.out.lt
    have HPB := Lib.hid (show ¬ p = w.heap.size by omega)
    have HMP := Lib.hid (ownsMap_kept HMA.out hks (fun e => HPB.out e.symm))
    have HPW := Lib.hid (show Box ((w.alloc (.map #[] 0)).setCell ⟨p, 1, none⟩ (.map (some w.heap.size))) p 38 #[.int .i64 (s.last : Int), .map (some w.heap.size)] from by simpa using (HP.out.alloc (.map #[] 0)).set 1 (.map (some w.heap.size)))
    have HFW := Lib.hid ((HF.out.kept hka id).kept hks (fun e => hpf e.symm))
    have HCW := Lib.hid (hks.own (hka.own HC.out fun _ _ => id) fun k e hk => by subst hk; exact own_box_ne HC.out HP.out (by decide) e)
    have HKW := Lib.hid (show Kept (fun k => k = p ∨ k = w.heap.size) w ((w.alloc (.map #[] 0)).setCell ⟨p, 1, none⟩ (.map (some w.heap.size))) from (hka.more fun _ _ e => e.elim).trans hks fun k _ e => .inl e)
    have HMP' := Lib.hid (HMP.out.mono (show 0 ≤ s.last from Nat.zero_le _))
    clear HMP HMA hka hks x0 x1 f0 f1
    have HMP := HMP'
    clear HMP'
    have HOB := Lib.hid (Off.new (w := w) (Nat.le_refl w.heap.size))
    have HSZ := Lib.hid (Nat.le_refl w.heap.size)
    obtain ⟨b, hb⟩ : ∃ b, w.heap.size = b := ⟨_, rfl⟩
    generalize hW : (w.alloc (.map #[] 0)).setCell ⟨p, 1, none⟩ (.map (some w.heap.size)) = w4 at HMP HPW HFW HCW HKW ⊢
    clear hW
    rw [hb] at HMP HPW HKW HPB HOB ⊢
    have HBS := Lib.hid hb
    clear hb hpw hfw
    have x0 : w4.cell? ⟨p, 0, none⟩ = some (.int .i64 (s.last : Int)) := (HPW.out.cell 0).trans rfl
    have f0 : w4.frozen? ⟨p, 0, none⟩ = false := HPW.out.frozen 0
    have x1 : True := trivial
    have f1 : True := trivial
    go_upto_region 6 with (fail)
    clear x0 x1 f0 f1
    have hks : Kept (fun k => k = p) w4 (w4.setCell ⟨p, 0, none⟩ (.int .i64 ((s.last : Int) + 1))) := (Kept.refl (fun k => k = p) _).at 0 _ (.inl rfl)
    have HP5 := Lib.hid (show Box (w4.setCell ⟨p, 0, none⟩ (.int .i64 ((s.last : Int) + 1))) p 38 #[.int .i64 ((s.last : Int) + 1), .map (some b)] from by simpa using HPW.out.set 0 (.int .i64 ((s.last : Int) + 1)))
    have HM5 := Lib.hid (ownsMap_kept HMP.out hks (fun e => HPB.out e.symm))
    have HF5 := Lib.hid (HFW.out.kept hks (fun e => hpf e.symm))
    have HC5 := Lib.hid (hks.own HCW.out fun k e hk => by subst hk; exact own_box_ne HCW.out HPW.out (by decide) e)
    have HK5 := Lib.hid (HKW.out.trans hks fun k _ e => .inl e)
    clear hks HPW HMP HFW HCW HKW
    generalize w4.setCell ⟨p, 0, none⟩ (.int .i64 ((s.last : Int) + 1)) = w5 at HP5 HM5 HF5 HC5 HK5 ⊢
    have hkd : Kept (fun _ => False) w5 w5.drew := (Kept.refl _ _).drew
    have HPD := Lib.hid (HP5.out.kept hkd id)
    have HMD := Lib.hid (ownsMap_kept HM5.out hkd id)
    have HFD := Lib.hid (HF5.out.kept hkd id)
    have HCD := Lib.hid (hkd.own HC5.out fun _ _ => id)
    have HKD := Lib.hid (HK5.out.trans hkd fun _ _ e => e.elim)
    have hpb : ¬ p = b := HPB.out
    have hfb : ¬ f = b := (Off.map HMD.out).box HFD.out
    clear hkd HP5 HM5 HF5 HC5 HK5
    refine wp_region_held_drew (S := fun Wz => Kept (fun k => k = b) w5.drew Wz) (by kernel_rfl) (Kept.refl _ _) fun hS => ?_
    generalize w5.drew = W at HPD HMD HFD HCD HKD hS ⊢
    refine held_takeTo 27 (i := 0) (v := .pointer (some ⟨p, 0, none⟩)) rfl rfl (by kernel_rfl) (by kernel_rfl) (by kernel_rfl) (fun _ _ _ h => h) rfl hS (fun Wz hW => by go_simp) ?_
    simp only [List.setIfInBounds_toArray, List.set_cons_zero, List.set_cons_succ]
    refine held_takeTo 28 (i := 1) (v := .pointer (some ⟨p, 0, none⟩)) rfl rfl (by kernel_rfl) (by kernel_rfl) (by kernel_rfl) (fun _ _ _ h => h) rfl hS (fun Wz hW => by go_simp) ?_
    simp only [List.setIfInBounds_toArray, List.set_cons_zero, List.set_cons_succ]
    refine held_takeTo 29 (i := 2) (v := .pointer (some ⟨p, 1, none⟩)) rfl rfl (by kernel_rfl) (by kernel_rfl) (by kernel_rfl) (fun _ _ _ h => h) rfl hS (fun Wz hW => by go_simp) ?_
    simp only [List.setIfInBounds_toArray, List.set_cons_zero, List.set_cons_succ]
    refine held_takeTo 30 (i := 3) (v := .map (some b)) rfl rfl (by kernel_rfl) (by kernel_rfl) (by kernel_rfl) (fun _ _ _ h => h) rfl hS (fun Wz hW => by (have hc : Wz.cell? ⟨p, 1, none⟩ = some (.map (some b)) := ((HPD.out.kept hW hpb).cell 1).trans rfl; go_simp)) ?_
    simp only [List.setIfInBounds_toArray, List.set_cons_zero, List.set_cons_succ]
    refine held_takeTo 31 (i := 4) (v := .pointer (some ⟨p, 0, none⟩)) rfl rfl (by kernel_rfl) (by kernel_rfl) (by kernel_rfl) (fun _ _ _ h => h) rfl hS (fun Wz hW => by go_simp) ?_
    simp only [List.setIfInBounds_toArray, List.set_cons_zero, List.set_cons_succ]
    refine held_takeTo 32 (i := 5) (v := .pointer (some ⟨p, 0, none⟩)) rfl rfl (by kernel_rfl) (by kernel_rfl) (by kernel_rfl) (fun _ _ _ h => h) rfl hS (fun Wz hW => by go_simp) ?_
    simp only [List.setIfInBounds_toArray, List.set_cons_zero, List.set_cons_succ]
    refine held_takeTo 33 (i := 6) (v := .pointer (some ⟨p, 0, none⟩)) rfl rfl (by kernel_rfl) (by kernel_rfl) (by kernel_rfl) (fun _ _ _ h => h) rfl hS (fun Wz hW => by go_simp) ?_
    simp only [List.setIfInBounds_toArray, List.set_cons_zero, List.set_cons_succ]
    refine held_takeTo 34 (i := 7) (v := .int .i64 ((s.last : Int) + 1)) rfl rfl (by kernel_rfl) (by kernel_rfl) (by kernel_rfl) (fun _ _ _ h => h) rfl hS (fun Wz hW => by (have hc : Wz.cell? ⟨p, 0, none⟩ = some (.int .i64 ((s.last : Int) + 1)) := ((HPD.out.kept hW hpb).cell 0).trans rfl; go_simp)) ?_
    simp only [List.setIfInBounds_toArray, List.set_cons_zero, List.set_cons_succ]
    refine held_takeTo 35 (i := 8) (v := .pointer (some ⟨f, 0, none⟩)) rfl rfl (by kernel_rfl) (by kernel_rfl) (by kernel_rfl) (fun _ _ _ h => h) rfl hS (fun Wz hW => by go_simp) ?_
    simp only [List.setIfInBounds_toArray, List.set_cons_zero, List.set_cons_succ]
    refine held_takeTo 36 (i := 9) (v := .pointer (some ⟨p, 0, none⟩)) rfl rfl (by kernel_rfl) (by kernel_rfl) (by kernel_rfl) (fun _ _ _ h => h) rfl hS (fun Wz hW => by go_simp) ?_
    simp only [List.setIfInBounds_toArray, List.set_cons_zero, List.set_cons_succ]
    refine held_takeTo 37 (i := 10) (v := .pointer (some ⟨p, 0, none⟩)) rfl rfl (by kernel_rfl) (by kernel_rfl) (by kernel_rfl) (fun _ _ _ h => h) rfl hS (fun Wz hW => by go_simp) ?_
    simp only [List.setIfInBounds_toArray, List.set_cons_zero, List.set_cons_succ]
    refine held_takeTo 38 (i := 11) (v := .pointer (some ⟨p, 0, none⟩)) rfl rfl (by kernel_rfl) (by kernel_rfl) (by kernel_rfl) (fun _ _ _ h => h) rfl hS (fun Wz hW => by go_simp) ?_
    simp only [List.setIfInBounds_toArray, List.set_cons_zero, List.set_cons_succ]
    refine held_takeTo 39 (i := 12) (v := .int .i64 ((s.last : Int) + 1)) rfl rfl (by kernel_rfl) (by kernel_rfl) (by kernel_rfl) (fun _ _ _ h => h) rfl hS (fun Wz hW => by (have hc : Wz.cell? ⟨p, 0, none⟩ = some (.int .i64 ((s.last : Int) + 1)) := ((HPD.out.kept hW hpb).cell 0).trans rfl; go_simp)) ?_
    simp only [List.setIfInBounds_toArray, List.set_cons_zero, List.set_cons_succ]
    refine held_takeTo 40 (i := 13) (v := .pointer (some ⟨f, 0, none⟩)) rfl rfl (by kernel_rfl) (by kernel_rfl) (by kernel_rfl) (fun _ _ _ h => h) rfl hS (fun Wz hW => by go_simp) ?_
    simp only [List.setIfInBounds_toArray, List.set_cons_zero, List.set_cons_succ]
    refine held_takeTo 41 (i := 14) (v := .pointer (some ⟨f, 0, none⟩)) rfl rfl (by kernel_rfl) (by kernel_rfl) (by kernel_rfl) (fun _ _ _ h => h) rfl hS (fun Wz hW => by go_simp) ?_
    simp only [List.setIfInBounds_toArray, List.set_cons_zero, List.set_cons_succ]
    refine held_takeTo 42 (i := 15) (v := .pointer (some ⟨f, 3, none⟩)) rfl rfl (by kernel_rfl) (by kernel_rfl) (by kernel_rfl) (fun _ _ _ h => h) rfl hS (fun Wz hW => by go_simp) ?_
    simp only [List.setIfInBounds_toArray, List.set_cons_zero, List.set_cons_succ]
    refine held_takeTo 43 (i := 16) (v := .slice cA clean.length cc) rfl rfl (by kernel_rfl) (by kernel_rfl) (by kernel_rfl) (fun _ _ _ h => h) rfl hS (fun Wz hW => by (have hc : Wz.cell? ⟨f, 3, none⟩ = some (.slice cA clean.length cc) := ((HFD.out.kept hW hfb).cell 3).trans rfl; go_simp)) ?_
    simp only [List.setIfInBounds_toArray, List.set_cons_zero, List.set_cons_succ]
    refine held_one (i := 17) (by kernel_rfl) rfl fun K hK => ?_
    go_wp2_with (fail)
    refine (Clone_any cA clean cc W (BytesAt.of_own HCD.out) (own_noneNil HCD.out) (by omega)).mono ?_
    rintro r w6 ⟨A, cap, rfl, ho, hk⟩
    have HO6 := Lib.hid ho
    have HP6 := Lib.hid (HPD.out.kept hk id)
    have HM6 := Lib.hid (ownsMap_kept HMD.out hk id)
    have HF6 := Lib.hid (HFD.out.kept hk id)
    have HC6 := Lib.hid (hk.own HCD.out fun _ _ => id)
    have HK6 := Lib.hid (HKD.out.trans hk fun _ _ e => e.elim)
    have HLE := Lib.hid HKD.out.size
    have hS6 : Kept (fun k => k = b) W w6 := hS.trans hk fun _ _ e => e.elim
    clear ho hk HPD HMD HFD HCD HKD
    go_wp2_with (fail)
    refine hK.out _ _ hS6 fun _ => ?_
    clear hK K
    refine held_one (i := 18) (by kernel_rfl) rfl fun K hK => ?_
    go_wp2_with (fail)
    refine hK.out _ _ hS6 fun _ => ?_
    clear hK K
    refine held_one (i := 19) (by kernel_rfl) rfl fun K hK => ?_
    go_wp2_with (fail)
    refine hK.out _ _ (hS6.alloc _) fun _ => ?_
    clear hK K
    have hka : Kept (fun _ => False) w6 (w6.alloc (.cells #[.pointer (some ⟨f, 0, none⟩), .int .i64 ((s.last : Int) + 1), .slice A clean.length cap, .bool false] 87)) := (Kept.refl _ _).alloc _
    have HQ7 := Lib.hid (Box.new w6 87 #[.pointer (some ⟨f, 0, none⟩), .int .i64 ((s.last : Int) + 1), .slice A clean.length cap, .bool false])
    have HO7 := Lib.hid (hka.own HO6.out fun _ _ => id)
    have HP7 := Lib.hid (HP6.out.kept hka id)
    have HM7 := Lib.hid (ownsMap_kept HM6.out hka id)
    have HF7 := Lib.hid (HF6.out.kept hka id)
    have HC7 := Lib.hid (hka.own HC6.out fun _ _ => id)
    have HK7 := Lib.hid (HK6.out.trans hka fun _ _ e => e.elim)
    have hS7 : Kept (fun k => k = b) W (w6.alloc (.cells #[.pointer (some ⟨f, 0, none⟩), .int .i64 ((s.last : Int) + 1), .slice A clean.length cap, .bool false] 87)) := hS6.alloc _
    have HQN := Lib.hid HK6.out.size
    obtain ⟨Q, hQ⟩ : ∃ Q, w6.heap.size = Q := ⟨_, rfl⟩
    rw [hQ] at HQ7 HQN ⊢
    clear hka hQ HO6 HP6 HM6 HF6 HC6 HK6 hS6
    generalize w6.alloc (.cells #[.pointer (some ⟨f, 0, none⟩), .int .i64 ((s.last : Int) + 1), .slice A clean.length cap, .bool false] 87) = w7 at HQ7 HO7 HP7 HM7 HF7 HC7 HK7 hS7 ⊢
    refine held_one (i := 20) (by kernel_rfl) rfl fun K hK => ?_
    refine wpList_mapUpdate_in w7 rfl _ _ _ 36 rfl 3 75 (Maps.int_keyed Try.underlying3) Try.underlying36 ptrElem b s.last (.map []) rfl HM7.out (by unfold maxLen; omega) (.int .i64 ((s.last : Int) + 1)) (.pointer (some ⟨Q, 0, none⟩)) (.int .i64 ((s.last + 1 : Nat) : Int)) rfl rfl (Maps.keyOf_int_mk Try.underlying3 (num_wf (show s.last + 1 ≤ 100000 by omega))) (.lit (.int .i64 (Q : Int))) [] (ptrElem_mk Q) ?_
    intro w8 hm8 ht8
    have hk8 : Kept (fun k => k = b) w7 w8 := (Kept.of_grown ht8.grown).more fun k _ e => by injection e with e; exact e.symm
    have HM8 := Lib.hid hm8
    have HK8 := Lib.hid hk8
    clear hm8 ht8 hk8
    go_wp2_with (fail)
    refine hK.out _ _ (hS7.trans HK8.out fun _ _ e => e) fun _ => ?_
    clear hK K
    refine wpAnyH_done (by kernel_rfl) ?_ _
    have HP8 := Lib.hid (HP7.out.kept HK8.out hpb)
    have y0 : w8.cell? ⟨p, 0, none⟩ = some (.int .i64 ((s.last : Int) + 1)) := (HP8.out.cell 0).trans rfl
    clear hS hS7
    go_wp2_with (fail)
    go_ret2
    refine ⟨rfl, ?_⟩
    have hfin := HNET.out.laid hlast HBY.out hlen (A := A) (cap := cap) (cc := cc) (Q := Q) HP8.out HM8.out MapIs.nil (HQ7.out.kept HK8.out fun e => (Off.map HM7.out).box HQ7.out e) (HF7.out.kept HK8.out hfb) (HK8.out.own (own_base HO7.out (Nat.zero_le _)) fun k e hk => (Off.map HM7.out).own HO7.out e hk) (HK8.out.own HC7.out fun k e hk => (Off.map HM7.out).own HC7.out e hk) (HK7.out.trans HK8.out fun k _ e => .inr e) (.inr (by rw [HBS.out]; exact Nat.le_refl _)) HOB.out HQN.out fun k e => Nat.le_trans HLE.out (HO7.out.lt k e).1
    obtain ⟨F9, es9, h1, h2, h3⟩ := hfin
    exact ⟨F9, es9, h1, h2, h3, (HK7.out.trans HK8.out fun k _ e => .inr e).more fun k _ e => e.imp id fun e => by subst e; exact HOB.out⟩
  · have HPB := Lib.hid (show ¬ p = b from (Off.map hmap).box HP.out)
    have HMP := Lib.hid hmap
    have HDD := Lib.hid hD
    have HOB := Lib.hid (Off.map hmap)
    have HFB := Lib.hid hFb
    have HPW := HP
    have HFW := HF
    have HCW := HC
    have HKW := Lib.hid (Kept.refl (fun k => k = p ∨ k = b) w)
    clear hmap hD hFb HP HF HC
    go_enter Try.func38, Try.ntmps38
    go_upto_region 6 with (fail)
    clear x0 x1 f0 f1
    have hks : Kept (fun k => k = p) w (w.setCell ⟨p, 0, none⟩ (.int .i64 ((s.last : Int) + 1))) := (Kept.refl (fun k => k = p) _).at 0 _ (.inl rfl)
    have HP5 := Lib.hid (show Box (w.setCell ⟨p, 0, none⟩ (.int .i64 ((s.last : Int) + 1))) p 38 #[.int .i64 ((s.last : Int) + 1), .map (some b)] from by simpa using HPW.out.set 0 (.int .i64 ((s.last : Int) + 1)))
    have HM5 := Lib.hid (ownsMap_kept HMP.out hks (fun e => HPB.out e.symm))
    have HF5 := Lib.hid (HFW.out.kept hks (fun e => hpf e.symm))
    have HC5 := Lib.hid (hks.own HCW.out fun k e hk => by subst hk; exact own_box_ne HCW.out HPW.out (by decide) e)
    have HK5 := Lib.hid (HKW.out.trans hks fun k _ e => .inl e)
    clear hks HPW HMP HFW HCW HKW
    generalize w.setCell ⟨p, 0, none⟩ (.int .i64 ((s.last : Int) + 1)) = w5 at HP5 HM5 HF5 HC5 HK5 ⊢
    have hkd : Kept (fun _ => False) w5 w5.drew := (Kept.refl _ _).drew
    have HPD := Lib.hid (HP5.out.kept hkd id)
    have HMD := Lib.hid (ownsMap_kept HM5.out hkd id)
    have HFD := Lib.hid (HF5.out.kept hkd id)
    have HCD := Lib.hid (hkd.own HC5.out fun _ _ => id)
    have HKD := Lib.hid (HK5.out.trans hkd fun _ _ e => e.elim)
    have hpb : ¬ p = b := HPB.out
    have hfb : ¬ f = b := (Off.map HMD.out).box HFD.out
    clear hkd HP5 HM5 HF5 HC5 HK5
    refine wp_region_held_drew (S := fun Wz => Kept (fun k => k = b) w5.drew Wz) (by kernel_rfl) (Kept.refl _ _) fun hS => ?_
    generalize w5.drew = W at HPD HMD HFD HCD HKD hS ⊢
    refine held_takeTo 27 (i := 0) (v := .pointer (some ⟨p, 0, none⟩)) rfl rfl (by kernel_rfl) (by kernel_rfl) (by kernel_rfl) (fun _ _ _ h => h) rfl hS (fun Wz hW => by go_simp) ?_
    simp only [List.setIfInBounds_toArray, List.set_cons_zero, List.set_cons_succ]
    refine held_takeTo 28 (i := 1) (v := .pointer (some ⟨p, 0, none⟩)) rfl rfl (by kernel_rfl) (by kernel_rfl) (by kernel_rfl) (fun _ _ _ h => h) rfl hS (fun Wz hW => by go_simp) ?_
    simp only [List.setIfInBounds_toArray, List.set_cons_zero, List.set_cons_succ]
    refine held_takeTo 29 (i := 2) (v := .pointer (some ⟨p, 1, none⟩)) rfl rfl (by kernel_rfl) (by kernel_rfl) (by kernel_rfl) (fun _ _ _ h => h) rfl hS (fun Wz hW => by go_simp) ?_
    simp only [List.setIfInBounds_toArray, List.set_cons_zero, List.set_cons_succ]
    refine held_takeTo 30 (i := 3) (v := .map (some b)) rfl rfl (by kernel_rfl) (by kernel_rfl) (by kernel_rfl) (fun _ _ _ h => h) rfl hS (fun Wz hW => by (have hc : Wz.cell? ⟨p, 1, none⟩ = some (.map (some b)) := ((HPD.out.kept hW hpb).cell 1).trans rfl; go_simp)) ?_
    simp only [List.setIfInBounds_toArray, List.set_cons_zero, List.set_cons_succ]
    refine held_takeTo 31 (i := 4) (v := .pointer (some ⟨p, 0, none⟩)) rfl rfl (by kernel_rfl) (by kernel_rfl) (by kernel_rfl) (fun _ _ _ h => h) rfl hS (fun Wz hW => by go_simp) ?_
    simp only [List.setIfInBounds_toArray, List.set_cons_zero, List.set_cons_succ]
    refine held_takeTo 32 (i := 5) (v := .pointer (some ⟨p, 0, none⟩)) rfl rfl (by kernel_rfl) (by kernel_rfl) (by kernel_rfl) (fun _ _ _ h => h) rfl hS (fun Wz hW => by go_simp) ?_
    simp only [List.setIfInBounds_toArray, List.set_cons_zero, List.set_cons_succ]
    refine held_takeTo 33 (i := 6) (v := .pointer (some ⟨p, 0, none⟩)) rfl rfl (by kernel_rfl) (by kernel_rfl) (by kernel_rfl) (fun _ _ _ h => h) rfl hS (fun Wz hW => by go_simp) ?_
    simp only [List.setIfInBounds_toArray, List.set_cons_zero, List.set_cons_succ]
    refine held_takeTo 34 (i := 7) (v := .int .i64 ((s.last : Int) + 1)) rfl rfl (by kernel_rfl) (by kernel_rfl) (by kernel_rfl) (fun _ _ _ h => h) rfl hS (fun Wz hW => by (have hc : Wz.cell? ⟨p, 0, none⟩ = some (.int .i64 ((s.last : Int) + 1)) := ((HPD.out.kept hW hpb).cell 0).trans rfl; go_simp)) ?_
    simp only [List.setIfInBounds_toArray, List.set_cons_zero, List.set_cons_succ]
    refine held_takeTo 35 (i := 8) (v := .pointer (some ⟨f, 0, none⟩)) rfl rfl (by kernel_rfl) (by kernel_rfl) (by kernel_rfl) (fun _ _ _ h => h) rfl hS (fun Wz hW => by go_simp) ?_
    simp only [List.setIfInBounds_toArray, List.set_cons_zero, List.set_cons_succ]
    refine held_takeTo 36 (i := 9) (v := .pointer (some ⟨p, 0, none⟩)) rfl rfl (by kernel_rfl) (by kernel_rfl) (by kernel_rfl) (fun _ _ _ h => h) rfl hS (fun Wz hW => by go_simp) ?_
    simp only [List.setIfInBounds_toArray, List.set_cons_zero, List.set_cons_succ]
    refine held_takeTo 37 (i := 10) (v := .pointer (some ⟨p, 0, none⟩)) rfl rfl (by kernel_rfl) (by kernel_rfl) (by kernel_rfl) (fun _ _ _ h => h) rfl hS (fun Wz hW => by go_simp) ?_
    simp only [List.setIfInBounds_toArray, List.set_cons_zero, List.set_cons_succ]
    refine held_takeTo 38 (i := 11) (v := .pointer (some ⟨p, 0, none⟩)) rfl rfl (by kernel_rfl) (by kernel_rfl) (by kernel_rfl) (fun _ _ _ h => h) rfl hS (fun Wz hW => by go_simp) ?_
    simp only [List.setIfInBounds_toArray, List.set_cons_zero, List.set_cons_succ]
    refine held_takeTo 39 (i := 12) (v := .int .i64 ((s.last : Int) + 1)) rfl rfl (by kernel_rfl) (by kernel_rfl) (by kernel_rfl) (fun _ _ _ h => h) rfl hS (fun Wz hW => by (have hc : Wz.cell? ⟨p, 0, none⟩ = some (.int .i64 ((s.last : Int) + 1)) := ((HPD.out.kept hW hpb).cell 0).trans rfl; go_simp)) ?_
    simp only [List.setIfInBounds_toArray, List.set_cons_zero, List.set_cons_succ]
    refine held_takeTo 40 (i := 13) (v := .pointer (some ⟨f, 0, none⟩)) rfl rfl (by kernel_rfl) (by kernel_rfl) (by kernel_rfl) (fun _ _ _ h => h) rfl hS (fun Wz hW => by go_simp) ?_
    simp only [List.setIfInBounds_toArray, List.set_cons_zero, List.set_cons_succ]
    refine held_takeTo 41 (i := 14) (v := .pointer (some ⟨f, 0, none⟩)) rfl rfl (by kernel_rfl) (by kernel_rfl) (by kernel_rfl) (fun _ _ _ h => h) rfl hS (fun Wz hW => by go_simp) ?_
    simp only [List.setIfInBounds_toArray, List.set_cons_zero, List.set_cons_succ]
    refine held_takeTo 42 (i := 15) (v := .pointer (some ⟨f, 3, none⟩)) rfl rfl (by kernel_rfl) (by kernel_rfl) (by kernel_rfl) (fun _ _ _ h => h) rfl hS (fun Wz hW => by go_simp) ?_
    simp only [List.setIfInBounds_toArray, List.set_cons_zero, List.set_cons_succ]
    refine held_takeTo 43 (i := 16) (v := .slice cA clean.length cc) rfl rfl (by kernel_rfl) (by kernel_rfl) (by kernel_rfl) (fun _ _ _ h => h) rfl hS (fun Wz hW => by (have hc : Wz.cell? ⟨f, 3, none⟩ = some (.slice cA clean.length cc) := ((HFD.out.kept hW hfb).cell 3).trans rfl; go_simp)) ?_
    simp only [List.setIfInBounds_toArray, List.set_cons_zero, List.set_cons_succ]
    refine held_one (i := 17) (by kernel_rfl) rfl fun K hK => ?_
    go_wp2_with (fail)
    refine (Clone_any cA clean cc W (BytesAt.of_own HCD.out) (own_noneNil HCD.out) (by omega)).mono ?_
    rintro r w6 ⟨A, cap, rfl, ho, hk⟩
    have HO6 := Lib.hid ho
    have HP6 := Lib.hid (HPD.out.kept hk id)
    have HM6 := Lib.hid (ownsMap_kept HMD.out hk id)
    have HF6 := Lib.hid (HFD.out.kept hk id)
    have HC6 := Lib.hid (hk.own HCD.out fun _ _ => id)
    have HK6 := Lib.hid (HKD.out.trans hk fun _ _ e => e.elim)
    have HLE := Lib.hid HKD.out.size
    have hS6 : Kept (fun k => k = b) W w6 := hS.trans hk fun _ _ e => e.elim
    clear ho hk HPD HMD HFD HCD HKD
    go_wp2_with (fail)
    refine hK.out _ _ hS6 fun _ => ?_
    clear hK K
    refine held_one (i := 18) (by kernel_rfl) rfl fun K hK => ?_
    go_wp2_with (fail)
    refine hK.out _ _ hS6 fun _ => ?_
    clear hK K
    refine held_one (i := 19) (by kernel_rfl) rfl fun K hK => ?_
    go_wp2_with (fail)
    refine hK.out _ _ (hS6.alloc _) fun _ => ?_
    clear hK K
    have hka : Kept (fun _ => False) w6 (w6.alloc (.cells #[.pointer (some ⟨f, 0, none⟩), .int .i64 ((s.last : Int) + 1), .slice A clean.length cap, .bool false] 87)) := (Kept.refl _ _).alloc _
    have HQ7 := Lib.hid (Box.new w6 87 #[.pointer (some ⟨f, 0, none⟩), .int .i64 ((s.last : Int) + 1), .slice A clean.length cap, .bool false])
    have HO7 := Lib.hid (hka.own HO6.out fun _ _ => id)
    have HP7 := Lib.hid (HP6.out.kept hka id)
    have HM7 := Lib.hid (ownsMap_kept HM6.out hka id)
    have HF7 := Lib.hid (HF6.out.kept hka id)
    have HC7 := Lib.hid (hka.own HC6.out fun _ _ => id)
    have HK7 := Lib.hid (HK6.out.trans hka fun _ _ e => e.elim)
    have hS7 : Kept (fun k => k = b) W (w6.alloc (.cells #[.pointer (some ⟨f, 0, none⟩), .int .i64 ((s.last : Int) + 1), .slice A clean.length cap, .bool false] 87)) := hS6.alloc _
    have HQN := Lib.hid HK6.out.size
    obtain ⟨Q, hQ⟩ : ∃ Q, w6.heap.size = Q := ⟨_, rfl⟩
    rw [hQ] at HQ7 HQN ⊢
    clear hka hQ HO6 HP6 HM6 HF6 HC6 HK6 hS6
    generalize w6.alloc (.cells #[.pointer (some ⟨f, 0, none⟩), .int .i64 ((s.last : Int) + 1), .slice A clean.length cap, .bool false] 87) = w7 at HQ7 HO7 HP7 HM7 HF7 HC7 HK7 hS7 ⊢
    refine held_one (i := 20) (by kernel_rfl) rfl fun K hK => ?_
    refine wpList_mapUpdate_in w7 rfl _ _ _ 36 rfl 3 75 (Maps.int_keyed Try.underlying3) Try.underlying36 ptrElem b s.last D rfl HM7.out (by unfold maxLen; omega) (.int .i64 ((s.last : Int) + 1)) (.pointer (some ⟨Q, 0, none⟩)) (.int .i64 ((s.last + 1 : Nat) : Int)) rfl rfl (Maps.keyOf_int_mk Try.underlying3 (num_wf (show s.last + 1 ≤ 100000 by omega))) (.lit (.int .i64 (Q : Int))) [] (ptrElem_mk Q) ?_
    intro w8 hm8 ht8
    have hk8 : Kept (fun k => k = b) w7 w8 := (Kept.of_grown ht8.grown).more fun k _ e => by injection e with e; exact e.symm
    have HM8 := Lib.hid hm8
    have HK8 := Lib.hid hk8
    clear hm8 ht8 hk8
    go_wp2_with (fail)
    refine hK.out _ _ (hS7.trans HK8.out fun _ _ e => e) fun _ => ?_
    clear hK K
    refine wpAnyH_done (by kernel_rfl) ?_ _
    have HP8 := Lib.hid (HP7.out.kept HK8.out hpb)
    have y0 : w8.cell? ⟨p, 0, none⟩ = some (.int .i64 ((s.last : Int) + 1)) := (HP8.out.cell 0).trans rfl
    clear hS hS7
    go_wp2_with (fail)
    go_ret2
    refine ⟨rfl, ?_⟩
    have hfin := HNET.out.laid hlast HBY.out hlen (A := A) (cap := cap) (cc := cc) (Q := Q) HP8.out HM8.out HDD.out (HQ7.out.kept HK8.out fun e => (Off.map HM7.out).box HQ7.out e) (HF7.out.kept HK8.out hfb) (HK8.out.own (own_base HO7.out (Nat.zero_le _)) fun k e hk => (Off.map HM7.out).own HO7.out e hk) (HK8.out.own HC7.out fun k e hk => (Off.map HM7.out).own HC7.out e hk) (HK7.out.trans HK8.out fun k _ e => .inr e) (.inl HFB.out) HOB.out HQN.out fun k e => Nat.le_trans HLE.out (HO7.out.lt k e).1
    obtain ⟨F9, es9, h1, h2, h3⟩ := hfin
    exact ⟨F9, es9, h1, h2, h3, (HK7.out.trans HK8.out fun k _ e => .inr e).more fun k _ e => e.imp id fun e => by subst e; exact HOB.out⟩
end Go.Proofs.Ytopcogogpbcbhaa
