/- The walk of net's Copies. Conditions: the network lies in memory. -/
import Derived.Test.YtopcogogpbcbhaaNCop
namespace Go.Proofs.Ytopcogogpbcbhaa
open Go Go.RowKit Go.Maps

theorem SortedNet {w : World} {p : Nat} {F : Nat → Prop} {s : Nt} {es : List Ce} (h : NetAt w p F s es) (mb : Option Nat) (hm : (mb = none ∧ es = []) ∨ ∃ b D, mb = some b ∧ F b ∧ w.ownsMap Try.prog 3 ptrElem b s.last D ∧ MapIs D es) :
    Calls Try.prog 34 #[.func (.func 54) #[] #[.pointer (some ⟨w.heap.size, 0, none⟩)]] (w.alloc (.cells #[.map mb] 36)) fun e w' => ∃ K kc, e = .returned (.slice K s.l.length kc) ∧ w'.ownsRow w.heap.size 3 1 (.slice K s.l.length kc) s.l.length ((nums s).map encZ) ∧ Kept (fun _ => False) w w' := by
  have hka : Kept (fun _ => False) w (w.alloc (.cells #[.map mb] 36)) := (Kept.refl _ _).alloc _
  have hsz := hka.size
  rcases hm with ⟨rfl, rfl⟩ | ⟨b, D, rfl, -, hown, hD⟩
  · refine (Sorted_nil w).mono ?_
    rintro e w' ⟨rfl, hb⟩
    have hl : s.l = [] := by rw [← h.tie]; rfl
    have hk2 : Kept (fun _ => False) _ w' := Kept.of_below hb fun k h1 h2 => by omega
    exact ⟨none, 0, by rw [hl]; rfl, by unfold nums; rw [hl]; exact World.ownsRow_nil _ _ _ _, hka.trans hk2 fun _ _ e => e⟩
  · have hsl := hown.size_le
    have hll := h.last
    refine (Sorted_any b s.last D ptrElem w hown (by unfold maxLen; omega) (by omega)).mono ?_
    rintro e w' ⟨v, ss, rfl, hp, hrow, -, hb⟩
    obtain ⟨h1, h2⟩ := keys_nums h hown hD hp
    rw [h2, h1] at hrow
    obtain ⟨K, kc, rfl⟩ := own_shape hrow
    have hk2 : Kept (fun _ => False) _ w' := Kept.of_below hb fun k h1 h2 => by omega
    exact ⟨K, kc, rfl, own_base hrow hsz, hka.trans hk2 fun _ _ e => e⟩
def CopiesPost (w : World) (s : Nt) (r : Ending) (w' : World) : Prop := ∃ L lc l, r = .returned (.slice L l.length lc) ∧ CopAt w' w.heap.size L lc l ∧ l.map (·.c) = s.l ∧ Kept (fun _ => False) w w'
theorem Copies_nil (w : World) : Calls Try.prog 16 #[.pointer none] w (fun r w' => r = .returned (.slice none 0 0) ∧ w' = w) := by
  go_enter Try.func16, Try.ntmps16
  go_wp2_with (fail)
  go_ret
  exact ⟨rfl, rfl⟩
set_option maxRecDepth 100000 in
set_option maxHeartbeats 3200000 in
theorem Copies_any (p : Nat) (F : Nat → Prop) (s : Nt) (es : List Ce) (w : World) (h : NetAt w p F s es) (hn : s.l.length ≤ 100000) : Calls Try.prog 16 #[.pointer (some ⟨p, 0, none⟩)] w (CopiesPost w s) := by
  obtain ⟨mb, hp, hm⟩ := h.box
  have HNET := Lib.hid h
  have HP := Lib.hid hp
  have HM := Lib.hid hm
  have hlen : es.length = s.l.length := by rw [← h.tie, List.length_map]
  have HEN := Lib.hid hlen
  have HLK := Lib.hid (show ∀ (W : World), Kept (fun _ => False) w W → ∀ (k : Nat) (hk : k < es.length), (Instr.lookup 36 (.map mb) (.int .i64 (es[k].c.num : Int)) false).run Try.prog W = .ok (.pointer (some ⟨es[k].q, 0, none⟩)) W from fun W hW k hk => by
    rcases hm with ⟨rfl, rfl⟩ | ⟨b, D, rfl, -, hown, hD⟩
    · simp at hk
    · have hwf : (Lit.int .i64 (es[k].c.num : Int)).wf = true := num_wf (Nat.le_trans (h.num_le _ (List.getElem_mem hk)) h.last)
      obtain ⟨v, ps, hrun, hv⟩ := (ownsMap_kept hown hW id).lookup (Maps.int_keyed Try.underlying3) Try.underlying36 (z := .pointer none) rfl (zd := .lit (.bool false)) (zp := []) rfl (Maps.keyOf_int_mk Try.underlying3 hwf)
      rw [hD.at_ _ (List.getElem_mem hk)] at hv
      rw [hrun, ptrElem_inv hv])
  have x1 : w.cell? ⟨p, 1, none⟩ = some (.map mb) := (hp.cell 1).trans rfl
  have HKS := Lib.hid (SortedNet h mb hm)
  clear h hp hm hlen
  go_enter Try.func16, Try.ntmps16
  go_wp2_with (fail)
  refine (Keys_any mb w).mono ?_
  rintro r w1 ⟨rfl, rfl⟩
  go_wp2_with (fail)
  refine HKS.out.mono ?_
  rintro r w2 ⟨K, kc, rfl, hrow, hk2⟩
  have HR2 := Lib.hid hrow
  have HK2 := Lib.hid hk2
  clear hrow hk2 HKS x1
  go_wp2_with (fail)
  go_loopw [3, 15] (fun v3 i wr => ∃ (k : Nat) (L : Option Addr) (lc : Nat) (l : List Cc), i = .int .i64 k ∧ k ≤ s.l.length ∧ v3 = .slice L l.length lc ∧ l.map (·.c) = s.l.take k ∧ CopAt wr w.heap.size L lc l ∧ wr.ownsRow w.heap.size 3 1 (.slice K s.l.length kc) s.l.length ((nums s).map encZ) ∧ Kept (fun _ => False) w wr) (fun _ i _ => s.l.length - (intOf i).toNat)
  case atStart => exact ⟨0, none, 0, [], rfl, Nat.zero_le _, rfl, rfl, CopAt.nil _ _, HR2.out, HK2.out⟩
  case round =>
    clear HR2 HK2
    obtain ⟨k, L, lc, l, rfl, hk, rfl, hl, hcop, hrow, hkp⟩ := hrel
    have HC := Lib.hid hcop
    have HRW := Lib.hid hrow
    have HK := Lib.hid hkp
    have HL := Lib.hid hl
    have hll : l.length = k := by
      have := congrArg List.length hl
      rw [List.length_map, List.length_take] at this
      omega
    have HLL := Lib.hid hll
    have hlk : l.length ≤ 100000 := by omega
    clear hcop hrow hkp hl hll
    by_cases hlt : k < s.l.length
    · have hlt' : (k : Int) < (s.l.length : Int) := by omega
      have hke : k < es.length := by rw [HEN.out]; exact hlt
      obtain ⟨gk, hgk, -, hcell, -⟩ := own_cells HRW.out (by omega)
      subst hgk
      have hxc : es[k].c = s.l[k] := by
        have := HNET.out.tie
        have h1 : (es.map (·.c))[k]? = s.l[k]? := by rw [this]
        rw [List.getElem?_map, List.getElem?_eq_getElem hke, List.getElem?_eq_getElem hlt] at h1
        injection h1
      have HXC := Lib.hid hxc
      have y0 : wr.cell? ⟨gk, k, none⟩ = some (.int .i64 (es[k].c.num : Int)) := hcell k _ (by rw [hxc]; simp [nums, hlt])
      have y1 : wr.cell? ⟨p, 1, none⟩ = some (.map mb) := ((HP.out.kept HK.out id).cell 1).trans rfl
      have hlook := HLK.out wr HK.out k hke
      have HX := Lib.hid ((HNET.out.ats es[k] (List.getElem_mem hke)).kept HK.out fun _ _ => id)
      have HBL := Lib.hid (show es[k].c.data.length ≤ 60000 by rw [hxc]; exact (HNET.out.ok.len _ (List.getElem_mem hlt)).2)
      obtain ⟨x, hx⟩ : ∃ x, es[k] = x := ⟨_, rfl⟩
      rw [hx] at HXC y0 hlook HX HBL
      clear hcell hxc hx
      go_wp2_with (fail)
      refine (Told_any x F wr HX.out HBL.out).mono ?_
      rintro r w3 ⟨A, cap, rfl, ho, hk3⟩
      have HO := Lib.hid ho
      have HC3 := Lib.hid (HC.out.fresh hk3)
      have HR3 := Lib.hid (hk3.own HRW.out fun _ _ => id)
      have HK3 := Lib.hid (HK.out.trans hk3 fun _ _ e => e)
      have HWS := Lib.hid (fun y (hy : y ∈ l) k (e : y.dV.ownBlock = some k) => ((HC.out.d y hy).lt k e).2)
      have HWZ := Lib.hid HK.out.size
      clear ho hk3 y0 y1 hlook HX HBL
      go_wp2_with (first | refine wpList_one_cp rfl _ rfl x.c A cap rfl ?_ | (at_builtin; refine Hid.out ?_))
      refine Lib.hid ?_
      refine wpList_append_new eltCps rfl _ _ rfl w.heap.size _ l.length (ccs l) rfl HC3.out.row 1 1 rfl rfl (Cc.cs_one ⟨x.c, A, cap⟩) (by omega) HK3.out.size ?_
      intro A' c' w4 HO4 HK4 HG4
      have hcop4 : CopAt w4 w.heap.size A' c' (l ++ [⟨x.c, A, cap⟩]) := by
        refine ⟨?_, fun y hy => ?_, ?_⟩
        · rw [List.length_append, ccs_snoc]
          exact HO4.out
        · rcases List.mem_append.1 hy with hy | hy
          · exact HK4.out.own (HC3.out.d y hy) (own_other (HC3.out.d y hy) HC3.out.row (by decide))
          · obtain rfl : y = _ := List.mem_singleton.1 hy
            exact HK4.out.own (own_base HO.out HWZ.out) (own_other HO.out HC3.out.row (by decide))
        · refine List.pairwise_append.2 ⟨HC3.out.ap, List.pairwise_singleton _ _, fun y hy z hz k h1 h2 => ?_⟩
          obtain rfl : z = _ := List.mem_singleton.1 hz
          have a1 := HWS.out y hy k h1
          have a2 := (HO.out.lt k h2).1
          omega
      have HC4 := Lib.hid hcop4
      have HR4 := Lib.hid (HK4.out.own HR3.out (own_other HR3.out HC3.out.row (by decide)))
      have HKF := Lib.hid (HK3.out.trans HK4.out fun j hj e => by have := (HC3.out.row.lt j e).1; omega)
      have HLN := Lib.hid (show (l ++ [(⟨x.c, A, cap⟩ : Cc)]).length = l.length + 1 by simp)
      clear hcop4 HO HC HC3 HO4 HK4 HG4 HWS HWZ HRW HR3 HK HK3
      go_wp2_with (fail)
      go_roundw
      case rel => exact ⟨k + 1, A', c', l ++ [⟨x.c, A, cap⟩], by go_num, by omega, by rw [HLN.out], by rw [List.map_append, HL.out, List.take_succ_eq_append_getElem hlt, ← HXC.out]; rfl, HC4.out, HR4.out, HKF.out⟩
      case measure => simp [intOf]; omega
    · obtain rfl : k = s.l.length := by omega
      go_wp2_with (fail)
      go_ret
      exact ⟨L, lc, l, rfl, HC.out, by rw [HL.out, List.take_length], HK.out⟩
end Go.Proofs.Ytopcogogpbcbhaa
