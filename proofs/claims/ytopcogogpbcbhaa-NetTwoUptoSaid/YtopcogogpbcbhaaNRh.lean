/- The walk of the reference's Alter. Conditions: the network and the bytes lie in memory. -/
import Derived.Test.YtopcogogpbcbhaaNRg
namespace Go.Proofs.Ytopcogogpbcbhaa
open Go Go.RowKit

/-- Bytes that are being written over from m on: k of b stand. -/
def alterK (d : List Int) (m : Nat) (b : List Int) (k : Nat) : List Int := d.take m ++ b.take k ++ d.drop (m + k)
theorem alterK_len {d b : List Int} {m k : Nat} (hm : m + b.length ≤ d.length) (hk : k ≤ b.length) : (alterK d m b k).length = d.length := by
  unfold alterK
  rw [List.length_append, List.length_append, List.length_take, List.length_take, List.length_drop]
  omega
theorem alterK_get {d b : List Int} {m k : Nat} (hm : m + b.length ≤ d.length) (hk : k ≤ b.length) (i : Nat) : (alterK d m b k)[i]? = if i < m then d[i]? else if i < m + k then b[i - m]? else d[i]? := by
  unfold alterK
  have l1 : (d.take m).length = m := by rw [List.length_take]; omega
  have l2 : (b.take k).length = k := by rw [List.length_take]; omega
  by_cases h1 : i < m
  · rw [if_pos h1, List.getElem?_append_left (by rw [List.length_append]; omega), List.getElem?_append_left (by omega), List.getElem?_take, if_pos h1]
  · rw [if_neg h1]
    by_cases h2 : i < m + k
    · rw [if_pos h2, List.getElem?_append_left (by rw [List.length_append]; omega), List.getElem?_append_right (by omega), l1, List.getElem?_take, if_pos (by omega)]
    · rw [if_neg h2, List.getElem?_append_right (by rw [List.length_append]; omega), List.getElem?_drop, List.length_append, l1, l2]
      congr 1
      omega
theorem alterK_set {d b : List Int} {m k : Nat} (hm : m + b.length ≤ d.length) (hk : k < b.length) : (alterK d m b k).set (m + k) b[k] = alterK d m b (k + 1) := by
  refine List.ext_getElem? fun i => ?_
  rw [List.getElem?_set, alterK_get hm (by omega) i, alterK_get hm (by omega) i, alterK_len hm (by omega)]
  by_cases h : m + k = i
  · subst h
    rw [if_pos rfl, if_pos (by omega), if_neg (by omega), if_pos (by omega), show m + k - m = k by omega, List.getElem?_eq_getElem hk]
  · rw [if_neg h]
    by_cases h1 : i < m
    · rw [if_pos h1, if_pos h1]
    · rw [if_neg h1, if_neg h1]
      by_cases h2 : i < m + k
      · rw [if_pos h2, if_pos (by omega)]
      · rw [if_neg h2, if_neg (by omega)]
theorem alterK_zero (d : List Int) (m : Nat) (b : List Int) : alterK d m b 0 = d := by simp [alterK]
theorem alterK_all (d : List Int) (m : Nat) (b : List Int) : alterK d m b b.length = alterD d m b := by simp [alterK, alterD]
theorem isByte_alter {d b : List Int} {m : Nat} (hd : isByte d) (hb : isByte b) : isByte (alterD d m b) := fun v hv => by
  unfold alterD at hv
  rcases List.mem_append.1 hv with hv | hv
  · rcases List.mem_append.1 hv with hv | hv
    · exact hd v (List.mem_of_mem_take hv)
    · exact hb v hv
  · exact hd v (List.mem_of_mem_drop hv)
set_option maxRecDepth 100000 in
set_option maxHeartbeats 12800000 in
theorem RAlter_any (p : Nat) (F : Nat → Prop) (s : Nt) (L : Option Addr) (lc : Nat) (hs : List He) (w : World) (h : RNetAt w p F s L lc hs) (n a : Int) (B : Option Addr) (b : List Int) (c : Nat) (hb : BytesAt w B b) (hby : isByte b) (hbl : b.length ≤ 60000) :
    Calls Try.prog 32 #[.pointer (some ⟨p, 0, none⟩), .int .i64 n, .int .i64 a, .slice B b.length c] w (fun r w' => r = .returned (.int .i64 (s.alter n a b).1) ∧ RNetPost w p F (s.alter n a b).2 w') := by
  have HY := Lib.hid (show ∀ c, s.get n = some c → s.alter n a b = (if alterOk c.data a b = true then (if c.bad = true then (12, s) else (0, s.put n (alterD c.data a.toNat b))) else (1, s)) from fun c e => by unfold Nt.alter; rw [e])
  have HNO := Lib.hid (show s.get n = none → s.alter n a b = (11, s) from fun e => by unfold Nt.alter; rw [e])
  have HBA := Lib.hid hb
  have HBB := Lib.hid hby
  clear hb hby
  have HZW := Lib.hid h
  have HPL := Lib.hid (RPlace_any p F s L lc hs w h h.small n)
  clear h
  obtain ⟨z, hz⟩ : ∃ z, s.alter n a b = z := ⟨_, rfl⟩
  rw [hz] at HY HNO ⊢
  clear hz
  go_enter Try.func32, Try.ntmps32
  go_wp2_with (fail)
  refine HPL.out.mono ?_
  rintro r w1 ⟨hk, ⟨rfl, hg⟩ | ⟨j, hj, rfl, hg⟩⟩
  · as_aux_lemma =>
    have HE := Lib.hid (HNO.out hg)
    have HS := Lib.hid (HZW.out.stay hk)
    clear hk hg HY HNO
    go_wp2_with (fail)
    go_ret
    exact ⟨by rw [HE.out]; rfl, by rw [HE.out]; exact HS.out⟩
  have HE := Lib.hid (HY.out _ hg)
  have HZ1 := Lib.hid (HZW.out.fresh hk)
  have HK := Lib.hid hk
  have HG := Lib.hid hg
  have hjl : j < hs.length := by rw [HZW.out.len]; exact hj
  have hxc := he_map HZW.out.tie hjl hj
  obtain ⟨x, hx⟩ : ∃ x, hs[j] = x := ⟨_, rfl⟩
  have HXM := Lib.hid (show x ∈ hs by rw [← hx]; exact List.getElem_mem hjl)
  have HPT := Lib.hid (he_part hjl hx).2
  rw [hx] at hxc
  have hdl : x.c.data.length ≤ 60000 := by rw [hxc]; exact (HZW.out.ok.len _ (List.getElem_mem hj)).2
  have HBYD := Lib.hid (show isByte x.c.data by rw [hxc]; exact (HZW.out.ok.by_ _ (List.getElem_mem hj)).2)
  obtain ⟨g, e1, -, -, -⟩ := own_cells HZ1.out.row (by omega)
  subst e1
  have hj0 : (0 : Int) ≤ (j : Int) := by omega
  have hji : (j : Int) < (hs.length : Int) := by omega
  have hjn : ¬ (j : Int) < 0 := by omega
  have x0 : w1.cell? ⟨p, 0, none⟩ = some (.slice (some ⟨g, 0, none⟩) hs.length lc) := (HZ1.out.box.cell 0).trans rfl
  have HN := Lib.hid (Box.new w1 44 (cpC zeroCp none 0))
  have HXC := Lib.hid hxc
  rw [← hxc] at HE
  clear hk hg hx hxc HY HNO HPL
  go_wp2_with (first | (refine load_part rfl 44 _ rfl g (j * 7) rfl HZ1.out.row (cpC x.c x.dA x.dc) und_cp size_cp HPT.out ?_) | (refine wpList_store_box rfl 44 _ _ rfl w1.heap.size (cpC x.c x.dA x.dc) rfl rfl 44 (cpC zeroCp none 0) HN.out size_cp rfl (cpC_one _ _ _) ?_))
  intro w2 HB2 hk2
  have hk2' : Kept (fun _ => False) w1 w2 := ((Kept.refl _ w1).alloc _).trans hk2 fun j hj e => by omega
  have HZ2 := Lib.hid (HZ1.out.fresh hk2')
  have HK2 := Lib.hid (HK.out.trans hk2' fun _ _ e => e)
  have HX2 := Lib.hid (show w.heap.size ≤ w1.heap.size from HK.out.size)
  obtain ⟨X, hX⟩ : ∃ X, w1.heap.size = X := ⟨_, rfl⟩
  rw [hX] at HB2 HX2 ⊢
  have ha := HZ2.out.ats x HXM.out
  have HD2 := Lib.hid ha.d
  obtain ⟨⟨n1, n2, n3, n4, n5, dd, bad⟩, xdA, xdc, xcA, xcc⟩ := x
  simp only at HB2 HD2 HE hdl HBYD HXC
  have x3 : w2.cell? ⟨X, 3, none⟩ = some (.slice xdA dd.length xdc) := (HB2.out.cell 3).trans rfl
  have x5 : w2.cell? ⟨X, 5, none⟩ = some (.bool bad) := (HB2.out.cell 5).trans rfl
  clear hk2 hk2' hX ha HZ1 HN x0 HPT
  have hwl : IntKind.i64.wrap ((dd.length : Int) - b.length) = (dd.length : Int) - b.length := IntWalk.i64_in _ ⟨by omega, by omega⟩
  have hcase : ((b.length : Int) < 1) ∨ (1 ≤ (b.length : Int) ∧ 4 < (b.length : Int)) ∨ (1 ≤ (b.length : Int) ∧ (b.length : Int) ≤ 4 ∧ a < 0) ∨ (1 ≤ (b.length : Int) ∧ (b.length : Int) ≤ 4 ∧ 0 ≤ a ∧ (dd.length : Int) - b.length < a) ∨ (1 ≤ (b.length : Int) ∧ (b.length : Int) ≤ 4 ∧ 0 ≤ a ∧ a ≤ (dd.length : Int) - b.length) := by omega
  rcases hcase with h1 | ⟨h1, h2⟩ | ⟨h1, h2, h3⟩ | ⟨h1, h2, h3, h4⟩ | ⟨h1, h2, h3, h4⟩
  · as_aux_lemma =>
    have d0 : decide ((b.length : Int) < 1) = true := decide_eq_true (by omega)
    have e0 : (b.length : Int) < 1 := by omega
    have HV := Lib.hid (show alterOk dd a b = false from alterOk_no (by omega))
    have HS := Lib.hid (HZW.out.stay HK2.out)
    rw [HV.out] at HE
    clear h1
    go_wp2_with (fail)
    go_ret
    rw [HE.out]
    exact ⟨rfl, HS.out⟩
  · as_aux_lemma =>
    have d0 : decide ((b.length : Int) < 1) = false := decide_eq_false (by omega)
    have e0 : ¬ (b.length : Int) < 1 := by omega
    have d1 : decide ((4 : Int) < b.length) = true := decide_eq_true (by omega)
    have e1 : (4 : Int) < b.length := by omega
    have HV := Lib.hid (show alterOk dd a b = false from alterOk_no (by omega))
    have HS := Lib.hid (HZW.out.stay HK2.out)
    rw [HV.out] at HE
    clear h1 h2
    go_wp2_with (fail)
    go_ret
    rw [HE.out]
    exact ⟨rfl, HS.out⟩
  · as_aux_lemma =>
    have d0 : decide ((b.length : Int) < 1) = false := decide_eq_false (by omega)
    have e0 : ¬ (b.length : Int) < 1 := by omega
    have d1 : decide ((4 : Int) < b.length) = false := decide_eq_false (by omega)
    have e1 : ¬ (4 : Int) < b.length := by omega
    have d2 : decide (a < 0) = true := decide_eq_true (by omega)
    have e2 : a < 0 := by omega
    have HV := Lib.hid (show alterOk dd a b = false from alterOk_no (by omega))
    have HS := Lib.hid (HZW.out.stay HK2.out)
    rw [HV.out] at HE
    clear h1 h2 h3
    go_wp2_with (fail)
    go_ret
    rw [HE.out]
    exact ⟨rfl, HS.out⟩
  · as_aux_lemma =>
    have d0 : decide ((b.length : Int) < 1) = false := decide_eq_false (by omega)
    have e0 : ¬ (b.length : Int) < 1 := by omega
    have d1 : decide ((4 : Int) < b.length) = false := decide_eq_false (by omega)
    have e1 : ¬ (4 : Int) < b.length := by omega
    have d2 : decide (a < 0) = false := decide_eq_false (by omega)
    have e2 : ¬ a < 0 := by omega
    have d3 : decide ((dd.length : Int) - b.length < a) = true := decide_eq_true (by omega)
    have e3 : (dd.length : Int) - b.length < a := by omega
    have HV := Lib.hid (show alterOk dd a b = false from alterOk_no (by omega))
    have HS := Lib.hid (HZW.out.stay HK2.out)
    rw [HV.out] at HE
    clear h1 h2 h3 h4
    go_wp2_with (fail)
    go_ret
    rw [HE.out]
    exact ⟨rfl, HS.out⟩
  obtain ⟨m, rfl⟩ : ∃ m : Nat, a = (m : Int) := ⟨a.toNat, by omega⟩
  have d0 : decide ((b.length : Int) < 1) = false := decide_eq_false (by omega)
  have e0 : ¬ (b.length : Int) < 1 := by omega
  have d1 : decide ((4 : Int) < b.length) = false := decide_eq_false (by omega)
  have e1 : ¬ (4 : Int) < b.length := by omega
  have d2 : decide ((m : Int) < 0) = false := decide_eq_false (by omega)
  have e2 : ¬ (m : Int) < 0 := by omega
  have d3 : decide ((dd.length : Int) - b.length < (m : Int)) = false := decide_eq_false (by omega)
  have e3 : ¬ (dd.length : Int) - b.length < (m : Int) := by omega
  have hm : m + b.length ≤ dd.length := by omega
  have hV := alterOk_yes (d := dd) (m := m) (b := b) (by omega) (by omega) hm
  rw [hV, Int.toNat_natCast] at HE
  have hch := RChanges_any xdA B dd b m xdc c w2 (BytesAt.of_own HD2.out) (HBA.out.fresh HK2.out) hm (by omega)
  obtain ⟨bo, hbo⟩ : ∃ bo, (!decide ((dd.drop m).take b.length = b)) = bo := ⟨_, rfl⟩
  rw [hbo] at hch HE
  clear hbo hV h1 h2 h3 h4
  go_wp2_with (fail)
  refine hch.mono ?_
  clear hch
  rintro r w3 ⟨rfl, hk⟩
  have HB3 := Lib.hid (HB2.out.kept hk id)
  have HK3 := Lib.hid (HK2.out.trans hk fun _ _ e => e)
  have HD3 := Lib.hid (hk.own HD2.out fun _ _ => id)
  have x3 : w3.cell? ⟨X, 3, none⟩ = some (.slice xdA dd.length xdc) := (HB3.out.cell 3).trans rfl
  have x5 : w3.cell? ⟨X, 5, none⟩ = some (.bool bad) := (HB3.out.cell 5).trans rfl
  clear hk HB2 HK2 HD2 HZ2
  cases bo with
  | false =>
    as_aux_lemma =>
    have HS := Lib.hid (HZW.out.stay HK3.out)
    rw [if_neg (by simp)] at HE
    go_wp2_with (fail)
    go_ret
    rw [HE.out]
    exact ⟨rfl, HS.out⟩
  | true =>
  rw [if_pos rfl] at HE
  cases bad with
  | true =>
    as_aux_lemma =>
    have HS := Lib.hid (HZW.out.stay HK3.out)
    rw [if_pos rfl] at HE
    go_wp2_with (fail)
    go_ret
    rw [HE.out]
    exact ⟨rfl, HS.out⟩
  | false =>
    rw [if_neg (by simp)] at HE
    go_wp2_with (fail)
    refine (RTwin_any xdA dd xdc w3 (BytesAt.of_own HD3.out) (own_noneNil HD3.out) (by omega)).mono ?_
    rintro r w4 ⟨A2, c2, rfl, ho, hk⟩
    obtain ⟨gd, e9, -, -, -⟩ := own_cells ho (by omega)
    subst e9
    have hgd := (ho.lt gd rfl).1
    have HO4 := Lib.hid (own_base ho HK3.out.size)
    have HB4 := Lib.hid (HB3.out.kept hk id)
    have HK4 := Lib.hid (HK3.out.trans hk fun _ _ e => e)
    have HXG := Lib.hid (show X ≠ gd from fun e => by have := HB3.out.lt; omega)
    have HGW := Lib.hid (show w.heap.size ≤ gd from Nat.le_trans HK3.out.size hgd)
    have z3 : w4.cell? ⟨X, 3, none⟩ = some (.slice xdA dd.length xdc) := (HB4.out.cell 3).trans rfl
    have f3 := HB4.out.frozen 3
    have hb5 := HB4.out.set 3 (.slice (some ⟨gd, 0, none⟩) dd.length c2)
    have hk5 := (Kept.refl (fun k => k = X) w4).at (g := X) 3 (.slice (some ⟨gd, 0, none⟩) dd.length c2) (.inl rfl)
    have HB5 := Lib.hid (show Box (w4.setCell ⟨X, 3, none⟩ (.slice (some ⟨gd, 0, none⟩) dd.length c2)) X 44 (cpC ⟨n1, n2, n3, n4, n5, dd, false⟩ (some ⟨gd, 0, none⟩) c2) from hb5)
    have HK5 := Lib.hid (HK4.out.trans hk5 fun k hk e => by have := HX2.out; omega)
    have HO5 := Lib.hid (hk5.own HO4.out fun k e e2 => by injection e with e; exact HXG.out (e2.symm.trans e.symm))
    clear hb5 hk5 ho hk HB3 HB4 HO4 HK3 HK4 HD3 x3 x5 hgd
    go_upto_region 10 with (fail)
    generalize w4.setCell ⟨X, 3, none⟩ (.slice (some ⟨gd, 0, none⟩) dd.length c2) = w5 at HB5 HK5 HO5 ⊢
    clear z3 f3
    go_wp2_with (fail)
    go_loopw [11] (fun i wr => ∃ k : Nat, i = .int .i64 k ∧ k ≤ b.length ∧ wr.ownsRow w.heap.size 5 1 (.slice (some ⟨gd, 0, none⟩) dd.length c2) dd.length (bys (alterK dd m b k)) ∧ Box wr X 44 (cpC ⟨n1, n2, n3, n4, n5, dd, false⟩ (some ⟨gd, 0, none⟩) c2) ∧ Kept (fun _ => False) w wr) (fun i _ => b.length - (intOf i).toNat)
    case atStart => exact ⟨0, rfl, Nat.zero_le _, by rw [alterK_zero]; exact HO5.out, HB5.out, HK5.out⟩
    case round =>
      obtain ⟨k, rfl, hk, ho, hbx, hkk⟩ := hrel
      have HOW := Lib.hid ho
      have HBX := Lib.hid hbx
      have HKW := Lib.hid hkk
      clear ho hbx hkk HB5 HK5 HO5
      by_cases hlt : k < b.length
      · as_aux_lemma =>
        obtain ⟨adb, rfl, y0⟩ := HBA.out k hlt
        have HCB := Lib.hid (show ∀ Wz, Kept (fun _ => False) w Wz → Wz.cell? (adb.add k) = some (.int .u8 b[k]) from fun Wz hW => by
          obtain ⟨ad2, e2, h2⟩ := HBA.out.fresh hW k hlt
          injection e2 with e2
          subst e2
          exact h2)
        have HNX := Lib.hid (alterK_set hm hlt)
        obtain ⟨J, hJ⟩ : ∃ J, m + k = J := ⟨_, rfl⟩
        rw [hJ] at HNX
        have hw : IntKind.i64.wrap ((m : Int) + (k : Int)) = (J : Int) := by rw [IntWalk.i64_in _ ⟨by omega, by omega⟩]; omega
        have hJ0 : (0 : Int) ≤ (J : Int) := by omega
        have hJi : (J : Int) < (dd.length : Int) := by omega
        have hJd : J < dd.length := by omega
        have hk0 : (0 : Int) ≤ (k : Int) := by omega
        have hki : (k : Int) < (b.length : Int) := by omega
        obtain ⟨bv, hbv⟩ : ∃ bv, b[k] = bv := ⟨_, rfl⟩
        rw [hbv] at HCB HNX
        clear hJ hbv y0
        go_upto_region 13 with (fail)
        have HKD := Lib.hid (HKW.out.trans (Kept.refl (fun _ => False) wr).drew fun _ _ e => e)
        have HBD := Lib.hid (show Box wr.drew X 44 (cpC ⟨n1, n2, n3, n4, n5, dd, false⟩ (some ⟨gd, 0, none⟩) c2) from HBX.out)
        have HOD := Lib.hid ((Kept.refl (fun _ => False) wr).drew.own HOW.out fun _ _ => id)
        clear HKW HBX HOW
        refine wp_region_held_drew (S := fun Wz => Kept (fun k => k = gd) wr.drew Wz) (by kernel_rfl) (Kept.refl _ _) fun hS => ?_
        generalize wr.drew = V at HKD HBD HOD hS ⊢
        have HKZ := Lib.hid (show ∀ Wz, Kept (fun k => k = gd) V Wz → Kept (fun _ => False) w Wz from fun Wz hW => HKD.out.trans hW fun k hk e => by have := HGW.out; omega)
        refine held_takeTo 67 (i := 0) (v := .pointer (some ⟨X, 3, none⟩)) rfl rfl (by kernel_rfl) (by kernel_rfl) (by kernel_rfl) (fun _ _ _ h => h) rfl hS (fun Wz hW => by go_simp) ?_
        simp only [List.setIfInBounds_toArray, List.set_cons_zero, List.set_cons_succ]
        refine held_takeTo 68 (i := 1) (v := .slice (some ⟨gd, 0, none⟩) dd.length c2) rfl rfl (by kernel_rfl) (by kernel_rfl) (by kernel_rfl) (fun _ _ _ h => h) rfl hS (fun Wz hW => by (have hc : Wz.cell? ⟨X, 3, none⟩ = some (.slice (some ⟨gd, 0, none⟩) dd.length c2) := ((HBD.out.kept hW HXG.out).cell 3).trans rfl; go_simp)) ?_
        simp only [List.setIfInBounds_toArray, List.set_cons_zero, List.set_cons_succ]
        refine held_takeTo 69 (i := 2) (v := .int .i64 (m : Int)) rfl rfl (by kernel_rfl) (by kernel_rfl) (by kernel_rfl) (fun _ _ _ h => h) rfl hS (fun Wz hW => by go_simp) ?_
        simp only [List.setIfInBounds_toArray, List.set_cons_zero, List.set_cons_succ]
        refine held_takeTo 70 (i := 3) (v := .int .i64 (k : Int)) rfl rfl (by kernel_rfl) (by kernel_rfl) (by kernel_rfl) (fun _ _ _ h => h) rfl hS (fun Wz hW => by go_simp) ?_
        simp only [List.setIfInBounds_toArray, List.set_cons_zero, List.set_cons_succ]
        refine held_takeTo 71 (i := 4) (v := .int .i64 (J : Int)) rfl rfl (by kernel_rfl) (by kernel_rfl) (by kernel_rfl) (fun _ _ _ h => h) rfl hS (fun Wz hW => by go_simp) ?_
        simp only [List.setIfInBounds_toArray, List.set_cons_zero, List.set_cons_succ]
        refine held_takeTo 72 (i := 5) (v := .slice (some adb) b.length c) rfl rfl (by kernel_rfl) (by kernel_rfl) (by kernel_rfl) (fun _ _ _ h => h) rfl hS (fun Wz hW => by go_simp) ?_
        simp only [List.setIfInBounds_toArray, List.set_cons_zero, List.set_cons_succ]
        refine held_takeTo 73 (i := 6) (v := .int .i64 (k : Int)) rfl rfl (by kernel_rfl) (by kernel_rfl) (by kernel_rfl) (fun _ _ _ h => h) rfl hS (fun Wz hW => by go_simp) ?_
        simp only [List.setIfInBounds_toArray, List.set_cons_zero, List.set_cons_succ]
        refine held_takeTo 74 (i := 7) (v := .pointer (some (adb.add k))) rfl rfl (by kernel_rfl) (by kernel_rfl) (by kernel_rfl) (fun _ _ _ h => h) rfl hS (fun Wz hW => by go_simp) ?_
        simp only [List.setIfInBounds_toArray, List.set_cons_zero, List.set_cons_succ]
        refine held_takeTo 75 (i := 8) (v := .int .u8 bv) rfl rfl (by kernel_rfl) (by kernel_rfl) (by kernel_rfl) (fun _ _ _ h => h) rfl hS (fun Wz hW => by (have hc := HCB.out Wz (HKZ.out Wz hW); go_simp)) ?_
        simp only [List.setIfInBounds_toArray, List.set_cons_zero, List.set_cons_succ]
        refine held_takeTo 76 (i := 9) (v := .pointer (some ⟨gd, J, none⟩)) rfl rfl (by kernel_rfl) (by kernel_rfl) (by kernel_rfl) (fun _ _ _ h => h) rfl hS (fun Wz hW => by go_simp) ?_
        simp only [List.setIfInBounds_toArray, List.set_cons_zero, List.set_cons_succ]
        refine held_one (i := 10) (by kernel_rfl) rfl fun K hK => ?_
        have hlen := alterK_len hm (Nat.le_of_lt hlt)
        obtain ⟨g9, e9, -, hdc, hfz⟩ := own_cells HOD.out (by omega)
        injection e9 with e9
        injection e9 with e9 _ _
        subst e9
        obtain ⟨ov, hov⟩ : ∃ ov, (alterK dd m b k)[J]'(by omega) = ov := ⟨_, rfl⟩
        have v0 : V.cell? ⟨gd, J, none⟩ = some (.int .u8 ov) := hdc J _ (by rw [← hov]; simp [bys])
        have fz : V.frozen? ⟨gd, J, none⟩ = false := hfz J
        have ho6 := own_put HOD.out J (.int .u8 bv)
        have HO6 := Lib.hid (show (V.setCell ⟨gd, J, none⟩ (.int .u8 bv)).ownsRow w.heap.size 5 1 (.slice (some ⟨gd, 0, none⟩) dd.length c2) dd.length (bys (alterK dd m b (k + 1))) from by
          rw [← HNX.out, show bys ((alterK dd m b k).set J bv) = (bys (alterK dd m b k)).set J (.int .u8 bv) by simp [bys, List.map_set]]
          exact ho6)
        have hk6 := (Kept.refl (fun k => k = gd) V).at (g := gd) J (.int .u8 bv) (.inl rfl)
        have HB6 := Lib.hid (HBD.out.kept hk6 HXG.out)
        have HK6 := Lib.hid (HKZ.out _ hk6)
        have hS6 := hS.trans hk6 fun _ _ e => e
        clear hdc hfz hov ho6 hk6 HKZ HBD HOD HKD hlen
        go_wp2_with (fail)
        refine hK.out _ _ hS6 fun _ => ?_
        clear hK K hS v0 fz
        refine wpAnyH_done (by kernel_rfl) ?_ _
        clear hS6
        generalize V.setCell ⟨gd, J, none⟩ (.int .u8 bv) = V6 at HO6 HB6 HK6 ⊢
        go_wp2_with (fail)
        go_roundw
        case rel => exact ⟨k + 1, by go_num, by omega, HO6.out, HB6.out, HK6.out⟩
        case measure => simp [intOf]; omega
      · obtain rfl : k = b.length := by omega
        have hdd := alterK_len hm (Nat.le_refl b.length)
        rw [alterK_all] at HOW hdd
        have HDB0 := isByte_alter (m := m) HBYD.out HBB.out
        obtain ⟨D, hD⟩ : ∃ D, alterD dd m b = D := ⟨_, rfl⟩
        rw [hD] at HOW HE hdd HDB0
        have HDB := Lib.hid (show isByte D ∧ D.length ≤ 60000 from ⟨HDB0, by omega⟩)
        have f5 := HBX.out.frozen 5
        have z5 : wr.cell? ⟨X, 5, none⟩ = some (.bool false) := (HBX.out.cell 5).trans rfl
        have hb7 := HBX.out.set 5 (.bool true)
        have hk7 := (Kept.refl (fun k => k = X) wr).at (g := X) 5 (.bool true) (.inl rfl)
        obtain ⟨A2, hA2⟩ : ∃ A2, (some ⟨gd, 0, none⟩ : Option Addr) = A2 := ⟨_, rfl⟩
        have HBX := Lib.hid (show Box (wr.setCell ⟨X, 5, none⟩ (.bool true)) X 44 (cpC (s.l[j].turn D) A2 c2) from by
          rw [← HXC.out, ← hA2]
          show Box _ X 44 #[.int .i64 n1, .int .i64 n2, .int .i64 n3, .slice (some ⟨gd, 0, none⟩) D.length c2, .int .i64 n4, .bool true]
          rw [hdd]
          exact hb7)
        have HKW := Lib.hid (HKW.out.trans hk7 fun k hk e => by have := HX2.out; omega)
        have HO := Lib.hid (show (wr.setCell ⟨X, 5, none⟩ (.bool true)).ownsRow w.heap.size 5 1 (.slice A2 D.length c2) D.length (bys D) from by
          rw [← hA2, hdd]
          exact hk7.own HOW.out fun k e e2 => by injection e with e; exact HXG.out (e2.symm.trans e.symm))
        have x0 : True := trivial
        have x3 : True := trivial
        clear hD HDB0 hb7 hk7 HOW hA2 hdd
        go_upto_region 15 with (fail)
        generalize wr.setCell ⟨X, 5, none⟩ (.bool true) = W at HBX HKW HO ⊢
        have HZL := Lib.hid (HZW.out.fresh HKW.out)
        have hpg : p ≠ g := fun e => own_box_ne HZL.out.row HZL.out.box (by decide) (by rw [e]; rfl)
        have hXg : X ≠ g := fun e => own_box_ne HZL.out.row HBX.out (by decide) (by rw [e]; rfl)
        clear x0 x3
        refine wp_region_held_drew (S := fun Wz => Kept (fun k => k = g) W.drew Wz) (by kernel_rfl) (Kept.refl _ _) fun hS => ?_
        have HKD := Lib.hid (HKW.out.trans (Kept.refl (fun _ => False) W).drew fun _ _ e => e)
        have HZD := Lib.hid (HZL.out.fresh (Kept.refl (fun _ => False) W).drew)
        have HBD := Lib.hid (show Box W.drew X 44 (cpC (s.l[j].turn D) A2 c2) from HBX.out)
        have HOD := Lib.hid ((Kept.refl (fun _ => False) W).drew.own HO.out fun _ _ => id)
        clear HKW HZL HBX HO
        generalize W.drew = V at HKD HZD HBD HOD hS ⊢
        refine held_takeTo 78 (i := 0) (v := .pointer (some ⟨p, 0, none⟩)) rfl rfl (by kernel_rfl) (by kernel_rfl) (by kernel_rfl) (fun _ _ _ h => h) rfl hS (fun Wz hW => by go_simp) ?_
        simp only [List.setIfInBounds_toArray, List.set_cons_zero, List.set_cons_succ]
        refine held_takeTo 79 (i := 1) (v := .pointer (some ⟨p, 0, none⟩)) rfl rfl (by kernel_rfl) (by kernel_rfl) (by kernel_rfl) (fun _ _ _ h => h) rfl hS (fun Wz hW => by go_simp) ?_
        simp only [List.setIfInBounds_toArray, List.set_cons_zero, List.set_cons_succ]
        refine held_takeTo 80 (i := 2) (v := .pointer (some ⟨p, 0, none⟩)) rfl rfl (by kernel_rfl) (by kernel_rfl) (by kernel_rfl) (fun _ _ _ h => h) rfl hS (fun Wz hW => by go_simp) ?_
        simp only [List.setIfInBounds_toArray, List.set_cons_zero, List.set_cons_succ]
        refine held_takeTo 81 (i := 3) (v := .slice (some ⟨g, 0, none⟩) hs.length lc) rfl rfl (by kernel_rfl) (by kernel_rfl) (by kernel_rfl) (fun _ _ _ h => h) rfl hS (fun Wz hW => by (have hc : Wz.cell? ⟨p, 0, none⟩ = some (.slice (some ⟨g, 0, none⟩) hs.length lc) := ((HZD.out.box.kept hW hpg).cell 0).trans rfl; go_simp)) ?_
        simp only [List.setIfInBounds_toArray, List.set_cons_zero, List.set_cons_succ]
        refine held_takeTo 82 (i := 4) (v := .int .i64 (j : Int)) rfl rfl (by kernel_rfl) (by kernel_rfl) (by kernel_rfl) (fun _ _ _ h => h) rfl hS (fun Wz hW => by go_simp) ?_
        simp only [List.setIfInBounds_toArray, List.set_cons_zero, List.set_cons_succ]
        refine held_takeTo 83 (i := 5) (v := .agg (cpC (s.l[j].turn D) A2 c2)) rfl rfl (by kernel_rfl) (by kernel_rfl) (by kernel_rfl) (fun _ _ _ h => h) rfl hS (fun Wz hW => run_load_cpb _ _ rfl X rfl (HBD.out.kept hW hXg)) ?_
        simp only [List.setIfInBounds_toArray, List.set_cons_zero, List.set_cons_succ]
        refine held_one (i := 6) (by kernel_rfl) rfl fun K hK => ?_
        go_wp2_with (fail)
        refine hK.out _ _ hS fun _ => ?_
        clear hK K
        refine held_one (i := 7) (by kernel_rfl) rfl fun K hK => ?_
        go_wp2_with (fail)
        refine hK.out _ _ hS fun _ => ?_
        clear hK K
        refine held_one (i := 8) (by kernel_rfl) rfl fun K hK => ?_
        refine wpList_store_mid rfl 44 _ _ rfl g (j * 7) (cpC (s.l[j].turn D) A2 c2) rfl rfl (row_there HZD.out.row (by rw [hes_len, cpC_size6]; omega)) size_cp (cpC_one _ _ _) ?_
        obtain ⟨ho1, hk1⟩ := own_setCells (cpC (s.l[j].turn D) A2 c2).toList (j * 7) _ V HZD.out.row
        rw [hes_put hs j hjl _ _ _ (by rw [he_map HZD.out.tie hjl hj]; rfl)] at ho1
        have HR1 := Lib.hid ho1
        have HO1 := Lib.hid (hk1.own HOD.out fun k e e2 => own_kinds HOD.out HZD.out.row (by decide) k e (by rw [e2]; rfl))
        have HK1 := Lib.hid ((HKD.out.more (T := fun k => k = g) fun _ _ e => e.elim).trans hk1 fun _ _ e => e)
        have hS1 := hS.trans hk1 fun _ _ e => e
        clear ho1 hk1
        generalize V.setCells g (j * 7) (cpC (s.l[j].turn D) A2 c2).toList = V2 at HR1 HO1 HK1 hS1 ⊢
        go_wp2_with (fail)
        refine hK.out _ _ hS1 fun _ => ?_
        clear hK K hS
        refine wpAnyH_done (by kernel_rfl) ?_ _
        clear hS1
        go_wp2_with (fail)
        go_ret
        rw [HE.out]
        exact ⟨rfl, HZW.out.bad_ hj hjl HG.out HDB.out.1 HDB.out.2 HK1.out HR1.out HO1.out⟩
end Go.Proofs.Ytopcogogpbcbhaa
