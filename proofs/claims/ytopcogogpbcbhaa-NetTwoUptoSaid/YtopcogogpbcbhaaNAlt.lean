/- The walk of net's Alter. Conditions: the network lies in memory; the numbers are ints; the bytes lie in memory. -/
import Derived.Test.YtopcogogpbcbhaaNCpy
namespace Go.Proofs.Ytopcogogpbcbhaa
open Go Go.RowKit

def altV (s : Nt) (n a : Int) (b : List Int) (x : Ce) : Int × Nt := if alterOk x.c.data a b = true then (if x.c.bad = true then (12, s) else (0, s.put n (alterD x.c.data a.toNat b))) else (1, s)
theorem alt_is {s : Nt} {n a : Int} {b : List Int} {x : Ce} (h : s.get n = some x.c) : s.alter n a b = altV s n a b x := by unfold Nt.alter; rw [h]; rfl
/-- The bytes from a place on are those of b, as far as k. -/
theorem same_upto {d b : List Int} {m k : Nat} (h : ∀ j, j < k → d[m + j]? = b[j]?) (hkb : k = b.length) : (d.drop m).take b.length = b := by
  subst hkb
  refine List.ext_getElem? fun j => ?_
  by_cases hj : j < b.length
  · rw [List.getElem?_take_of_lt hj, List.getElem?_drop]
    exact h j hj
  · rw [List.getElem?_eq_none (by rw [List.length_take]; omega), List.getElem?_eq_none (by omega)]
theorem not_same {d b : List Int} {m k : Nat} (hk : k < b.length) (h : ¬ d[m + k]? = b[k]?) : ¬ (d.drop m).take b.length = b := fun e => by
  apply h
  conv => rhs; rw [← e]
  rw [List.getElem?_take_of_lt hk, List.getElem?_drop]
set_option maxRecDepth 100000 in
set_option maxHeartbeats 6400000 in
theorem Alter1_any (p : Nat) (F : Nat → Prop) (s : Nt) (es : List Ce) (w : World) (h : NetAt w p F s es) (x : Ce) (hx : x ∈ es) (n a : Int) (hn : (x.c.num : Int) = n) (A : Option Addr) (b : List Int) (c : Nat) (hb : BytesAt w A b) (hby : isByte b) (hbl : b.length ≤ 60000) (hai : -9223372036854775808 ≤ a ∧ a ≤ 9223372036854775807) (B C : Nat) (hB : Box w B 30 #[.slice A b.length c]) (hC : Box w C 3 #[.int .i64 a]) :
    Calls Try.prog 44 #[.pointer (some ⟨x.q, 0, none⟩), .pointer (some ⟨B, 0, none⟩), .pointer (some ⟨C, 0, none⟩)] w (fun r w' => ∃ e, r = .returned (.tuple #[.agg #[], .int .i64 e]) ∧ Kept F w w' ∧ ChgR p F (altV s n a b) x e w w') := by
  have hcx : x.c ∈ s.l := by rw [← h.tie]; exact List.mem_map_of_mem hx
  have hlen := (h.ok.len x.c hcx).2
  have HBY := Lib.hid (h.ok.by_ x.c hcx).2
  have HBB := Lib.hid hby
  have hka : Kept (fun _ => False) w (w.alloc (.cells #[] 90)) := (Kept.refl _ _).alloc _
  have HA := Lib.hid hka
  have HNET := Lib.hid (h.fresh hka)
  have HX := Lib.hid ((h.ats x hx).kept hka fun _ _ => id)
  have HR := Lib.hid (Box.new w 90 #[])
  have HB := Lib.hid (hB.kept hka id)
  have HC := Lib.hid (hC.kept hka id)
  have HY := Lib.hid (hb.fresh hka)
  have HFL := Lib.hid h.lt
  have hqw : ¬ x.q = w.heap.size := fun e => by have := (h.ats x hx).q.lt; omega
  have hBq : ¬ B = x.q := Box.ne hB (h.ats x hx).q (by decide)
  have hCq : ¬ C = x.q := Box.ne hC (h.ats x hx).q (by decide)
  clear h hka hB hC hb hby hcx
  have hcase : ((b.length : Int) < 1) ∨ (1 ≤ (b.length : Int) ∧ 4 < (b.length : Int)) ∨ (1 ≤ (b.length : Int) ∧ (b.length : Int) ≤ 4 ∧ a < 0) ∨ (1 ≤ (b.length : Int) ∧ (b.length : Int) ≤ 4 ∧ 0 ≤ a ∧ (x.c.data.length : Int) < b.length) ∨ (1 ≤ (b.length : Int) ∧ (b.length : Int) ≤ 4 ∧ 0 ≤ a ∧ (b.length : Int) ≤ x.c.data.length ∧ (x.c.data.length : Int) - b.length < a) ∨ (1 ≤ (b.length : Int) ∧ (b.length : Int) ≤ 4 ∧ 0 ≤ a ∧ (b.length : Int) ≤ x.c.data.length ∧ a ≤ (x.c.data.length : Int) - b.length) := by omega
  rcases hcase with h1 | ⟨h1, h2⟩ | ⟨h1, h2, h3⟩ | ⟨h1, h2, h3, h4⟩ | ⟨h1, h2, h3, h4, h5⟩ | ⟨h1, h2, h3, h4, h5⟩
  · have HV := Lib.hid (show altV s n a b x = (1, s) from if_neg (by unfold alterOk; rw [decide_eq_false (by omega), Bool.false_and]; exact Bool.false_ne_true))
    have d0 : decide ((b.length : Int) < 1) = true := decide_eq_true (by omega)
    have e0 : (b.length : Int) < 1 := by omega
    go_enter Try.func44, Try.ntmps44
    go_upto_region 1 with (fail)
    generalize w.alloc (.cells #[] 90) = w0 at HA HNET HX HR HB HC HY ⊢
    have b0 : w0.cell? ⟨B, 0, none⟩ = some (.slice A b.length c) := (HB.out.cell 0).trans rfl
    have c0 : w0.cell? ⟨C, 0, none⟩ = some (.int .i64 a) := (HC.out.cell 0).trans rfl
    have x2 : w0.cell? ⟨x.q, 2, none⟩ = some (.slice x.dA x.c.data.length x.dc) := (HX.out.q.cell 2).trans rfl
    have hw : IntKind.i64.wrap ((x.c.data.length : Int) - b.length) = (x.c.data.length : Int) - b.length := IntWalk.i64_in _ ⟨by omega, by omega⟩
    go_step3
    go_wp2_with (fail)
    go_quiet (fail)
    go_wp2_with (fail)
    rw [Exit.noGoto_ret]
    refine bodyPost_ret (results_cell_slot (show Try.f44.results = #[.cell 4 90, .tmp 5] by kernel_rfl) _ _ _ _ w.heap.size rfl (load_NO (HR.out.kept (Kept.drewN_eq (S := fun _ => False) _) id)) rfl) rfl ?_
    exact ⟨1, rfl, (HA.out.more fun _ _ e => e.elim).trans (Kept.drewN_eq (S := fun _ => False) _) fun _ _ e => e.elim, by rw [HV.out], F, es, by rw [HV.out]; exact HNET.out.fresh (Kept.drewN_eq _), fun _ e => .inl e⟩
  · have HV := Lib.hid (show altV s n a b x = (1, s) from if_neg (by unfold alterOk; rw [decide_eq_false (by omega), Bool.false_and]; exact Bool.false_ne_true))
    have d0 : decide ((b.length : Int) < 1) = false := decide_eq_false (by omega)
    have e0 : ¬ (b.length : Int) < 1 := by omega
    have d1 : decide ((4 : Int) < b.length) = true := decide_eq_true (by omega)
    have e1 : (4 : Int) < b.length := by omega
    go_enter Try.func44, Try.ntmps44
    go_upto_region 1 with (fail)
    generalize w.alloc (.cells #[] 90) = w0 at HA HNET HX HR HB HC HY ⊢
    have b0 : w0.cell? ⟨B, 0, none⟩ = some (.slice A b.length c) := (HB.out.cell 0).trans rfl
    have c0 : w0.cell? ⟨C, 0, none⟩ = some (.int .i64 a) := (HC.out.cell 0).trans rfl
    have x2 : w0.cell? ⟨x.q, 2, none⟩ = some (.slice x.dA x.c.data.length x.dc) := (HX.out.q.cell 2).trans rfl
    have hw : IntKind.i64.wrap ((x.c.data.length : Int) - b.length) = (x.c.data.length : Int) - b.length := IntWalk.i64_in _ ⟨by omega, by omega⟩
    go_step3
    go_wp2_with (fail)
    go_quiet (fail)
    go_wp2_with (fail)
    rw [Exit.noGoto_ret]
    refine bodyPost_ret (results_cell_slot (show Try.f44.results = #[.cell 4 90, .tmp 5] by kernel_rfl) _ _ _ _ w.heap.size rfl (load_NO (HR.out.kept (Kept.drewN_eq (S := fun _ => False) _) id)) rfl) rfl ?_
    exact ⟨1, rfl, (HA.out.more fun _ _ e => e.elim).trans (Kept.drewN_eq (S := fun _ => False) _) fun _ _ e => e.elim, by rw [HV.out], F, es, by rw [HV.out]; exact HNET.out.fresh (Kept.drewN_eq _), fun _ e => .inl e⟩
  · have HV := Lib.hid (show altV s n a b x = (1, s) from if_neg (by unfold alterOk; rw [decide_eq_false (by omega), Bool.false_and]; exact Bool.false_ne_true))
    have d0 : decide ((b.length : Int) < 1) = false := decide_eq_false (by omega)
    have e0 : ¬ (b.length : Int) < 1 := by omega
    have d1 : decide ((4 : Int) < b.length) = false := decide_eq_false (by omega)
    have e1 : ¬ (4 : Int) < b.length := by omega
    have d2 : decide (a < 0) = true := decide_eq_true (by omega)
    have e2 : a < 0 := by omega
    go_enter Try.func44, Try.ntmps44
    go_upto_region 1 with (fail)
    generalize w.alloc (.cells #[] 90) = w0 at HA HNET HX HR HB HC HY ⊢
    have b0 : w0.cell? ⟨B, 0, none⟩ = some (.slice A b.length c) := (HB.out.cell 0).trans rfl
    have c0 : w0.cell? ⟨C, 0, none⟩ = some (.int .i64 a) := (HC.out.cell 0).trans rfl
    have x2 : w0.cell? ⟨x.q, 2, none⟩ = some (.slice x.dA x.c.data.length x.dc) := (HX.out.q.cell 2).trans rfl
    have hw : IntKind.i64.wrap ((x.c.data.length : Int) - b.length) = (x.c.data.length : Int) - b.length := IntWalk.i64_in _ ⟨by omega, by omega⟩
    go_step3
    go_wp2_with (fail)
    go_quiet (fail)
    go_wp2_with (fail)
    rw [Exit.noGoto_ret]
    refine bodyPost_ret (results_cell_slot (show Try.f44.results = #[.cell 4 90, .tmp 5] by kernel_rfl) _ _ _ _ w.heap.size rfl (load_NO (HR.out.kept (Kept.drewN_eq (S := fun _ => False) _) id)) rfl) rfl ?_
    exact ⟨1, rfl, (HA.out.more fun _ _ e => e.elim).trans (Kept.drewN_eq (S := fun _ => False) _) fun _ _ e => e.elim, by rw [HV.out], F, es, by rw [HV.out]; exact HNET.out.fresh (Kept.drewN_eq _), fun _ e => .inl e⟩
  · have HV := Lib.hid (show altV s n a b x = (1, s) from if_neg (by unfold alterOk; rw [decide_eq_false (by omega), Bool.false_and]; exact Bool.false_ne_true))
    have d0 : decide ((b.length : Int) < 1) = false := decide_eq_false (by omega)
    have e0 : ¬ (b.length : Int) < 1 := by omega
    have d1 : decide ((4 : Int) < b.length) = false := decide_eq_false (by omega)
    have e1 : ¬ (4 : Int) < b.length := by omega
    have d2 : decide (a < 0) = false := decide_eq_false (by omega)
    have e2 : ¬ a < 0 := by omega
    have d3 : decide (x.c.data.length < b.length) = true := decide_eq_true (by omega)
    have e3 : x.c.data.length < b.length := by omega
    go_enter Try.func44, Try.ntmps44
    go_upto_region 1 with (fail)
    generalize w.alloc (.cells #[] 90) = w0 at HA HNET HX HR HB HC HY ⊢
    have b0 : w0.cell? ⟨B, 0, none⟩ = some (.slice A b.length c) := (HB.out.cell 0).trans rfl
    have c0 : w0.cell? ⟨C, 0, none⟩ = some (.int .i64 a) := (HC.out.cell 0).trans rfl
    have x2 : w0.cell? ⟨x.q, 2, none⟩ = some (.slice x.dA x.c.data.length x.dc) := (HX.out.q.cell 2).trans rfl
    have hw : IntKind.i64.wrap ((x.c.data.length : Int) - b.length) = (x.c.data.length : Int) - b.length := IntWalk.i64_in _ ⟨by omega, by omega⟩
    go_step3
    go_wp2_with (fail)
    go_quiet (fail)
    go_wp2_with (fail)
    rw [Exit.noGoto_ret]
    refine bodyPost_ret (results_cell_slot (show Try.f44.results = #[.cell 4 90, .tmp 5] by kernel_rfl) _ _ _ _ w.heap.size rfl (load_NO (HR.out.kept (Kept.drewN_eq (S := fun _ => False) _) id)) rfl) rfl ?_
    exact ⟨1, rfl, (HA.out.more fun _ _ e => e.elim).trans (Kept.drewN_eq (S := fun _ => False) _) fun _ _ e => e.elim, by rw [HV.out], F, es, by rw [HV.out]; exact HNET.out.fresh (Kept.drewN_eq _), fun _ e => .inl e⟩
  · have HV := Lib.hid (show altV s n a b x = (1, s) from if_neg (by unfold alterOk; rw [decide_eq_false (by omega), Bool.false_and]; exact Bool.false_ne_true))
    have d0 : decide ((b.length : Int) < 1) = false := decide_eq_false (by omega)
    have e0 : ¬ (b.length : Int) < 1 := by omega
    have d1 : decide ((4 : Int) < b.length) = false := decide_eq_false (by omega)
    have e1 : ¬ (4 : Int) < b.length := by omega
    have d2 : decide (a < 0) = false := decide_eq_false (by omega)
    have e2 : ¬ a < 0 := by omega
    have d3 : decide (x.c.data.length < b.length) = false := decide_eq_false (by omega)
    have e3 : ¬ x.c.data.length < b.length := by omega
    have d4 : decide ((x.c.data.length : Int) - b.length < a) = true := decide_eq_true (by omega)
    have e4 : (x.c.data.length : Int) - b.length < a := by omega
    go_enter Try.func44, Try.ntmps44
    go_upto_region 1 with (fail)
    generalize w.alloc (.cells #[] 90) = w0 at HA HNET HX HR HB HC HY ⊢
    have b0 : w0.cell? ⟨B, 0, none⟩ = some (.slice A b.length c) := (HB.out.cell 0).trans rfl
    have c0 : w0.cell? ⟨C, 0, none⟩ = some (.int .i64 a) := (HC.out.cell 0).trans rfl
    have x2 : w0.cell? ⟨x.q, 2, none⟩ = some (.slice x.dA x.c.data.length x.dc) := (HX.out.q.cell 2).trans rfl
    have hw : IntKind.i64.wrap ((x.c.data.length : Int) - b.length) = (x.c.data.length : Int) - b.length := IntWalk.i64_in _ ⟨by omega, by omega⟩
    go_step3
    go_wp2_with (fail)
    go_quiet (fail)
    go_wp2_with (fail)
    rw [Exit.noGoto_ret]
    refine bodyPost_ret (results_cell_slot (show Try.f44.results = #[.cell 4 90, .tmp 5] by kernel_rfl) _ _ _ _ w.heap.size rfl (load_NO (HR.out.kept (Kept.drewN_eq (S := fun _ => False) _) id)) rfl) rfl ?_
    exact ⟨1, rfl, (HA.out.more fun _ _ e => e.elim).trans (Kept.drewN_eq (S := fun _ => False) _) fun _ _ e => e.elim, by rw [HV.out], F, es, by rw [HV.out]; exact HNET.out.fresh (Kept.drewN_eq _), fun _ e => .inl e⟩
  · have hm0 : True := trivial
    have d0 : decide ((b.length : Int) < 1) = false := decide_eq_false (by omega)
    have e0 : ¬ (b.length : Int) < 1 := by omega
    have d1 : decide ((4 : Int) < b.length) = false := decide_eq_false (by omega)
    have e1 : ¬ (4 : Int) < b.length := by omega
    have d2 : decide (a < 0) = false := decide_eq_false (by omega)
    have e2 : ¬ a < 0 := by omega
    have d3 : decide (x.c.data.length < b.length) = false := decide_eq_false (by omega)
    have e3 : ¬ x.c.data.length < b.length := by omega
    have d4 : decide ((x.c.data.length : Int) - b.length < a) = false := decide_eq_false (by omega)
    have e4 : ¬ (x.c.data.length : Int) - b.length < a := by omega
    go_enter Try.func44, Try.ntmps44
    go_upto_region 1 with (fail)
    generalize w.alloc (.cells #[] 90) = w0 at HA HNET HX HR HB HC HY ⊢
    have b0 : w0.cell? ⟨B, 0, none⟩ = some (.slice A b.length c) := (HB.out.cell 0).trans rfl
    have c0 : w0.cell? ⟨C, 0, none⟩ = some (.int .i64 a) := (HC.out.cell 0).trans rfl
    have x2 : w0.cell? ⟨x.q, 2, none⟩ = some (.slice x.dA x.c.data.length x.dc) := (HX.out.q.cell 2).trans rfl
    have hw : IntKind.i64.wrap ((x.c.data.length : Int) - b.length) = (x.c.data.length : Int) - b.length := IntWalk.i64_in _ ⟨by omega, by omega⟩
    go_step3
    go_wp2_with (fail)
    go_quiet (fail)
    go_upto_region 3 with (fail)
    clear b0 c0 x2
    generalize hw1 : World.drewN w0 _ = w1
    have hkq : Kept (fun _ => False) w0 w1 := hw1 ▸ Kept.drewN_eq _
    have HN1 := Lib.hid (HNET.out.fresh hkq)
    have HX1 := Lib.hid (HX.out.kept hkq fun _ _ => id)
    have HR1 := Lib.hid (HR.out.kept hkq id)
    have HB1 := Lib.hid (HB.out.kept hkq id)
    have HC1 := Lib.hid (HC.out.kept hkq id)
    have HY1 := Lib.hid (HY.out.fresh hkq)
    have HA1 := Lib.hid (HA.out.trans hkq fun _ _ e => e)
    clear hw1 hkq HA HNET HX HR HB HC HY hw
    obtain ⟨m, rfl⟩ : ∃ m : Nat, a = m := ⟨a.toNat, by omega⟩
    have hml : m + b.length ≤ x.c.data.length := by omega
    have hbp : 0 < b.length := by omega
    have hb4 : b.length ≤ 4 := by omega
    obtain ⟨ad, hA, -⟩ := HY1.out 0 hbp
    subst hA
    have b0 : w1.cell? ⟨B, 0, none⟩ = some (.slice (some ad) b.length c) := (HB1.out.cell 0).trans rfl
    clear d0 d1 d2 d3 d4 e0 e1 e2 e3 e4 h1 h2 h3 h4 h5 hm0
    go_wp2_with (fail)
    go_step3
    go_wp2_with (fail)
    go_loopw [6, 47] (fun v6 i wr => v6 = .bool false ∧ ∃ k : Nat, i = .int .i64 k ∧ k ≤ b.length ∧ (∀ j, j < k → x.c.data[m + j]? = b[j]?) ∧ Kept (fun _ => False) w1 wr) (fun _ i _ => b.length - (intOf i).toNat)
    case atStart => exact ⟨rfl, 0, rfl, Nat.zero_le _, fun j hj => absurd hj (Nat.not_lt_zero _), Kept.refl _ _⟩
    case round =>
      obtain ⟨rfl, k, rfl, hk, hsm, hkp⟩ := hrel
      have HSM := Lib.hid hsm
      have HKP := Lib.hid hkp
      clear hsm hkp b0
      by_cases hlt : k < b.length
      · have hlt' : (k : Int) < (b.length : Int) := by omega
        have hmk : m + k < x.c.data.length := by omega
        obtain ⟨gd, hgd, -, -, -⟩ := own_cells HX1.out.d (by omega)
        have HGD := Lib.hid hgd
        have HCF := Lib.hid (fun (Wz : World) (hz : Kept (fun _ => False) w1 Wz) => show Wz.cell? ⟨gd, m + k, none⟩ = some (.int .u8 x.c.data[m + k]) from by
          obtain ⟨g', hg', -, hc, -⟩ := own_cells (hz.own HX1.out.d fun _ _ => id) (by omega)
          rw [HGD.out] at hg'
          injection hg' with e
          injection e with e
          subst e
          exact hc _ _ (bys_get _ _ hmk))
        have y1 : wr.cell? (ad.add k) = some (.int .u8 b[k]) := by
          obtain ⟨ad', e, hc⟩ := HY1.out.fresh HKP.out k hlt
          injection e with e
          subst e
          exact hc
        clear hgd
        go_upto_region 7 with (fail)
        clear y1
        have HKD := Lib.hid (show Kept (fun _ => False) w1 wr.drew from HKP.out.drew)
        refine wp_region_held_drew (S := fun Wz => Kept (fun _ => False) wr.drew Wz) (by kernel_rfl) (Kept.refl _ _) fun hS => ?_
        generalize wr.drew = W at HKD hS ⊢
        obtain ⟨dv, hdv⟩ : ∃ dv, x.c.data[m + k] = dv := ⟨_, rfl⟩
        obtain ⟨bv, hbv⟩ : ∃ bv, b[k] = bv := ⟨_, rfl⟩
        have HDV := Lib.hid hdv
        have HBV := Lib.hid hbv
        rw [hbv]
        rw [hdv] at HCF
        clear hdv hbv
        refine held_takeTo 52 (i := 0) (v := .pointer (some ⟨x.q, 0, none⟩)) rfl rfl (by kernel_rfl) (by kernel_rfl) (by kernel_rfl) (fun _ _ _ h => h) rfl hS (fun Wz hW => by go_simp) ?_
        simp only [List.setIfInBounds_toArray, List.set_cons_zero, List.set_cons_succ]
        refine held_takeTo 53 (i := 1) (v := .pointer (some ⟨x.q, 0, none⟩)) rfl rfl (by kernel_rfl) (by kernel_rfl) (by kernel_rfl) (fun _ _ _ h => h) rfl hS (fun Wz hW => by go_simp) ?_
        simp only [List.setIfInBounds_toArray, List.set_cons_zero, List.set_cons_succ]
        refine held_takeTo 54 (i := 2) (v := .pointer (some ⟨x.q, 2, none⟩)) rfl rfl (by kernel_rfl) (by kernel_rfl) (by kernel_rfl) (fun _ _ _ h => h) rfl hS (fun Wz hW => by go_simp) ?_
        simp only [List.setIfInBounds_toArray, List.set_cons_zero, List.set_cons_succ]
        refine held_takeTo 55 (i := 3) (v := .slice (some ⟨gd, 0, none⟩) x.c.data.length x.dc) rfl rfl (by kernel_rfl) (by kernel_rfl) (by kernel_rfl) (fun _ _ _ h => h) rfl hS (fun Wz hW => by (have hc : Wz.cell? ⟨x.q, 2, none⟩ = some (.slice (some ⟨gd, 0, none⟩) x.c.data.length x.dc) := (((HX1.out.kept (HKD.out.trans hW fun _ _ e => e) fun _ _ => id).q.cell 2).trans (by rw [← HGD.out]; rfl)); go_simp)) ?_
        simp only [List.setIfInBounds_toArray, List.set_cons_zero, List.set_cons_succ]
        refine held_takeTo 56 (i := 4) (v := .int .i64 (m : Int)) rfl rfl (by kernel_rfl) (by kernel_rfl) (by kernel_rfl) (fun _ _ _ h => h) rfl hS (fun Wz hW => by (have hc : Wz.cell? ⟨C, 0, none⟩ = some (.int .i64 (m : Int)) := ((HC1.out.kept (HKD.out.trans hW fun _ _ e => e) id).cell 0).trans rfl; go_simp)) ?_
        simp only [List.setIfInBounds_toArray, List.set_cons_zero, List.set_cons_succ]
        refine held_takeTo 57 (i := 5) (v := .int .i64 (k : Int)) rfl rfl (by kernel_rfl) (by kernel_rfl) (by kernel_rfl) (fun _ _ _ h => h) rfl hS (fun Wz hW => by go_simp) ?_
        simp only [List.setIfInBounds_toArray, List.set_cons_zero, List.set_cons_succ]
        refine held_takeTo 58 (i := 6) (v := .int .i64 ((m : Int) + k)) rfl rfl (by kernel_rfl) (by kernel_rfl) (by kernel_rfl) (fun _ _ _ h => h) rfl hS (fun Wz hW => by (have hwk : IntKind.i64.wrap ((m : Int) + k) = (m : Int) + k := IntWalk.i64_in _ ⟨by omega, by omega⟩; go_simp)) ?_
        simp only [List.setIfInBounds_toArray, List.set_cons_zero, List.set_cons_succ]
        refine held_takeTo 59 (i := 7) (v := .pointer (some ⟨gd, m + k, none⟩)) rfl rfl (by kernel_rfl) (by kernel_rfl) (by kernel_rfl) (fun _ _ _ h => h) rfl hS (fun Wz hW => by (have i1 : (0 : Int) ≤ (m : Int) + k := (by omega); have i2 : (m : Int) + k < (x.c.data.length : Int) := (by omega); have i3 : ((m : Int) + k).toNat = m + k := (by omega); go_simp)) ?_
        simp only [List.setIfInBounds_toArray, List.set_cons_zero, List.set_cons_succ]
        refine held_takeTo 60 (i := 8) (v := .int .u8 dv) rfl rfl (by kernel_rfl) (by kernel_rfl) (by kernel_rfl) (fun _ _ _ h => h) rfl hS (fun Wz hW => by (have hc := HCF.out Wz (HKD.out.trans hW fun _ _ e => e); go_simp)) ?_
        simp only [List.setIfInBounds_toArray, List.set_cons_zero, List.set_cons_succ]
        refine held_takeTo 61 (i := 9) (v := .int .u8 bv) rfl rfl (by kernel_rfl) (by kernel_rfl) (by kernel_rfl) (fun _ _ _ h => h) rfl hS (fun Wz hW => by go_simp) ?_
        simp only [List.setIfInBounds_toArray, List.set_cons_zero, List.set_cons_succ]
        refine held_takeTo 62 (i := 10) (v := .bool (dv != bv)) rfl rfl (by kernel_rfl) (by kernel_rfl) (by kernel_rfl) (fun _ _ _ h => h) rfl hS (fun Wz hW => by go_simp) ?_
        simp only [List.setIfInBounds_toArray, List.set_cons_zero, List.set_cons_succ]
        refine wpAnyH_done (by kernel_rfl) ?_ _
        by_cases hne : dv = bv
        · have hb1 : (dv != bv) = false := by rw [hne]; exact bne_self_eq_false _
          have HNE := Lib.hid hne
          clear hne
          go_wp2_with (fail)
          go_roundw
          case rel => exact ⟨rfl, k + 1, by go_num, by omega, fun j hj => by
            by_cases e : j = k
            · subst e
              rw [List.getElem?_eq_getElem hmk, List.getElem?_eq_getElem hlt, HDV.out, HBV.out, HNE.out]
            · exact HSM.out j (by omega), HKD.out.trans hS fun _ _ e => e⟩
          case measure => simp [intOf]; omega
        · have hb1 : (dv != bv) = true := bne_iff_ne.2 hne
          have HOK := Lib.hid (show alterOk x.c.data m b = true by
            unfold alterOk
            rw [decide_eq_true (show 1 ≤ b.length ∧ b.length ≤ 4 ∧ (0 : Int) ≤ m ∧ (m : Int) + b.length ≤ x.c.data.length by omega), Bool.true_and, Int.toNat_natCast, decide_eq_false (not_same hlt fun e => by
              rw [List.getElem?_eq_getElem hmk, List.getElem?_eq_getElem hlt, HDV.out, HBV.out] at e
              injection e with e
              exact hne e)]
            rfl)
          clear hne
          have HX2 := Lib.hid (HX1.out.kept HKD.out fun _ _ => id)
          have x2 : W.cell? ⟨x.q, 2, none⟩ = some (.slice x.dA x.c.data.length x.dc) := (HX2.out.q.cell 2).trans rfl
          go_wp2_with (fail)
          refine (Clone_any x.dA x.c.data x.dc W (BytesAt.of_own HX2.out.d) (own_noneNil HX2.out.d) (by omega)).mono ?_
          rintro r w3 ⟨A3, cap, rfl, ho, hk3⟩
          obtain ⟨gc, hgc, -, -, -⟩ := own_cells ho (by omega)
          subst hgc
          have HO3 := Lib.hid ho
          have hcap := (own_caps ho).1
          have HW3 := Lib.hid hk3
          have hkd : Kept (fun _ => False) W w3.drew := hk3.drew
          have HOD := Lib.hid ((Kept.refl (fun _ => False) w3).drew.own ho fun _ _ => id)
          have HBD := Lib.hid ((HB1.out.kept HKD.out id).kept hkd id)
          have HCD := Lib.hid ((HC1.out.kept HKD.out id).kept hkd id)
          have HYD := Lib.hid ((HY1.out.fresh HKD.out).fresh hkd)
          have HWD := Lib.hid hkd
          have hgW : W.heap.size ≤ gc := (ho.lt gc rfl).1
          have hBg : ¬ B = gc := fun e => by subst e; exact own_box_ne HOD.out HBD.out (by decide) rfl
          have hCg : ¬ C = gc := fun e => by subst e; exact own_box_ne HOD.out HCD.out (by decide) rfl
          clear ho hk3 hkd x2
          go_upto_region 13 with (fail)
          refine wp_region_held_drew (S := fun Wz => Kept (fun k => k = gc) w3.drew Wz) (by kernel_rfl) (Kept.refl _ _) fun hS3 => ?_
          clear hS
          generalize w3.drew = w4 at HOD HBD HCD HYD HWD hS3 ⊢
          refine held_takeTo 72 (i := 0) (v := .slice (some ⟨gc, 0, none⟩) x.c.data.length cap) rfl rfl (by kernel_rfl) (by kernel_rfl) (by kernel_rfl) (fun _ _ _ h => h) rfl hS3 (fun Wz hW => by go_simp) ?_
          simp only [List.setIfInBounds_toArray, List.set_cons_zero, List.set_cons_succ]
          refine held_takeTo 73 (i := 1) (v := .int .i64 (m : Int)) rfl rfl (by kernel_rfl) (by kernel_rfl) (by kernel_rfl) (fun _ _ _ h => h) rfl hS3 (fun Wz hW => by (have hc : Wz.cell? ⟨C, 0, none⟩ = some (.int .i64 (m : Int)) := ((HCD.out.kept hW hCg).cell 0).trans rfl; go_simp)) ?_
          simp only [List.setIfInBounds_toArray, List.set_cons_zero, List.set_cons_succ]
          refine held_takeTo 74 (i := 2) (v := .slice (some ⟨gc, m, none⟩) (x.c.data.length - m) (cap - m)) rfl rfl (by kernel_rfl) (by kernel_rfl) (by kernel_rfl) (fun _ _ _ h => h) rfl hS3 (fun Wz hW => by (have i1 : m ≤ x.c.data.length := (by omega); have i2 : m ≤ cap := (by omega); have i3 : ¬ cap = m := (by omega); go_simp)) ?_
          simp only [List.setIfInBounds_toArray, List.set_cons_zero, List.set_cons_succ]
          refine held_takeTo 75 (i := 3) (v := .slice (some ad) b.length c) rfl rfl (by kernel_rfl) (by kernel_rfl) (by kernel_rfl) (fun _ _ _ h => h) rfl hS3 (fun Wz hW => by (have hc : Wz.cell? ⟨B, 0, none⟩ = some (.slice (some ad) b.length c) := ((HBD.out.kept hW hBg).cell 0).trans rfl; go_simp)) ?_
          simp only [List.setIfInBounds_toArray, List.set_cons_zero, List.set_cons_succ]
          refine held_one (i := 4) (by kernel_rfl) rfl fun K hK => ?_
          refine wpList_copy_bytes rfl _ _ rfl (off := m) x.c.data HOD.out (x.c.data.length - m) (cap - m) rfl rfl ad b c rfl HYD.out hml ?_
          intro w5 HO5 HK5
          go_wp2_with (fail)
          refine hK.out _ _ (hS3.trans HK5.out fun _ _ e => e) fun _ => ?_
          clear hK K
          refine wpAnyH_done (by kernel_rfl) ?_ _
          go_wp2_with (fail)
          have HQ5 := Lib.hid ((HX2.out.kept (HWD.out) fun _ _ => id).q.kept HK5.out (fun e => by have := (HX2.out.q.lt); omega))
          refine (Spoilt_any x w5 HQ5.out (some ⟨gc, 0, none⟩) x.c.data.length cap).mono ?_
          rintro r w6 hsp
          have hfin : ∃ e, r = .returned (.tuple #[.agg #[], .int .i64 e]) ∧ Kept (fun k => k = x.q) w5 w6 ∧ e = (altV s n m b x).1 ∧ NetPost W p F (altV s n m b x).2 w6 := by
            have hkW5 : Kept (fun _ => False) W w5 := HWD.out.trans HK5.out fun k hk e => by omega
            have hNW := HN1.out.fresh HKD.out
            rcases hsp with ⟨hb, hr, hk⟩ | ⟨hb, hr, hq, hk⟩
            · rw [show altV s n m b x = (12, s) from by unfold altV; rw [if_pos HOK.out, if_pos hb]]
              exact ⟨12, hr, hk.more fun _ _ e => e.elim, rfl, F, es, (hNW.fresh hkW5).fresh hk, fun _ e => .inl e, (hkW5.trans hk fun _ _ e => e).more fun _ _ e => e.elim⟩
            · rw [show altV s n m b x = (0, s.put n (alterD x.c.data m b)) from by unfold altV; rw [if_pos HOK.out, if_neg (by rw [hb]; decide)]; rfl]
              have hl := alterD_len (l := x.c.data) (b := b) (off := m) hml
              refine ⟨0, hr, hk, rfl, hNW.turned hx hn (alterD_byte HBY.out HBB.out) (by omega) (cap := cap) (A := some ⟨gc, 0, none⟩) (by rw [hl]; exact hq) ?_ ?_ ((hkW5.more fun _ _ e => e.elim).trans hk fun k _ e => e)⟩
              · rw [hl]
                exact hk.own (own_base HO5.out (Nat.zero_le _)) fun k e e2 => by subst e2; exact own_box_ne HO5.out HQ5.out (by decide) e
              · rw [hl]
                exact fun k e => (HO5.out.lt k e).1
          obtain ⟨e, rfl, hk6, he, hp6⟩ := hfin
          have HE := Lib.hid he
          have HP6 := Lib.hid hp6
          have HR6 := Lib.hid (((HR1.out.kept (HKD.out.trans HWD.out fun _ _ e => e) id).kept HK5.out (fun e => by have := HR1.out.lt; have := HKD.out.size; omega)).kept hk6 (Ne.symm hqw))
          clear hsp hk6 he hp6
          go_wp2_with (fail)
          rw [Exit.noGoto_ret]
          refine bodyPost_ret (results_cell_slot (show Try.f44.results = #[.cell 4 90, .tmp 5] by kernel_rfl) _ _ _ _ w.heap.size rfl (load_NO HR6.out) rfl) rfl ?_
          obtain ⟨F', es', h7, h8, h9⟩ := HP6.out
          have hAW : Kept (fun _ => False) w W := HA1.out.trans HKD.out fun _ _ e => e
          exact ⟨e, rfl, (hAW.more fun _ _ e => e.elim).trans h9 fun k _ e => e, HE.out, F', es', h7, fun k e => (h8 k e).imp id fun e => Nat.le_trans hAW.size e⟩
      · obtain rfl : k = b.length := by omega
        have HV := Lib.hid (show altV s n m b x = (1, s) from if_neg (by unfold alterOk; rw [Int.toNat_natCast, decide_eq_true (same_upto HSM.out rfl), Bool.not_true, Bool.and_false]; exact Bool.false_ne_true))
        have hlt' : ¬ ((b.length : Int) < (b.length : Int)) := by omega
        clear HSM
        go_wp2_with (fail)
        refine bodyPost_ret (results_cell_slot (show Try.f44.results = #[.cell 4 90, .tmp 5] by kernel_rfl) _ _ _ _ w.heap.size rfl (load_NO (HR1.out.kept HKP.out id)) rfl) rfl ?_
        exact ⟨1, rfl, (HA1.out.trans HKP.out fun _ _ e => e).more fun _ _ e => e.elim, by rw [HV.out], F, es, by rw [HV.out]; exact HN1.out.fresh HKP.out, fun _ e => .inl e⟩
set_option maxRecDepth 100000 in
set_option maxHeartbeats 3200000 in
theorem Alter_any (p : Nat) (F : Nat → Prop) (s : Nt) (es : List Ce) (w : World) (h : NetAt w p F s es) (n a : Int) (hn : (Lit.int .i64 n).wf = true) (hai : -9223372036854775808 ≤ a ∧ a ≤ 9223372036854775807) (A : Option Addr) (b : List Int) (c : Nat) (hb : BytesAt w A b) (hby : isByte b) (hbl : b.length ≤ 60000) :
    Calls Try.prog 23 #[.pointer (some ⟨p, 0, none⟩), .int .i64 n, .int .i64 a, .slice A b.length c] w (OnePost w p F (s.alter n a b)) := by
  have hmf : ∀ (fn : Fn) (first cap : Array Value) (w : World), (Instr.makeFunc fn first cap).run Try.prog w = .ok (.func fn first cap) w := fun _ _ _ _ => rfl
  have hka : Kept (fun _ => False) w ((w.alloc (.cells #[.int .i64 a] 3)).alloc (.cells #[.slice A b.length c] 30)) := ((Kept.refl _ _).alloc _).alloc _
  have HA := Lib.hid hka
  have HNET := Lib.hid (h.fresh hka)
  have HFL := Lib.hid h.lt
  have HC := Lib.hid ((Box.new w 3 #[.int .i64 a]).alloc (.cells #[.slice A b.length c] 30))
  have HB := Lib.hid ((Box.new (w.alloc (.cells #[.int .i64 a] 3)) 30 #[.slice A b.length c]).at_eq (show _ = w.heap.size + 1 by simp))
  have HY := Lib.hid (hb.fresh hka)
  have HBY := Lib.hid hby
  clear h hka hb hby
  go_enter Try.func23, Try.ntmps23
  go_upto_region 1 with (fail)
  generalize (w.alloc (.cells #[.int .i64 a] 3)).alloc (.cells #[.slice A b.length c] 30) = w0 at HA HNET HB HC HY ⊢
  have HF := Lib.hid (FoundN_any p F s es w0 HNET.out n hn 44 #[.pointer (some ⟨w.heap.size + 1, 0, none⟩), .pointer (some ⟨w.heap.size, 0, none⟩)] (fun x e W W' => ChgR p F (altV s n a b) x e W W') (enters_of Try.func44 (by kernel_rfl) rfl)
    fun x hx hg W hk => Alter1_any p F s es W (HNET.out.fresh hk) x hx n a (Nt.get_mem hg).2 A b c (HY.out.fresh hk) HBY.out hbl hai (w.heap.size + 1) w.heap.size (HB.out.kept hk id) (HC.out.kept hk id))
  go_wp2_with (fail)
  refine HF.out.mono ?_
  rintro r w1 (⟨hg, rfl, hk1⟩ | ⟨x, hx, hg, e, rfl, W, W', hk1, hlt, hkF, ⟨he, F', es', h7, h8⟩, hk2⟩)
  · have HD := Lib.hid (show s.alter n a b = (11, s) by unfold Nt.alter; rw [hg])
    have HK1 := Lib.hid (HA.out.trans hk1 fun _ _ e => e)
    have HN1 := Lib.hid (HNET.out.fresh hk1)
    clear hg hk1
    go_wp2_with (fail)
    go_ret
    rw [HD.out]
    exact ⟨rfl, F, es, HN1.out.fresh ((Kept.refl _ _).alloc _), fun _ e => .inl e, (HK1.out.alloc _).more fun _ _ e => e.elim⟩
  · have HD := Lib.hid (alt_is (a := a) (b := b) hg)
    have HE := Lib.hid he
    have HK1 := Lib.hid (show Kept F w w1 from (((HA.out.more fun _ _ e => e.elim).trans (hk1.more fun _ _ e => e.elim) fun k _ e => e).trans hkF fun k _ e => e).trans hk2 fun k hk e => by have := HA.out.size; omega)
    have HN1 := Lib.hid (h7.kept hk2 fun k e e2 => (h8 k e).elim (fun e3 => by have := HFL.out k e3; have := HA.out.size; omega) fun e3 => by omega)
    have H8 := Lib.hid (fun k e => (h8 k e).imp id fun e3 => Nat.le_trans (Nat.le_trans HA.out.size hk1.size) e3)
    clear hg he hk1 hlt hkF h7 h8 hk2
    go_wp2_with (fail)
    go_ret
    rw [HD.out]
    exact ⟨by rw [HE.out]; rfl, F', es', HN1.out.fresh ((Kept.refl _ _).alloc _), H8.out, HK1.out.alloc _⟩
end Go.Proofs.Ytopcogogpbcbhaa
