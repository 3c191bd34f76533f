/- FrameSums walked: it is true. Conditions: the bytes lie in memory. -/
import Derived.Test.YtoeipjhdpeibpaaGreatKKnw
import Derived.Test.YtoeipjhdpeibpaaGreatKRSum
import Derived.Test.YtoeipjhdpeibpaaGreatKByt
namespace Go.Proofs.YtoeipjhdpeibpaaGreat
open Go Go.RowKit

theorem BytesAt.pre {w : World} {A : Option Addr} {l m : List Int} (h : BytesAt w A (l ++ m)) : BytesAt w A l := fun k hk => by
  have := h k (by rw [List.length_append]; omega)
  rwa [List.getElem_append_left hk] at this
theorem BytesAt.srcs {w : World} {A : Option Addr} {l : List Int} (h : BytesAt w A l) : ∀ j u, (bys l)[j]? = some u → ∃ ad, A = some ad ∧ w.cell? (ad.add j) = some u := fun j u hj => by
  have hl : j < l.length := by
    have := (List.getElem?_eq_some_iff.1 hj).1
    rwa [bys_len] at this
  obtain ⟨ad, rfl, hc⟩ := h j hl
  refine ⟨ad, rfl, ?_⟩
  rw [hc, ← bys_get l j hl, hj]
theorem BytesAt.nilness {w : World} {A : Option Addr} {l : List Int} {c : Nat} (h : BytesAt w A l) (hc : A = none → c = 0) : A = none → l.length = 0 ∧ c = 0 := by
  rintro rfl
  refine ⟨?_, hc rfl⟩
  rcases Nat.eq_zero_or_pos l.length with h0 | h0
  · exact h0
  · obtain ⟨ad, e, _⟩ := h 0 h0
    cases e
theorem own_emptyB (w : World) : (w.alloc (.cells #[] 5)).ownsRow w.heap.size 5 1 (.slice (some ⟨w.heap.size, 0, none⟩) 0 0) 0 [] := ⟨rfl, .inr ⟨w.heap.size, 0, #[], rfl, Nat.le_refl _, heap_alloc_new w _, Nat.le_refl _, by decide, rfl, rfl⟩⟩
theorem wf_byte {n : Int} (h : (Lit.int .u8 n).wf = true) : 0 ≤ n ∧ n < 256 := by
  have h1 : IntKind.u8.min = 0 := by kernel_rfl
  have h2 : IntKind.u8.max = 255 := by kernel_rfl
  simp only [Lit.wf, Bool.and_eq_true, decide_eq_true_eq, h1, h2] at h
  omega
set_option maxRecDepth 100000 in
set_option maxHeartbeats 16000000 in
theorem Sums_walk (A : Option Addr) (b : List Int) (c : Nat) (i : Int) (by_ : Int) (w : World) (hb : BytesAt w A b) (hby : isByte b) (hbn : A = none → c = 0) (hv : 0 ≤ by_ ∧ by_ < 256) :
    Calls Tryz.prog 3 #[.slice A b.length c, .int .i64 i, .int .u8 by_] w (SamePost w true) := by
  have HB := Lib.hid hb
  have HBY := Lib.hid hby
  have HBN := Lib.hid hbn
  have HVV := Lib.hid hv
  have HK0 := Lib.hid (Kept.refl (fun _ => False) w)
  clear hb hby hbn hv
  by_cases h1 : 60000 < b.length
  · have h1' : (60000 : Int) < (b.length : Int) := by omega
    go_enter Tryz.func3, Tryz.ntmps3
    go_wp2_with (fail)
    refine (Known10_any w).mono ?_
    unfold SamePost
    rintro r kz ⟨rfl, hk⟩
    have HK1 := Lib.hid (HK0.out.trans hk fun _ _ e => e)
    clear hk
    go_wp2_with (fail)
    go_ret
    exact ⟨rfl, HK1.out⟩
  have h1' : ¬ (60000 : Int) < (b.length : Int) := by omega
  have hke : Kept (fun _ => False) w (w.alloc (.cells #[] 5)) := (Kept.refl _ _).alloc _
  have HEM := Lib.hid (own_emptyB w)
  have HBE := Lib.hid (HB.out.fresh hke)
  have HNB := Lib.hid (HBE.out.nilness HBN.out)
  go_enter Tryz.func3, Tryz.ntmps3
  go_wp2_with (at_builtin; refine wpList_append_kit eltByt rfl _ _ rfl w.heap.size _ 0 [] rfl HEM.out A b.length c (bys b) rfl HNB.out (by rw [bys_len]; omega) HBE.out.srcs (bys_one b) (by omega) (by simp) ?_)
  intro A1 c1 w1 HO1 HK1 _
  have hk1 : Kept (fun _ => False) w w1 := hke.trans HK1.out fun k hk e => absurd (show w.heap.size = k by simpa [Value.ownBlock] using e) (by omega)
  have HK1' := Lib.hid hk1
  have HO1' := Lib.hid (show w1.ownsRow w.heap.size 5 1 (.slice A1 b.length c1) b.length (bys b) by simpa using HO1.out)
  have HB1 := Lib.hid (HB.out.fresh hk1)
  clear hke HEM HBE HNB HK0 HK1 hk1 HO1
  have HO1 := HO1'
  clear HO1'
  go_wp2_with (at_builtin; refine Hid.out ?_)
  refine Lib.hid ?_
  refine wpList_append_new eltByt rfl _ _ rfl w.heap.size _ b.length (bys b) rfl HO1.out 1 1 rfl rfl rfl (by omega) HK1'.out.size ?_
  intro A2 c2 w2 HO2 HK2 _
  have hk2 : Kept (fun _ => False) w w2 := HK1'.out.trans HK2.out fun k hk e => by have := (HO1.out.lt k e).1; omega
  have HK2' := Lib.hid hk2
  have hO2 : w2.ownsRow w.heap.size 5 1 (.slice A2 (b.length + 1) c2) (b.length + 1) (bys (b ++ [171])) := by rw [bys_app]; exact HO2.out
  have HB2 := Lib.hid (HB.out.fresh hk2)
  obtain ⟨g, hA2, -, -, -⟩ := own_cells hO2 (by omega)
  subst hA2
  have HO := Lib.hid hO2
  have hc2 : b.length + 1 ≤ c2 := (own_caps hO2).1
  have HT2 := Lib.hid (show BytesAt w2 (some ⟨g, 0, none⟩) b from BytesAt.pre (BytesAt.of_own hO2))
  clear hO2 HO1 HO2 HK1' HK2 hk2 HB1 HB
  have HSM := Lib.hid (Sum_any (some ⟨g, 0, none⟩) b c2 w2 HT2.out HBY.out (by omega))
  have HRS := Lib.hid (fun W (hW : Kept (fun _ => False) w2 W) => RSum_any A b c W (HB2.out.fresh hW) HBY.out (by omega))
  have HBT := Lib.hid (fun W (hW : Kept (fun _ => False) w2 W) => Bytes10_any (some ⟨g, 0, none⟩) A b b c2 c W (HT2.out.fresh hW) (HB2.out.fresh hW) (by omega))
  unfold SumPost at HSM HRS
  rw [decide_eq_true rfl] at HBT
  unfold SamePost at HBT
  obtain ⟨s, hs⟩ : ∃ s, sumC b = s := ⟨_, rfl⟩
  rw [hs] at HSM HRS
  obtain ⟨n, hn⟩ : ∃ n, b.length = n := ⟨_, rfl⟩
  have HN := Lib.hid hn
  rw [hn] at h1 h1' HO hc2 HSM HRS HBT ⊢
  have hcl : (n : Int) ≤ c2 := by omega
  have hcl' : n ≤ c2 := by omega
  clear hn hs HT2 HB2 HBN
  go_wp2_with (fail)
  refine HSM.out.mono ?_
  rintro r w3 ⟨rfl, hk3⟩
  have HK3 := Lib.hid hk3
  clear hk3 HSM
  go_wp2_with (fail)
  refine (HRS.out w3 HK3.out).mono ?_
  rintro r w4 ⟨rfl, hk4⟩
  have HK4 := Lib.hid (HK3.out.trans hk4 fun _ _ e => e)
  clear hk4 HRS HK3
  go_wp2_with (fail)
  refine (HBT.out w4 HK4.out).mono ?_
  rintro r w5 ⟨rfl, hk5⟩
  have HK5 := Lib.hid (HK4.out.trans hk5 fun _ _ e => e)
  have HO5 := Lib.hid (HK5.out.own HO.out fun _ _ => id)
  have HW5 := Lib.hid (HK2'.out.trans HK5.out fun _ _ e => e)
  have x0 : w5.cell? ⟨g, n, none⟩ = some (.int .u8 171) := by
    obtain ⟨g', hg', -, hcell, -⟩ := own_cells HO5.out (by omega)
    obtain rfl : g = g' := by injection hg' with h; injection h
    have hl := HN.out
    exact hcell n _ (by rw [bys_get _ _ (by rw [List.length_append]; simp; omega), List.getElem_append_right (by omega)]; simp [hl])
  have hnn : (n : Int) < (n : Int) + 1 := by omega
  clear hk5 HBT HK4 HK5 HO HK2'
  by_cases hl0 : n = 0
  · have hl0' : (n : Int) = 0 := by omega
    subst hl0
    simp only [Nat.zero_add, Int.natCast_zero] at *
    go_wp2_with (fail)
    refine (Known10_any w5).mono ?_
    unfold SamePost
    rintro r kz ⟨rfl, hk⟩
    have HKF := Lib.hid (HW5.out.trans hk fun _ _ e => e)
    clear hk
    go_wp2_with (fail)
    go_ret
    exact ⟨rfl, HKF.out⟩
  · have hl1 : ¬ (n : Int) = 0 := by omega
    have hr1 := Int.tmod_lt_of_pos i (show (0 : Int) < (n : Int) by omega)
    have hr2 := Int.lt_tmod_of_pos i (show (0 : Int) < (n : Int) by omega)
    obtain ⟨rm, hrm⟩ : ∃ rm, i.tmod (n : Int) = rm := ⟨_, rfl⟩
    rw [hrm] at hr1 hr2
    go_upto_if 52 with (fail)
    clear hrm
    go_cut [1] (fun v wx => (∃ k : Nat, v = .int .i64 k ∧ k < n) ∧ w5 = wx)
    case first =>
      as_aux_lemma =>
      by_cases hneg : rm < 0
      · obtain ⟨j, hj⟩ : ∃ j : Nat, rm + (n : Int) = j := ⟨(rm + n).toNat, by omega⟩
        have hw : IntKind.i64.wrap (rm + (n : Int)) = (j : Int) := by rw [hj]; exact IntWalk.i64_in _ ⟨by omega, by omega⟩
        go_wp2
        go_meet
        case rel => exact ⟨⟨j, rfl, by omega⟩, rfl⟩
      · obtain ⟨j, rfl⟩ : ∃ j : Nat, rm = j := ⟨rm.toNat, by omega⟩
        go_wp2
        go_meet
        case rel => exact ⟨⟨j, rfl, by omega⟩, rfl⟩
    case rest =>
    obtain ⟨⟨j, rfl, hjl⟩, rfl⟩ := hcut
    clear hr1 hr2 x0
    have HST := Lib.hid (World.ownsRow.stored HO5.out j (.int .u8 by_)).1
    obtain ⟨g', hg', -, hcell, hfz⟩ := own_cells HO5.out (by omega)
    obtain rfl : g = g' := by injection hg' with h; injection h
    have hjb : j < b.length := by rw [HN.out]; exact hjl
    have x0 : w5.cell? ⟨g, j, none⟩ = some (.int .u8 b[j]) := hcell j _ (by rw [bys_get _ _ (by rw [List.length_append]; omega), List.getElem_append_left hjb])
    have f0 : w5.frozen? ⟨g, j, none⟩ = false := hfz j
    have hjj : (j : Int) < (n : Int) + 1 := by omega
    have HBS := Lib.hid (show BytesAt (w5.setCell ⟨g, j, none⟩ (.int .u8 by_)) (some ⟨g, 0, none⟩) (b.set j by_) from by
      have h := HST.out
      rw [show (bys (b ++ [171])).set j (.int .u8 by_) = bys (b.set j by_ ++ [171]) by rw [bys_app, bys_app, List.set_append_left _ _ (by rw [bys_len]; exact hjb)]; simp [bys, List.map_set]] at h
      exact BytesAt.pre (BytesAt.of_own h))
    have HKS := Lib.hid (show Kept (fun _ => False) w (w5.setCell ⟨g, j, none⟩ (.int .u8 by_)) from HW5.out.trans ((Kept.refl (fun k => k = g) w5).at j _ (.inl rfl)) fun k hk e => by have := (HO5.out.lt g rfl).1; omega)
    have HBB := Lib.hid (show isByte (b.set j by_) from fun x hx => by
      rcases List.mem_or_eq_of_mem_set hx with h | rfl
      · exact HBY.out x h
      · exact HVV.out)
    have hln : (b.set j by_).length = n := by rw [List.length_set]; exact HN.out
    have HSM := Lib.hid (fun W h => Sum_any (some ⟨g, 0, none⟩) (b.set j by_) c2 W h HBB.out (by omega))
    have HRS := Lib.hid (fun W h => RSum_any (some ⟨g, 0, none⟩) (b.set j by_) c2 W h HBB.out (by omega))
    rw [hln] at HSM HRS
    clear hg' hcell hfz hln HST HO5 HW5
    unfold SumPost at HSM HRS
    obtain ⟨s2, hs2⟩ : ∃ s, sumC (b.set j by_) = s := ⟨_, rfl⟩
    rw [hs2] at HSM HRS
    clear hs2
    go_upto_region 13 with (fail)
    generalize w5.setCell ⟨g, j, none⟩ (.int .u8 by_) = w6 at HBS HKS ⊢
    clear x0 f0
    have HSM2 := Lib.hid (fun W (hW : Kept (fun _ => False) w6 W) => HSM.out W (HBS.out.fresh hW))
    have HRS2 := Lib.hid (fun W (hW : Kept (fun _ => False) w6 W) => HRS.out W (HBS.out.fresh hW))
    have HKN := Lib.hid Known10_any
    unfold SamePost at HKN
    clear HSM HRS HBS
    refine wp_region_class (C := fun w' => Kept (fun _ => False) w6 w') (l := _ :: _ :: _ :: _ :: _ :: _ :: _ :: _ :: _ :: _ :: _ :: _ :: _ :: _ :: _ :: []) (by kernel_rfl) (by kernel_rfl) (Kept.refl _ _).drew ?_
    iterate 15
      first | go_big_quiet_skip | (go_big_quiet_want; first | (go_big_quiet_op; go_big_quiet_on) | (apply Exists.intro; refine ⟨fun w' hS => ?_, ?_⟩; (go_simp; first | rfl | exact ⟨rfl, rfl⟩ | ((with_reducible refine (HSM2.out _ hS).mono ?_); rintro e w2 ⟨rfl, hk⟩; exact ⟨rfl, hS.trans hk fun _ _ e => e⟩) | ((with_reducible refine (HRS2.out _ hS).mono ?_); rintro e w2 ⟨rfl, hk⟩; exact ⟨rfl, hS.trans hk fun _ _ e => e⟩) | ((with_reducible refine (HKN.out _).mono ?_); rintro e w2 ⟨rfl, hk⟩; exact ⟨rfl, hS.trans hk fun _ _ e => e⟩)); (try simp only [Act.put, List.setIfInBounds_toArray, List.set_cons_zero, List.set_cons_succ]); go_big_quiet_on))
    refine wpQuiet_nil ?_
    intro w7 hS
    have HKF := Lib.hid (HKS.out.trans hS fun _ _ e => e)
    clear hS HSM2 HRS2 HKS
    go_wp2_with (fail)
    go_ret
    exact ⟨rfl, HKF.out⟩
end Go.Proofs.YtoeipjhdpeibpaaGreat
