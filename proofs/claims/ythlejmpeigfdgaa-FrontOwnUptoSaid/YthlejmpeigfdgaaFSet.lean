/- The walk of a Front's Settle. Conditions: the Front and the list lie in memory. -/
import Derived.Test.YthlejmpeigfdgaaFSrt
namespace Go.Proofs.Ythlejmpeigfdgaa
open Go Go.RowKit Go.Maps Go.Sort Go.Shelf

theorem keys_sites {w : World} {p n q b : Nat} {F : Nat → Prop} {s : List Fp} {es : List Fe} {D : DataW Value} (h : FrIn w p F s es n q b D) {ss : List Int} (hp : ss.Perm (intKeys D)) :
    (ss.mergeSort fun x y => decide (x ≤ y)).Perm (s.map (·.site)) := by
  have hnd : (s.map (·.site)).Nodup := List.pairwise_map.2 (h.ok.nodup.imp fun hab => hab)
  have hmem : ∀ x, x ∈ s.map (·.site) ↔ Maps.has D (.int .i64 x) = true := fun x => by
    rw [h.is.has, List.any_eq_true, ← h.tie, List.map_map, List.mem_map]
    constructor
    · rintro ⟨e, he, rfl⟩
      exact ⟨e, he, by simp [Fp.is]⟩
    · rintro ⟨e, he, hi⟩
      exact ⟨e, he, by simpa [Fp.is] using hi⟩
  have hq : (s.map (·.site)).Perm (intKeys D) := by
    obtain ⟨es1, hD1, hpw, _⟩ := h.map.entries (Maps.int_keyed Try.underlying3)
    obtain ⟨es', hD', hko⟩ := h.map.keysOf
    obtain rfl : es1 = es' := by rw [hD1] at hD'; simpa using hD'
    rw [hD1] at hmem ⊢
    exact perm_intKeys hpw (fun p hp => by obtain ⟨v, hv⟩ := hko p hp; obtain ⟨x, _, hx, _⟩ := Maps.keyOf_i64 Try.underlying3 hv; exact ⟨x, hx⟩) hnd hmem
  exact (List.mergeSort_perm _ _).trans (hp.trans hq.symm)
set_option maxRecDepth 100000 in
set_option maxHeartbeats 3200000 in
theorem FSettle1_any (aA bA hA : Option Addr) (aC bC hC : Nat) (la lb v : List Dt) (H : Nat) (w : World) (ha : DotsAt w aA la) (hv : DotsAt w hA v) (hbox : Box w H 31 #[.slice hA v.length hC]) (hla : la.length ≤ 1000000) (hlv : v.length ≤ 1000000) :
    Calls Try.prog 34 #[.agg #[.slice aA la.length aC, .slice bA lb.length bC], .pointer (some ⟨H, 0, none⟩)] w (fun r w' => r = .returned (.agg #[.slice aA la.length aC, if coversR (says v) (says la) = true then .slice aA la.length aC else .slice bA lb.length bC]) ∧ Kept (fun _ => False) w w') := by
  have hka : Kept (fun _ => False) w ((w.alloc (.cells #[.slice aA la.length aC, .slice bA lb.length bC] 68)).alloc (.cells zRow 68)) := ((Kept.refl _ _).alloc _).alloc _
  have HK := Lib.hid hka
  have HB := Lib.hid ((Box.new w 68 #[.slice aA la.length aC, .slice bA lb.length bC]).alloc (.cells zRow 68))
  have HR := Lib.hid ((Box.new (w.alloc (.cells #[.slice aA la.length aC, .slice bA lb.length bC] 68)) 68 zRow).at_eq (show _ = w.heap.size + 1 by simp))
  have HA := Lib.hid (ha.fresh hka)
  have HV := Lib.hid (hv.fresh hka)
  have HX := Lib.hid (hbox.kept hka id)
  clear hka ha hv hbox
  obtain ⟨cv, hcv⟩ : ∃ cv, coversR (says v) (says la) = cv := ⟨_, rfl⟩
  have HCV := Lib.hid hcv
  rw [hcv]
  clear hcv
  go_enter Try.func34, Try.ntmps34
  go_upto_region 1 with (fail)
  have hzz : (w.alloc (.cells #[.slice aA la.length aC, .slice bA lb.length bC] 68)).alloc (.cells #[.slice none 0 0, .slice none 0 0] 68) = (w.alloc (.cells #[.slice aA la.length aC, .slice bA lb.length bC] 68)).alloc (.cells zRow 68) := rfl
  try rw [hzz]
  clear hzz
  generalize (w.alloc (.cells #[.slice aA la.length aC, .slice bA lb.length bC] 68)).alloc (.cells zRow 68) = w0 at HK HB HR HA HV HX ⊢
  obtain ⟨X, hX⟩ : ∃ X, w.heap.size = X := ⟨_, rfl⟩
  have HWX := Lib.hid hX
  rw [hX] at HB HR ⊢
  clear hX
  have x0 : w0.cell? ⟨X, 0, none⟩ = some (.slice aA la.length aC) := (HB.out.cell 0).trans rfl
  have h0 : w0.cell? ⟨H, 0, none⟩ = some (.slice hA v.length hC) := (HX.out.cell 0).trans rfl
  have hmg := Covers_any hA aA v la hC aC w0 HV.out HA.out (by omega) (by omega)
  rw [HCV.out] at hmg
  go_wp2_with (fail)
  refine hmg.mono ?_
  clear hmg
  unfold BoolPost
  rintro r w1 ⟨rfl, hk⟩
  have HB1 := Lib.hid (HB.out.kept hk id)
  have HR1 := Lib.hid (HR.out.kept hk id)
  have HK1 := Lib.hid (HK.out.trans hk fun _ _ e => e)
  have HSZ := Lib.hid HR.out.lt
  have y0 : w1.cell? ⟨X, 0, none⟩ = some (.slice aA la.length aC) := (HB1.out.cell 0).trans rfl
  have y1 : w1.cell? ⟨X, 1, none⟩ = some (.slice bA lb.length bC) := (HB1.out.cell 1).trans rfl
  have f1 := HB1.out.frozen 1
  clear x0 h0 hk HB HR HK HA HV HX
  cases cv with
  | false =>
    as_aux_lemma =>
    go_wp2_with (first | (refine wpList_load_box rfl 68 _ rfl X rfl 68 #[.slice aA la.length aC, .slice bA lb.length bC] _ HB1.out Try.underlying68 rfl (size_frow.trans rfl) ?_) | (refine wpList_store_box rfl 68 _ _ rfl (X + 1) #[.slice aA la.length aC, .slice bA lb.length bC] rfl rfl 68 zRow HR1.out (size_frow.trans rfl) rfl (two_one _ _ _ _ _ _) ?_; intro w4 HB4 hk4))
    refine bodyPost_ret (results_cell_row (show Try.f34.results = #[.cell 3 68] by kernel_rfl) _ _ (X + 1) 68 #[.slice aA la.length aC, .slice bA lb.length bC] (0, 0) _ rfl HB4.out Try.underlying68 rfl (size_frow.trans rfl)) rfl ?_
    exact ⟨rfl, HK1.out.trans hk4 fun k hk e => by have := HWX.out; omega⟩
  | true =>
    as_aux_lemma =>
    have HB2 := Lib.hid (show Box (w1.setCell ⟨X, 1, none⟩ (.slice aA la.length aC)) X 68 #[.slice aA la.length aC, .slice aA la.length aC] from HB1.out.set 1 (.slice aA la.length aC))
    have HR2 := Lib.hid (show Box (w1.setCell ⟨X, 1, none⟩ (.slice aA la.length aC)) (X + 1) 68 zRow from HR1.out.far (p := ⟨X, 1, none⟩) (show X + 1 ≠ X by omega) _)
    have HK2 := Lib.hid ((Kept.refl (fun k => k = X) w1).at (g := X) 1 (.slice aA la.length aC) (.inl rfl))
    clear HB1 HR1
    go_wp2_with (first | (refine wpList_load_box rfl 68 _ rfl X rfl 68 #[.slice aA la.length aC, .slice aA la.length aC] _ HB2.out Try.underlying68 rfl (size_frow.trans rfl) ?_) | (refine wpList_store_box rfl 68 _ _ rfl (X + 1) #[.slice aA la.length aC, .slice aA la.length aC] rfl rfl 68 zRow HR2.out (size_frow.trans rfl) rfl (two_one _ _ _ _ _ _) ?_; intro w4 HB4 hk4))
    refine bodyPost_ret (results_cell_row (show Try.f34.results = #[.cell 3 68] by kernel_rfl) _ _ (X + 1) 68 #[.slice aA la.length aC, .slice aA la.length aC] (0, 0) _ rfl HB4.out Try.underlying68 rfl (size_frow.trans rfl)) rfl ?_
    exact ⟨rfl, HK1.out.trans ((HK2.out.more (T := fun k => k = X ∨ k = X + 1) fun _ _ e => .inl e).trans hk4 fun _ _ e => .inr e) fun k hk e => by have := HWX.out; omega⟩
end Go.Proofs.Ythlejmpeigfdgaa
