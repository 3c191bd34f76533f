/- The walks of a Front's turned, Hear. Conditions: the Front and the list lie in memory. -/
import Derived.Test.YthlejmpeigfdgaaFGet
import Derived.Test.YthlejmpeigfdgaaVCheck
namespace Go.Proofs.Ythlejmpeigfdgaa
open Go Go.RowKit

set_option maxRecDepth 100000 in
set_option maxHeartbeats 3200000 in
theorem FTurned_any (g : Nat) (caps : Array Value) (w : World) (he : ∀ args w, (callFunc g args).run Try.prog w = .ok (.enter g args) w) (b n : Nat) (D : DataW Value) (m : Int) (hm : (Lit.int .i64 m).wf = true) (hmap : w.ownsMap Try.prog 3 rowElem b n D) (hn : n < 1000000)
    (v0 : Value) (hv : ∀ v ps, rowElem v = some (D.atKey (.int .i64 m) (.held (.agg zRow)), ps) → v = v0) (Q : Value → World → Prop) (hby : Calls Try.prog g (#[v0] ++ caps) w (fun r w1 => ∃ v, r = .returned v ∧ Q v w1 ∧ Kept (fun _ => False) w w1)) :
    Calls Try.prog 33 #[.map (some b), .int .i64 m, .func (.func g) #[] caps] w (fun r w' => (∃ u, r = .returned u) ∧ ∃ v w1, Q v w1 ∧ Kept (fun _ => False) w w1 ∧ w'.ownsMap Try.prog 3 rowElem b (n + 1) (D.put (.int .i64 m) (.held v)) ∧ Kept (fun k => k = b) w1 w') := by
  obtain ⟨v, ps, hrun, hRv⟩ := hmap.lookup (Maps.int_keyed Try.underlying3) Try.underlying66 (z := .agg zRow) rfl (zd := .held (.agg zRow)) (zp := []) rfl (Maps.keyOf_int_mk (P := Try.prog) Try.underlying3 hm)
  obtain rfl := hv v ps hRv
  have HC := Lib.hid hby
  have HMP := Lib.hid hmap
  have HKY := Lib.hid (Maps.keyOf_int_mk (P := Try.prog) Try.underlying3 hm)
  clear hby hmap hRv hv hm
  go_enter Try.func33, Try.ntmps33
  go_wp2_with (go_at_fn g; refine HC.out.mono ?_)
  rintro r w1 ⟨u, rfl, hq, hk⟩
  have HQ := Lib.hid hq
  have HK := Lib.hid hk
  have HM1 := Lib.hid (ownsMapF_kept HMP.out hk id)
  clear hq hk hrun HC
  go_wp2_with (refine wpList_mapUpdate_in w1 rfl _ _ _ 66 rfl 3 68 (Maps.int_keyed Try.underlying3) Try.underlying66 rowElem b n D rfl HM1.out (by unfold maxLen; omega) (.int .i64 m) u (.int .i64 m) rfl rfl HKY.out (.held u) [] rfl ?_)
  intro w2 hm2 ht2
  have hk2 : Kept (fun k => k = b) w1 w2 := (Kept.of_grown ht2.grown).more fun k _ e => by injection e with e; exact e.symm
  have HM2 := Lib.hid hm2
  have HK2 := Lib.hid hk2
  clear hm2 ht2 hk2
  go_wp2_with (fail)
  go_end0
  exact ⟨⟨_, rfl⟩, u, w1, HQ.out, HK.out, HM2.out, HK2.out⟩
set_option maxRecDepth 100000 in
set_option maxHeartbeats 3200000 in
theorem FHear1_any (aA bA hA : Option Addr) (aC bC hC : Nat) (la lb v : List Dt) (H : Nat) (w : World) (ha : DotsAt w aA la) (hv : DotsAt w hA v) (hbox : Box w H 31 #[.slice hA v.length hC]) (hla : la.length ≤ 1000000) (hlv : v.length ≤ 1000000) :
    Calls Try.prog 38 #[.agg #[.slice aA la.length aC, .slice bA lb.length bC], .pointer (some ⟨H, 0, none⟩)] w (fun r w' => ∃ A c, r = .returned (.agg #[.slice A (joinD la v).length c, .slice bA lb.length bC]) ∧ w'.ownsRow w.heap.size 56 2 (.slice A (joinD la v).length c) (joinD la v).length (dots (joinD la v)) ∧ Kept (fun _ => False) w w') := by
  have hka : Kept (fun _ => False) w ((w.alloc (.cells #[.slice aA la.length aC, .slice bA lb.length bC] 68)).alloc (.cells zRow 68)) := ((Kept.refl _ _).alloc _).alloc _
  have HK := Lib.hid hka
  have HB := Lib.hid ((Box.new w 68 #[.slice aA la.length aC, .slice bA lb.length bC]).alloc (.cells zRow 68))
  have HR := Lib.hid ((Box.new (w.alloc (.cells #[.slice aA la.length aC, .slice bA lb.length bC] 68)) 68 zRow).at_eq (show _ = w.heap.size + 1 by simp))
  have HA := Lib.hid (ha.fresh hka)
  have HV := Lib.hid (hv.fresh hka)
  have HX := Lib.hid (hbox.kept hka id)
  clear hka ha hv hbox
  obtain ⟨res, hres⟩ : ∃ res, joinD la v = res := ⟨_, rfl⟩
  have HRES := Lib.hid hres
  rw [hres]
  clear hres
  go_enter Try.func38, Try.ntmps38
  go_upto_region 1 with (fail)
  have hzz : (w.alloc (.cells #[.slice aA la.length aC, .slice bA lb.length bC] 68)).alloc (.cells #[.slice none 0 0, .slice none 0 0] 68) = (w.alloc (.cells #[.slice aA la.length aC, .slice bA lb.length bC] 68)).alloc (.cells zRow 68) := rfl
  try rw [hzz]
  clear hzz
  generalize (w.alloc (.cells #[.slice aA la.length aC, .slice bA lb.length bC] 68)).alloc (.cells zRow 68) = w0 at HK HB HR HA HV HX ⊢
  obtain ⟨X, hX⟩ : ∃ X, w.heap.size = X := ⟨_, rfl⟩
  have HWX := Lib.hid hX
  rw [hX] at HB HR ⊢
  clear hX
  have x0 : w0.cell? ⟨X, 0, none⟩ = some (.slice aA la.length aC) := (HB.out.cell 0).trans rfl
  have h0 : w0.cell? ⟨H, 0, none⟩ = some (.slice hA v.length hC) := (HX.out.cell 0).trans rfl
  have hmg := Merge_any aA hA la v aC hC w0 HA.out HV.out (by omega) (by omega)
  rw [show vec (maxR (says la) (says v)) = res from HRES.out] at hmg
  go_wp2_with (fail)
  refine hmg.mono ?_
  clear hmg
  rintro r w1 ⟨A', c', rfl, ho, hk⟩
  have HO := Lib.hid ho
  have HB1 := Lib.hid (HB.out.kept hk id)
  have HR1 := Lib.hid (HR.out.kept hk id)
  have HK1 := Lib.hid (HK.out.trans hk fun _ _ e => e)
  have HSZ := Lib.hid HR.out.lt
  have y0 : w1.cell? ⟨X, 0, none⟩ = some (.slice aA la.length aC) := (HB1.out.cell 0).trans rfl
  have f0 := HB1.out.frozen 0
  have HB2 := Lib.hid (show Box (w1.setCell ⟨X, 0, none⟩ (.slice A' res.length c')) X 68 #[.slice A' res.length c', .slice bA lb.length bC] from HB1.out.set 0 (.slice A' res.length c'))
  have HR2 := Lib.hid (show Box (w1.setCell ⟨X, 0, none⟩ (.slice A' res.length c')) (X + 1) 68 zRow from HR1.out.far (p := ⟨X, 0, none⟩) (show X + 1 ≠ X by omega) _)
  have HK2 := Lib.hid ((Kept.refl (fun k => k = X) w1).at (g := X) 0 (.slice A' res.length c') (.inl rfl))
  clear x0 h0 ho hk HB HR HB1 HR1 HK HA HV HX
  go_wp2_with (first | (refine wpList_load_box rfl 68 _ rfl X rfl 68 #[.slice A' res.length c', .slice bA lb.length bC] _ HB2.out Try.underlying68 rfl (size_frow.trans rfl) ?_) | (refine wpList_store_box rfl 68 _ _ rfl (X + 1) #[.slice A' res.length c', .slice bA lb.length bC] rfl rfl 68 zRow HR2.out (size_frow.trans rfl) rfl (two_one _ _ _ _ _ _) ?_; intro w4 HB4 hk4))
  refine bodyPost_ret (results_cell_row (show Try.f38.results = #[.cell 3 68] by kernel_rfl) _ _ (X + 1) 68 #[.slice A' res.length c', .slice bA lb.length bC] (0, 0) _ rfl HB4.out Try.underlying68 rfl (size_frow.trans rfl)) rfl ?_
  have hkk : Kept (fun k => k = X ∨ k = X + 1) w1 w4 := (HK2.out.more (T := fun k => k = X ∨ k = X + 1) fun _ _ e => .inl e).trans hk4 fun _ _ e => .inr e
  have hwX := HWX.out
  have hXs := HSZ.out
  refine ⟨A', c', rfl, hkk.own (own_base HO.out (by omega)) (fun k e e2 => by have := (HO.out.lt k e).1; omega), HK1.out.trans hkk fun k hk e => by omega⟩
/-- A Front with a map. -/
structure FrIn (w : World) (p : Nat) (F : Nat → Prop) (s : List Fp) (es : List Fe) (n q b : Nat) (D : DataW Value) : Prop where
  tie : es.map (·.c) = s
  bp : Box w p 38 #[.pointer (some ⟨q, 0, none⟩)]
  bq : Box w q 70 #[.map (some b)]
  map : w.ownsMap Try.prog 3 rowElem b n D
  is : FMapIs D es
  fp : F p
  fq : F q
  fb : F b
  ats : ∀ x ∈ es, FeAt w F x
  lt : ∀ k, F k → k < w.heap.size
  ok : FsOk s
theorem FrIn.at_ {w : World} {p n q b : Nat} {F : Nat → Prop} {s : List Fp} {es : List Fe} {D : DataW Value} (h : FrIn w p F s es n q b D) : FrAt w p F s es n := ⟨h.tie, .inr ⟨q, b, D, h.bp, h.bq, h.fq, h.fb, h.map, h.is⟩, h.fp, h.ats, h.lt, h.ok⟩
theorem map_box_ne {w : World} {g b n : Nat} {t : TypeId} {cs : Array Value} {D : DataW Value} (hb : Box w g t cs) (hm : w.ownsMap Try.prog 3 rowElem b n D) : g ≠ b := by
  rintro rfl
  obtain ⟨es, clock, hb', _⟩ := hm
  have e : w.heap[g]? = some (.cells cs t (0, 0)) := hb
  rw [hb'] at e
  cases e
theorem map_own_ne {w : World} {b n base e0 k0 : Nat} {e : TypeId} {v : Value} {xs : List Value} {D : DataW Value} (ho : w.ownsRow base e e0 v k0 xs) (hm : w.ownsMap Try.prog 3 rowElem b n D) : v.ownBlock ≠ some b := by
  intro hv
  rcases ho.2 with ⟨rfl, _⟩ | ⟨g, cap, cur, rfl, _, hg, _⟩
  · cases hv
  · injection hv with hv
    have hv : g = b := hv
    subst hv
    obtain ⟨es, clock, hb', _⟩ := hm
    rw [hb'] at hg
    cases hg
/-- What a call leaves. -/
def FrPost (w : World) (p : Nat) (F : Nat → Prop) (s : List Fp) (n : Nat) (w' : World) : Prop := ∃ F' es n', n' ≤ n ∧ FrAt w' p F' s es n' ∧ (∀ k, F' k → F k ∨ w.heap.size ≤ k) ∧ Kept F w w'
theorem FrAt.stay {w w' : World} {p n : Nat} {F : Nat → Prop} {s : List Fp} {es : List Fe} (h : FrAt w p F s es n) (hk : Kept (fun _ => False) w w') : FrPost w p F s n w' := ⟨F, es, n, Nat.le_refl _, h.fresh hk, fun _ e => .inl e, hk.more fun _ _ e => e.elim⟩
/-- The map's row of one site is put: s' is what the rows are then. -/
theorem FrIn.put {w w1 w2 : World} {p n q b : Nat} {F : Nat → Prop} {s s' : List Fp} {es es' : List Fe} {D : DataW Value} (h : FrIn w p F s es n q b D) {x : Fe} (hk1 : Kept (fun _ => False) w w1) (hk2 : Kept (fun k => k = b) w1 w2)
    (hm : w2.ownsMap Try.prog 3 rowElem b (n + 1) (D.put (.int .i64 x.c.site) (.held x.v))) (his : FMapIs (D.put (.int .i64 x.c.site) (.held x.v)) es') (htie : es'.map (·.c) = s') (hok : FsOk s')
    (hxa : w1.ownsRow 0 56 2 x.aV x.c.a.length (dots x.c.a)) (hxb : w1.ownsRow 0 56 2 x.bV x.c.b.length (dots x.c.b)) (hFa : ∀ k, x.aV.ownBlock = some k → F k ∨ w.heap.size ≤ k) (hFb : ∀ k, x.bV.ownBlock = some k → F k ∨ w.heap.size ≤ k)
    (hes : ∀ y ∈ es', y = x ∨ y ∈ es) : FrIn w2 p (fun k => (F k ∨ w.heap.size ≤ k) ∧ k < w2.heap.size) s' es' (n + 1) q b (D.put (.int .i64 x.c.site) (.held x.v)) ∧ Kept F w w2 := by
  have hm1 := ownsMapF_kept h.map hk1 id
  have hs : w.heap.size ≤ w2.heap.size := Nat.le_trans hk1.size hk2.size
  have keep : ∀ k, F k → (F k ∨ w.heap.size ≤ k) ∧ k < w2.heap.size := fun k e => ⟨.inl e, Nat.lt_of_lt_of_le (h.lt k e) hs⟩
  have own2 : ∀ {v : Value} {l : List Dt}, w1.ownsRow 0 56 2 v l.length (dots l) → w2.ownsRow 0 56 2 v l.length (dots l) := fun ho => hk2.own ho fun k e e2 => map_own_ne ho hm1 (by rw [e, e2])
  refine ⟨⟨htie, (h.bp.kept hk1 id).kept hk2 (map_box_ne (h.bp.kept hk1 id) hm1), (h.bq.kept hk1 id).kept hk2 (map_box_ne (h.bq.kept hk1 id) hm1), hm, his, keep _ h.fp, keep _ h.fq, keep _ h.fb, fun y hy => ?_, fun k e => e.2, hok⟩, (hk1.more (T := F) fun _ _ e => e.elim).trans hk2 fun k _ e => by rw [e]; exact h.fb⟩
  rcases hes y hy with rfl | hy
  · have h1 := own2 hxa
    have h2 := own2 hxb
    exact ⟨h1, h2, fun k e => ⟨hFa k e, (h1.lt k e).2⟩, fun k e => ⟨hFb k e, (h2.lt k e).2⟩⟩
  · have hy' := (h.ats y hy).kept hk1 fun _ _ => id
    exact ⟨own2 hy'.a, own2 hy'.b, fun k e => keep k (hy'.Fa k e), fun k e => keep k (hy'.Fb k e)⟩
end Go.Proofs.Ythlejmpeigfdgaa
