/- The walks of a Front's get, Row, Usable. Conditions: the Front lies in memory. -/
import Derived.Test.YthlejmpeigfdgaaFMem
import Derived.Test.YthlejmpeigfdgaaLHeld
import Derived.Great.Walk
import Derived.Laws.ResultCell
namespace Go.Proofs.Ythlejmpeigfdgaa
open Go Go.RowKit

theorem results_cell_slot {fn : Func} {p q : Tmp} {ty : TypeId} (h : fn.results = #[.cell p ty, .tmp q]) (tmps : Array Value) (w : World) (v u : Value) (g : Nat)
    (hp : tmps.getD p undef = .pointer (some ⟨g, 0, none⟩)) (hl : (loadVar ty ⟨g, 0, none⟩).run Try.prog w = .ok v w) (hq : tmps.getD q undef = u) :
    (results fn tmps).run Try.prog w = .ok (.tuple #[v, u]) w := by
  have hp' : tmps[p]?.getD undef = .pointer (some ⟨g, 0, none⟩) := by simpa using hp
  have hq' : tmps[q]?.getD undef = u := by simpa using hq
  simp [results, h, hp', hq', asAddr, hl]

def zRow : Array Value := #[.slice none 0 0, .slice none 0 0]
theorem load_ROW {w : World} {g : Nat} {u v : Value} (hb : Box w g 68 #[u, v]) : (loadVar 68 ⟨g, 0, none⟩).run Try.prog w = .ok (.agg #[u, v]) w :=
  run_loadVar_row w g _ _ _ (0, 0) _ hb Try.underlying68 rfl (size_frow.trans rfl)
theorem two_one (A B : Option Addr) (m n c d : Nat) : (#[Value.slice A m c, Value.slice B n d] : Array Value).all (·.oneCell') = true := by simp [Value.oneCell']
/-- What get answers: the two lists in memory, and whether the site was heard of. -/
def GetPost (w : World) (F : Nat → Prop) (s : List Fp) (m : Int) (r : Ending) (w' : World) : Prop :=
  ∃ aA aC bA bC, r = .returned (.tuple #[.agg #[.slice aA (rowF s m).length aC, .slice bA (usableF s m).length bC], .bool (getF s m).isSome]) ∧ w'.ownsRow 0 56 2 (.slice aA (rowF s m).length aC) (rowF s m).length (dots (rowF s m)) ∧ w'.ownsRow 0 56 2 (.slice bA (usableF s m).length bC) (usableF s m).length (dots (usableF s m)) ∧ (∀ k, (Value.slice aA (rowF s m).length aC).ownBlock = some k → F k) ∧ (∀ k, (Value.slice bA (usableF s m).length bC).ownBlock = some k → F k) ∧ Kept (fun _ => False) w w'
theorem GetPost.none_ {w w' : World} {F : Nat → Prop} {s : List Fp} {m : Int} (h : getF s m = none) (hk : Kept (fun _ => False) w w') : GetPost w F s m (.returned (.tuple #[.agg zRow, .bool false])) w' := by
  have h1 : rowF s m = [] := by unfold rowF; rw [h]
  have h2 : usableF s m = [] := by unfold usableF; rw [h]
  unfold GetPost
  rw [h1, h2, h]
  exact ⟨none, 0, none, 0, rfl, World.ownsRow_nil _ _ _ _, World.ownsRow_nil _ _ _ _, fun k e => (by cases e), fun k e => (by cases e), hk⟩
theorem GetPost.some_ {w w' : World} {F : Nat → Prop} {s : List Fp} {m : Int} {x : Fe} (h : getF s m = some x.c) (ha : FeAt w' F x) (hk : Kept (fun _ => False) w w') : GetPost w F s m (.returned (.tuple #[.agg #[x.aV, x.bV], .bool true])) w' := by
  have h1 : rowF s m = x.c.a := by unfold rowF; rw [h]
  have h2 : usableF s m = x.c.b := by unfold usableF; rw [h]
  unfold GetPost
  rw [h1, h2, h]
  exact ⟨x.aA, x.aC, x.bA, x.bC, rfl, ha.a, ha.b, ha.Fa, ha.Fb, hk⟩
/-- How a look-up of a site goes. -/
theorem look_row {w : World} {p n : Nat} {F : Nat → Prop} {s : List Fp} {es : List Fe} (h : FrAt w p F s es n) {D : DataW Value} (hD : FMapIs D es) {m : Int} {v : Value} {ps : List MemPlace} (hv : rowElem v = some (D.atKey (.int .i64 m) (.held (.agg zRow)), ps)) :
    (Maps.has D (.int .i64 m) = false ∧ getF s m = none ∧ v = .agg zRow) ∨ (Maps.has D (.int .i64 m) = true ∧ ∃ x ∈ es, getF s m = some x.c ∧ x.c.site = m ∧ v = .agg #[x.aV, x.bV]) := by
  cases ha : es.any (fun x => x.c.is m) with
  | false =>
    have hh : Maps.has D (.int .i64 m) = false := by rw [hD.has, ha]
    refine .inl ⟨hh, h.get_no ha, rowElem_inv (ps := ps) ?_⟩
    rw [Maps.atKey_of_not_has hh] at hv
    exact hv
  | true =>
    obtain ⟨x, hx, hg, hn⟩ := h.get_of ha
    refine .inr ⟨by rw [hD.has, ha], x, hx, hg, hn, rowElem_inv (ps := ps) ?_⟩
    have := hD.at_ x hx (.held (.agg zRow))
    rw [hn] at this
    rw [this] at hv
    exact hv
set_option maxRecDepth 100000 in
set_option maxHeartbeats 3200000 in
theorem FGet_any (p n : Nat) (F : Nat → Prop) (s : List Fp) (es : List Fe) (w : World) (h : FrAt w p F s es n) (m : Int) (hm : (Lit.int .i64 m).wf = true) :
    Calls Try.prog 36 #[.pointer (some ⟨p, 0, none⟩), .int .i64 m] w (GetPost w F s m) := by
  have hka : Kept (fun _ => False) w (w.alloc (.cells zRow 68)) := (Kept.refl _ _).alloc _
  have HK0 := Lib.hid hka
  have HZ := Lib.hid (h.fresh hka)
  have HR := Lib.hid (Box.new w 68 zRow)
  have HFL := Lib.hid h.lt
  clear h hka
  go_enter Try.func36, Try.ntmps36
  go_upto_region 1 with (fail)
  have hzz : w.alloc (.cells #[.slice none 0 0, .slice none 0 0] 68) = w.alloc (.cells zRow 68) := rfl
  rw [hzz]
  clear hzz
  generalize w.alloc (.cells zRow 68) = w0 at HK0 HZ HR ⊢
  obtain ⟨R, hR⟩ : ∃ R, w.heap.size = R := ⟨_, rfl⟩
  have HWR := Lib.hid hR
  rw [hR] at HR ⊢
  clear hR
  rcases HZ.out.box with ⟨rfl, hb⟩ | ⟨q, b, D, hb, hq, hFq, hFb, hmap, hD⟩
  · as_aux_lemma =>
    have HG := Lib.hid (HZ.out.get_no (m := m) rfl)
    have x0 : w0.cell? ⟨p, 0, none⟩ = some (.pointer none) := (hb.cell 0).trans rfl
    clear hb
    go_wp2_with (refine wpList_store_box rfl 68 _ _ rfl R zRow rfl rfl 68 zRow HR.out (size_frow.trans rfl) rfl (two_one _ _ _ _ _ _) ?_; intro w4 HB4 hk4)
    refine bodyPost_ret (results_cell_slot (show Try.f36.results = #[.cell 4 68, .tmp 5] by kernel_rfl) _ _ _ _ R rfl (load_ROW HB4.out) rfl) rfl ?_
    exact GetPost.none_ HG.out (HK0.out.trans hk4 fun k hk e => by have := HWR.out; omega)
  · as_aux_lemma =>
    have x0 : w0.cell? ⟨p, 0, none⟩ = some (.pointer (some ⟨q, 0, none⟩)) := (hb.cell 0).trans rfl
    have x1 : w0.cell? ⟨q, 0, none⟩ = some (.map (some b)) := (hq.cell 0).trans rfl
    have HMP := Lib.hid hmap
    have HDD := Lib.hid hD
    have HKY := Lib.hid (Maps.keyOf_int_mk (P := Try.prog) Try.underlying3 hm)
    clear hb hq hmap hD hFq hFb
    go_wp2_with (at_lookup; refine wpList_lookup_own_ok w0 rfl _ _ 66 rfl 3 68 (Maps.int_keyed Try.underlying3) Try.underlying66 rowElem (z := .agg zRow) rfl (.held (.agg zRow)) [] rfl b n D rfl HMP.out _ _ rfl HKY.out ?_)
    intro v ps hv
    rcases look_row HZ.out HDD.out hv with ⟨hh, hg, rfl⟩ | ⟨hh, x, hx, hg, hn, rfl⟩
    · have HG := Lib.hid hg
      have HN := Lib.hid (Box.new w0 68 zRow)
      clear hv
      go_wp2_with (refine wpList_store_box rfl 68 _ _ rfl w0.heap.size zRow rfl rfl 68 zRow HN.out (size_frow.trans rfl) rfl (two_one _ _ _ _ _ _) ?_)
      intro w2 HB2 hk2
      have hk2' : Kept (fun _ => False) w0 w2 := ((Kept.refl _ w0).alloc _).trans hk2 fun j hj e => by omega
      have HR2 := Lib.hid (HR.out.kept hk2' id)
      have HZ2 := Lib.hid (HZ.out.fresh hk2')
      have HK2 := Lib.hid (HK0.out.trans hk2' fun _ _ e => e)
      obtain ⟨Y, hY⟩ : ∃ Y, w0.heap.size = Y := ⟨_, rfl⟩
      rw [hY] at HB2 ⊢
      clear hk2 hk2' hY HN x0 x1
      go_wp2_with (first | (refine wpList_load_box rfl 68 _ rfl Y rfl 68 zRow _ HB2.out Try.underlying68 rfl (size_frow.trans rfl) ?_) | (refine wpList_store_box rfl 68 _ _ rfl R zRow rfl rfl 68 zRow HR2.out (size_frow.trans rfl) rfl (two_one _ _ _ _ _ _) ?_; intro w4 HB4 hk4))
      refine bodyPost_ret (results_cell_slot (show Try.f36.results = #[.cell 4 68, .tmp 5] by kernel_rfl) _ _ _ _ R rfl (load_ROW HB4.out) rfl) rfl ?_
      exact GetPost.none_ HG.out (HK2.out.trans hk4 fun k hk e => by have := HWR.out; omega)
    · have HG := Lib.hid hg
      have HX := Lib.hid hx
      clear hg hx hn
      have HN := Lib.hid (Box.new w0 68 zRow)
      clear hv
      go_wp2_with (refine wpList_store_box rfl 68 _ _ rfl w0.heap.size #[x.aV, x.bV] rfl rfl 68 zRow HN.out (size_frow.trans rfl) rfl (two_one _ _ _ _ _ _) ?_)
      intro w2 HB2 hk2
      have hk2' : Kept (fun _ => False) w0 w2 := ((Kept.refl _ w0).alloc _).trans hk2 fun j hj e => by omega
      have HR2 := Lib.hid (HR.out.kept hk2' id)
      have HZ2 := Lib.hid (HZ.out.fresh hk2')
      have HK2 := Lib.hid (HK0.out.trans hk2' fun _ _ e => e)
      obtain ⟨Y, hY⟩ : ∃ Y, w0.heap.size = Y := ⟨_, rfl⟩
      rw [hY] at HB2 ⊢
      clear hk2 hk2' hY HN x0 x1
      go_wp2_with (first | (refine wpList_load_box rfl 68 _ rfl Y rfl 68 #[x.aV, x.bV] _ HB2.out Try.underlying68 rfl (size_frow.trans rfl) ?_) | (refine wpList_store_box rfl 68 _ _ rfl R #[x.aV, x.bV] rfl rfl 68 zRow HR2.out (size_frow.trans rfl) rfl (two_one _ _ _ _ _ _) ?_; intro w4 HB4 hk4))
      refine bodyPost_ret (results_cell_slot (show Try.f36.results = #[.cell 4 68, .tmp 5] by kernel_rfl) _ _ _ _ R rfl (load_ROW HB4.out) rfl) rfl ?_
      exact GetPost.some_ HG.out ((HZ2.out.ats x HX.out).kept hk4 fun k e e2 => by have := HFL.out k e; have := HWR.out; omega) (HK2.out.trans hk4 fun k hk e => by have := HWR.out; omega)
set_option maxRecDepth 100000 in
set_option maxHeartbeats 1600000 in
theorem FGet_nil (w : World) (m : Int) : Calls Try.prog 36 #[.pointer none, .int .i64 m] w (fun r w' => r = .returned (.tuple #[.agg zRow, .bool false]) ∧ Kept (fun _ => False) w w') := by
  have hka : Kept (fun _ => False) w (w.alloc (.cells zRow 68)) := (Kept.refl _ _).alloc _
  have HK0 := Lib.hid hka
  have HR := Lib.hid (Box.new w 68 zRow)
  clear hka
  go_enter Try.func36, Try.ntmps36
  go_upto_region 1 with (fail)
  have hzz : w.alloc (.cells #[.slice none 0 0, .slice none 0 0] 68) = w.alloc (.cells zRow 68) := rfl
  rw [hzz]
  clear hzz
  generalize w.alloc (.cells zRow 68) = w0 at HK0 HR ⊢
  go_wp2_with (refine wpList_store_box rfl 68 _ _ rfl w.heap.size zRow rfl rfl 68 zRow HR.out (size_frow.trans rfl) rfl (two_one _ _ _ _ _ _) ?_; intro w4 HB4 hk4)
  refine bodyPost_ret (results_cell_slot (show Try.f36.results = #[.cell 4 68, .tmp 5] by kernel_rfl) _ _ _ _ w.heap.size rfl (load_ROW HB4.out) rfl) rfl ?_
  exact ⟨rfl, HK0.out.trans hk4 fun k hk e => by omega⟩
theorem rowF_len {s : List Fp} (h : FsOk s) (m : Int) : (rowF s m).length ≤ 17 := by
  unfold rowF
  cases hg : getF s m with
  | none => simp
  | some x => exact (h.len x (getF_mem hg).1).1
theorem usableF_len {s : List Fp} (h : FsOk s) (m : Int) : (usableF s m).length ≤ 17 := by
  unfold usableF
  cases hg : getF s m with
  | none => simp
  | some x => exact (h.len x (getF_mem hg).1).2
/-- What Row answers. -/
def RowAns (w : World) (l : List Dt) (b : Bool) (r : Ending) (w' : World) : Prop := ∃ A c, r = .returned (.tuple #[.slice A l.length c, .bool b]) ∧ w'.ownsRow w.heap.size 56 2 (.slice A l.length c) l.length (dots l) ∧ Kept (fun _ => False) w w'
set_option maxRecDepth 100000 in
set_option maxHeartbeats 3200000 in
theorem FRow_any (p n : Nat) (F : Nat → Prop) (s : List Fp) (es : List Fe) (w : World) (h : FrAt w p F s es n) (m : Int) (hm : (Lit.int .i64 m).wf = true) :
    Calls Try.prog 16 #[.pointer (some ⟨p, 0, none⟩), .int .i64 m] w (RowAns w (rowF s m) (getF s m).isSome) := by
  have HL := Lib.hid (rowF_len h.ok m)
  have HGT := Lib.hid (FGet_any p n F s es w h m hm)
  clear h hm
  go_enter Try.func16, Try.ntmps16
  go_wp2_with (fail)
  refine HGT.out.mono ?_
  rintro r w1 ⟨aA, aC, bA, bC, rfl, ha, -, -, -, hk⟩
  obtain ⟨l, hl⟩ : ∃ l, rowF s m = l := ⟨_, rfl⟩
  obtain ⟨u, hu⟩ : ∃ u, usableF s m = u := ⟨_, rfl⟩
  obtain ⟨b, hb⟩ : ∃ b, (getF s m).isSome = b := ⟨_, rfl⟩
  rw [hl] at ha HL ⊢
  rw [hu, hb]
  have HA := Lib.hid ha
  have HK := Lib.hid hk
  have HN := Lib.hid (Box.new w1 68 zRow)
  have HLE := Lib.hid hl
  have HBE := Lib.hid hb
  clear ha hk hl hu hb HGT
  go_wp2_with (refine wpList_store_box rfl 68 _ _ rfl w1.heap.size #[.slice aA l.length aC, .slice bA u.length bC] rfl rfl 68 zRow HN.out (size_frow.trans rfl) rfl (two_one _ _ _ _ _ _) ?_)
  intro w2 HB2 hk2
  have hk2' : Kept (fun _ => False) w1 w2 := ((Kept.refl _ w1).alloc _).trans hk2 fun j hj e => by omega
  have HD := Lib.hid (DotsAt.of_own (hk2'.own HA.out fun _ _ => id))
  have HK2 := Lib.hid (HK.out.trans hk2' fun _ _ e => e)
  have y0 : w2.cell? ⟨w1.heap.size, 0, none⟩ = some (.slice aA l.length aC) := (HB2.out.cell 0).trans rfl
  have hl17 := HL.out
  clear hk2 hk2' HN HA HK
  go_wp2_with (fail)
  refine (CloneD_any aA l aC w2 HD.out (by omega)).mono ?_
  rintro r w3 ⟨A', c', rfl, ho, hk⟩
  have HO := Lib.hid (own_base ho HK2.out.size)
  have HK3 := Lib.hid (HK2.out.trans hk fun _ _ e => e)
  clear ho hk y0
  go_wp2_with (fail)
  go_ret2
  rw [HLE.out, HBE.out]
  exact ⟨A', c', rfl, HO.out, HK3.out⟩
set_option maxRecDepth 100000 in
set_option maxHeartbeats 3200000 in
theorem FUsable_any (p n : Nat) (F : Nat → Prop) (s : List Fp) (es : List Fe) (w : World) (h : FrAt w p F s es n) (m : Int) (hm : (Lit.int .i64 m).wf = true) :
    Calls Try.prog 18 #[.pointer (some ⟨p, 0, none⟩), .int .i64 m] w (FreshDots w (usableF s m)) := by
  have HL := Lib.hid (usableF_len h.ok m)
  have HGT := Lib.hid (FGet_any p n F s es w h m hm)
  clear h hm
  go_enter Try.func18, Try.ntmps18
  go_wp2_with (fail)
  refine HGT.out.mono ?_
  rintro r w1 ⟨aA, aC, bA, bC, rfl, -, ha, -, -, hk⟩
  obtain ⟨l, hl⟩ : ∃ l, rowF s m = l := ⟨_, rfl⟩
  obtain ⟨u, hu⟩ : ∃ u, usableF s m = u := ⟨_, rfl⟩
  obtain ⟨b, hb⟩ : ∃ b, (getF s m).isSome = b := ⟨_, rfl⟩
  rw [hu] at ha HL ⊢
  rw [hl, hb]
  have HA := Lib.hid ha
  have HK := Lib.hid hk
  have HN := Lib.hid (Box.new w1 68 zRow)
  have HUE := Lib.hid hu
  clear ha hk hl hu hb HGT
  go_wp2_with (refine wpList_store_box rfl 68 _ _ rfl w1.heap.size #[.slice aA l.length aC, .slice bA u.length bC] rfl rfl 68 zRow HN.out (size_frow.trans rfl) rfl (two_one _ _ _ _ _ _) ?_)
  intro w2 HB2 hk2
  have hk2' : Kept (fun _ => False) w1 w2 := ((Kept.refl _ w1).alloc _).trans hk2 fun j hj e => by omega
  have HD := Lib.hid (DotsAt.of_own (hk2'.own HA.out fun _ _ => id))
  have HK2 := Lib.hid (HK.out.trans hk2' fun _ _ e => e)
  have y0 : w2.cell? ⟨w1.heap.size, 1, none⟩ = some (.slice bA u.length bC) := (HB2.out.cell 1).trans rfl
  have hl17 := HL.out
  clear hk2 hk2' HN HA HK
  go_wp2_with (fail)
  refine (CloneD_any bA u bC w2 HD.out (by omega)).mono ?_
  rintro r w3 ⟨A', c', rfl, ho, hk⟩
  have HO := Lib.hid (own_base ho HK2.out.size)
  have HK3 := Lib.hid (HK2.out.trans hk fun _ _ e => e)
  clear ho hk y0
  go_wp2_with (fail)
  go_ret
  rw [HUE.out]
  exact ⟨A', c', rfl, HO.out, HK3.out⟩
set_option maxRecDepth 100000 in
set_option maxHeartbeats 1600000 in
theorem FNew_any (w : World) : Calls Try.prog 11 #[] w fun r w' => r = .returned (.pointer (some ⟨w.heap.size, 0, none⟩)) ∧ FrAt w' w.heap.size (fun k => k = w.heap.size) [] [] 0 ∧ Kept (fun _ => False) w w' := by
  go_enter Try.func11, Try.ntmps11
  go_wp2_with (fail)
  go_ret
  exact ⟨rfl, ⟨rfl, .inl ⟨rfl, Box.new w _ _⟩, rfl, fun x hx => absurd hx (by simp), fun k e => by subst e; simp, FsOk.nil⟩, (Kept.refl _ _).alloc _⟩
end Go.Proofs.Ythlejmpeigfdgaa
