/- The reference's Fronts in memory: a box of 51 cells. The walks of New, site, Row, Usable. Conditions: the Front lies in memory. -/
import Derived.Test.YthlejmpeigfdgaaRFPln
import Derived.Test.YthlejmpeigfdgaaFFrn
import Derived.Test.YthlejmpeigfdgaaVRLat
import Derived.Test.YthlejmpeigfdgaaVRCov
namespace Go.Proofs.Ythlejmpeigfdgaa
open Go Go.RowKit

theorem Kept.cellF {w w' : World} {p : Addr} {u : Value} (hk : Kept (fun _ => False) w w') (h : w.cell? p = some u) : w'.cell? p = some u := by
  rw [World.cell?_of_block (w := w) (hk.block _ (World.block_lt_of_cell? w _ h) id)]
  exact h
def upd {α : Type} (f : Nat → α) (i : Nat) (x : α) : Nat → α := fun j => if j = i then x else f j
theorem upd_same {α : Type} (f : Nat → α) (i : Nat) (x : α) : upd f i x i = x := if_pos rfl
theorem upd_other {α : Type} (f : Nat → α) {i j : Nat} (x : α) (h : j ≠ i) : upd f i x j = f j := if_neg h
def rfCells (x y z : Nat → Value) : Array Value := Array.ofFn (n := 51) fun i => if i.1 < 17 then x i.1 else if i.1 < 34 then y (i.1 - 17) else z (i.1 - 34)
section
variable (x y z : Nat → Value)
theorem rfCells_size : (rfCells x y z).size = 51 := Array.size_ofFn
theorem rfCells_get {i : Nat} (h : i < 51) : (rfCells x y z)[i]? = some (if i < 17 then x i else if i < 34 then y (i - 17) else z (i - 34)) := by
  unfold rfCells
  rw [Array.getElem?_ofFn, dif_pos h]
theorem rfCells_x {i : Nat} (h : i < 17) : (rfCells x y z)[i]? = some (x i) := by rw [rfCells_get _ _ _ (by omega), if_pos h]
theorem rfCells_y {i : Nat} (h : i < 17) : (rfCells x y z)[17 + i]? = some (y i) := by rw [rfCells_get _ _ _ (by omega), if_neg (by omega), if_pos (by omega), Nat.add_sub_cancel_left]
theorem rfCells_z {i : Nat} (h : i < 17) : (rfCells x y z)[34 + i]? = some (z i) := by rw [rfCells_get _ _ _ (by omega), if_neg (by omega), if_neg (by omega), Nat.add_sub_cancel_left]
theorem rfCells_ext {cs : Array Value} (hs : cs.size = 51) (h : ∀ j, j < 51 → cs[j]? = (rfCells x y z)[j]?) : cs = rfCells x y z := by
  apply Array.ext_getElem?
  intro j
  by_cases hj : j < 51
  · exact h j hj
  · rw [Array.getElem?_eq_none (by omega), Array.getElem?_eq_none (by rw [rfCells_size]; omega)]
theorem rfCells_setx {i : Nat} (h : i < 17) (v : Value) : (rfCells x y z).setIfInBounds i v = rfCells (upd x i v) y z := by
  refine rfCells_ext _ _ _ (by simp [rfCells_size]) fun j hj => ?_
  rw [Array.getElem?_setIfInBounds, rfCells_get (i := j) _ _ _ hj, rfCells_size]
  unfold upd
  by_cases e : i = j
  · subst e; rw [if_pos rfl, if_pos hj, rfCells_x _ _ _ h, if_pos rfl]
  · rw [if_neg e, rfCells_get _ _ _ hj, if_neg (Ne.symm e)]
theorem rfCells_sety {i : Nat} (h : i < 17) (v : Value) : (rfCells x y z).setIfInBounds (17 + i) v = rfCells x (upd y i v) z := by
  refine rfCells_ext _ _ _ (by simp [rfCells_size]) fun j hj => ?_
  rw [Array.getElem?_setIfInBounds, rfCells_get (i := j) _ _ _ hj, rfCells_size]
  unfold upd
  by_cases e : 17 + i = j
  · subst e; rw [if_pos rfl, if_pos hj, rfCells_y _ _ _ h, if_pos rfl]
  · rw [if_neg e, rfCells_get _ _ _ hj]
    by_cases h1 : j < 17
    · simp [h1]
    · have : j - 17 ≠ i := by omega
      simp [h1, this]
theorem rfCells_setz {i : Nat} (h : i < 17) (v : Value) : (rfCells x y z).setIfInBounds (34 + i) v = rfCells x y (upd z i v) := by
  refine rfCells_ext _ _ _ (by simp [rfCells_size]) fun j hj => ?_
  rw [Array.getElem?_setIfInBounds, rfCells_get (i := j) _ _ _ hj, rfCells_size]
  unfold upd
  by_cases e : 34 + i = j
  · subst e; rw [if_pos rfl, if_pos hj, rfCells_z _ _ _ h, if_pos rfl]
  · rw [if_neg e, rfCells_get _ _ _ hj]
    by_cases h1 : j < 34
    · simp [h1]
    · have : j - 34 ≠ i := by omega
      simp [h1, this]
end
/-- A row of the reference: where its list lies. -/
structure Rs where
  l : List Dt
  A : Option Addr
  c : Nat
def Rs.v (x : Rs) : Value := .slice x.A x.l.length x.c
def Rs.nil : Rs := ⟨[], none, 0⟩
structure RfAt (w : World) (g : Nat) (F : Nat → Prop) (r c : Nat → Rs) (hd : Nat → Bool) : Prop where
  box : Box w g 59 (rfCells (fun i => (r i).v) (fun i => (c i).v) (fun i => .bool (hd i)))
  r : ∀ i, i < 17 → w.ownsRow 0 56 2 (r i).v (r i).l.length (dots (r i).l) ∧ (∀ k, (r i).v.ownBlock = some k → F k)
  c : ∀ i, i < 17 → w.ownsRow 0 56 2 (c i).v (c i).l.length (dots (c i).l) ∧ (∀ k, (c i).v.ownBlock = some k → F k)
  fg : F g
  lt : ∀ k, F k → k < w.heap.size
section
variable {w w' : World} {g : Nat} {F S : Nat → Prop} {r c : Nat → Rs} {hd : Nat → Bool}
theorem RfAt.kept (h : RfAt w g F r c hd) (hk : Kept S w w') (hS : ∀ k, F k → ¬ S k) : RfAt w' g F r c hd :=
  ⟨h.box.kept hk (hS _ h.fg), fun i hi => ⟨hk.own (h.r i hi).1 fun k e => hS _ ((h.r i hi).2 k e), (h.r i hi).2⟩, fun i hi => ⟨hk.own (h.c i hi).1 fun k e => hS _ ((h.c i hi).2 k e), (h.c i hi).2⟩, h.fg, fun k e => Nat.lt_of_lt_of_le (h.lt k e) hk.size⟩
theorem RfAt.fresh (h : RfAt w g F r c hd) (hk : Kept (fun _ => False) w w') : RfAt w' g F r c hd := h.kept hk fun _ _ => id
end
/-- These are the rows of s. -/
structure RfOf (s : List Fp) (r c : Nat → Rs) (hd : Nat → Bool) : Prop where
  r : ∀ i, i < 17 → (r i).l = rowF s i
  c : ∀ i, i < 17 → (c i).l = usableF s i
  h : ∀ i, i < 17 → hd i = heardF s i
/-- A Front of the reference. -/
def RfS (w : World) (g : Nat) (F : Nat → Prop) (s : List Fp) : Prop := FsOk s ∧ FsV s ∧ ∃ r c hd, RfAt w g F r c hd ∧ RfOf s r c hd
theorem RfS.kept {w w' : World} {g : Nat} {F S : Nat → Prop} {s : List Fp} (h : RfS w g F s) (hk : Kept S w w') (hS : ∀ k, F k → ¬ S k) : RfS w' g F s := by
  obtain ⟨h1, h2, r, c, hd, h3, h4⟩ := h
  exact ⟨h1, h2, r, c, hd, h3.kept hk hS, h4⟩
theorem RfS.fresh {w w' : World} {g : Nat} {F : Nat → Prop} {s : List Fp} (h : RfS w g F s) (hk : Kept (fun _ => False) w w') : RfS w' g F s := h.kept hk fun _ _ => id
/-- What a call leaves. -/
def RfPost (w : World) (g : Nat) (F : Nat → Prop) (s : List Fp) (w' : World) : Prop := ∃ F', RfS w' g F' s ∧ (∀ k, F' k → F k ∨ w.heap.size ≤ k) ∧ Kept F w w'
theorem RfS.stay {w w' : World} {g : Nat} {F : Nat → Prop} {s : List Fp} (h : RfS w g F s) (hk : Kept (fun _ => False) w w') : RfPost w g F s w' := ⟨F, h.fresh hk, fun _ e => .inl e, hk.more fun _ _ e => e.elim⟩
set_option maxRecDepth 100000 in
set_option maxHeartbeats 1600000 in
theorem RFNew_any (w : World) : Calls Try.prog 12 #[] w fun r w' => r = .returned (.pointer (some ⟨w.heap.size, 0, none⟩)) ∧ RfS w' w.heap.size (fun k => k = w.heap.size) [] ∧ Kept (fun _ => False) w w' := by
  go_enter Try.func12, Try.ntmps12
  go_wp2_with (fail)
  go_ret
  refine ⟨rfl, ⟨FsOk.nil, FsV.nil, fun _ => Rs.nil, fun _ => Rs.nil, fun _ => false, ⟨?_, fun i _ => ⟨World.ownsRow_nil _ _ _ _, fun k e => by cases e⟩, fun i _ => ⟨World.ownsRow_nil _ _ _ _, fun k e => by cases e⟩, rfl, fun k e => by subst e; simp⟩, fun i _ => rfl, fun i _ => rfl, fun i _ => rfl⟩, (Kept.refl _ _).alloc _⟩
  refine (show ∀ cs cs' : Array Value, cs' = cs → Box (w.alloc (.cells cs 59)) w.heap.size 59 cs' from fun cs cs' e => e ▸ Box.new w 59 cs) _ _ ?_
  kernel_rfl
set_option maxRecDepth 100000 in
theorem RFsite_any (w : World) (m : Int) : Calls Try.prog 43 #[.int .i64 m] w fun r w' => r = .returned (.bool (decide (1 ≤ m ∧ m ≤ 16))) ∧ Kept (fun _ => False) w w' := by
  go_enter Try.func43, Try.ntmps43
  by_cases h1 : 1 ≤ m
  · by_cases h2 : m ≤ 16
    · have d1 : decide (1 ≤ m) = true := decide_eq_true h1
      have d2 : decide (m ≤ 16) = true := decide_eq_true h2
      go_wp2_with (fail)
      go_ret
      exact ⟨by simp [h1, h2], Kept.refl _ _⟩
    · have d1 : decide (1 ≤ m) = true := decide_eq_true h1
      have d2 : decide (m ≤ 16) = false := decide_eq_false h2
      go_wp2_with (fail)
      go_ret
      exact ⟨by simp, Kept.refl _ _⟩
  · have d1 : decide (1 ≤ m) = false := decide_eq_false h1
    go_wp2_with (fail)
    go_ret
    exact ⟨by simp, Kept.refl _ _⟩
set_option maxRecDepth 100000 in
set_option maxHeartbeats 1600000 in
theorem RFUsable_any (g : Nat) (F : Nat → Prop) (s : List Fp) (w : World) (h : RfS w g F s) (m : Int) :
    Calls Try.prog 29 #[.pointer (some ⟨g, 0, none⟩), .int .i64 m] w (FreshDots w (usableF s m)) := by
  obtain ⟨hok, hV, r, c, hd, hr, hs⟩ := h
  by_cases hm : 1 ≤ m ∧ m ≤ 16
  · obtain ⟨i, rfl⟩ : ∃ i : Nat, m = i := ⟨m.toNat, by omega⟩
    have hi : i < 17 := by omega
    have HE := Lib.hid (hs.c i hi)
    have HL := Lib.hid (usableF_len hok i)
    have HV := Lib.hid (hV.usable i)
    obtain ⟨u, hu⟩ : ∃ u, usableF s i = u := ⟨_, rfl⟩
    rw [hu] at HE HL HV ⊢
    have x0 : w.cell? ⟨g, 17 + i, none⟩ = some (c i).v := by rw [hr.box.cell]; exact rfCells_y _ _ _ hi
    have ho := (hr.c i hi).1
    generalize c i = x at x0 ho HE
    obtain ⟨l, A, xc⟩ := x
    obtain rfl : l = u := HE.out
    have HO := Lib.hid (DotsAt.of_own ho)
    have hdm : decide (1 ≤ (i : Int) ∧ (i : Int) ≤ 16) = true := decide_eq_true hm
    clear hok hV hr hs hm ho hu
    go_enter Try.func29, Try.ntmps29
    go_wp2_with (fail)
    refine (RFsite_any w i).mono ?_
    rintro r w1 ⟨rfl, hk⟩
    rw [hdm]
    have HK := Lib.hid hk
    have y0 : w1.cell? ⟨g, 17 + i, none⟩ = some (.slice A l.length xc) := Kept.cellF HK.out x0
    clear hk x0 hdm
    go_wp2_with (fail)
    have hl := HL.out
    refine (RMerge_any A none l [] xc 0 w1 (HO.out.fresh HK.out) DotsAt.nil (by omega) (by simp)).mono ?_
    rw [merge_nil HV.out]
    rintro r w2 ⟨A', c', rfl, ho, hk⟩
    have HO2 := Lib.hid (own_base ho HK.out.size)
    have HK2 := Lib.hid (HK.out.trans hk fun _ _ e => e)
    clear ho hk y0
    go_wp2_with (fail)
    go_ret
    exact ⟨A', c', rfl, HO2.out, HK2.out⟩
  · have HE := Lib.hid (usableF_no (heardF_site hok hm))
    rw [HE.out]
    have hdm : decide (1 ≤ m ∧ m ≤ 16) = false := decide_eq_false hm
    clear hok hV hr hs hm
    go_enter Try.func29, Try.ntmps29
    go_wp2_with (fail)
    refine (RFsite_any w m).mono ?_
    rintro r w1 ⟨rfl, hk⟩
    rw [hdm]
    have HK := Lib.hid hk
    clear hk
    go_wp2_with (fail)
    go_ret
    exact ⟨none, 0, rfl, World.ownsRow_nil _ _ _ _, HK.out⟩
set_option maxRecDepth 100000 in
set_option maxHeartbeats 1600000 in
theorem RFRow_any (g : Nat) (F : Nat → Prop) (s : List Fp) (w : World) (h : RfS w g F s) (m : Int) :
    Calls Try.prog 28 #[.pointer (some ⟨g, 0, none⟩), .int .i64 m] w (RowAns w (rowF s m) (heardF s m)) := by
  obtain ⟨hok, hV, r, c, hd, hr, hs⟩ := h
  by_cases hm : 1 ≤ m ∧ m ≤ 16
  · obtain ⟨i, rfl⟩ : ∃ i : Nat, m = i := ⟨m.toNat, by omega⟩
    have hi : i < 17 := by omega
    have HE := Lib.hid (hs.r i hi)
    have HL := Lib.hid (rowF_len hok i)
    have HV := Lib.hid (hV.row i)
    have HNO := Lib.hid (fun h => rowF_no (s := s) (m := i) h)
    obtain ⟨u, hu⟩ : ∃ u, rowF s i = u := ⟨_, rfl⟩
    rw [hu] at HE HL HV HNO ⊢
    have x0 : w.cell? ⟨g, 0 + i, none⟩ = some (r i).v := by rw [hr.box.cell, Nat.zero_add]; exact rfCells_x _ _ _ hi
    have x1 : w.cell? ⟨g, 34 + i, none⟩ = some (.bool (hd i)) := by rw [hr.box.cell]; exact rfCells_z _ _ _ hi
    rw [hs.h i hi] at x1
    have ho := (hr.r i hi).1
    generalize r i = x at x0 ho HE
    obtain ⟨l, A, xc⟩ := x
    obtain rfl : l = u := HE.out
    have HO := Lib.hid (DotsAt.of_own ho)
    have hdm : decide (1 ≤ (i : Int) ∧ (i : Int) ≤ 16) = true := decide_eq_true hm
    generalize heardF s i = b at x1 HNO ⊢
    clear hok hV hr hs hm ho hu
    go_enter Try.func28, Try.ntmps28
    go_wp2_with (fail)
    refine (RFsite_any w i).mono ?_
    rintro r w1 ⟨rfl, hk⟩
    rw [hdm]
    have HK := Lib.hid hk
    have y0 : w1.cell? ⟨g, 0 + i, none⟩ = some (.slice A l.length xc) := Kept.cellF HK.out x0
    have y1 : w1.cell? ⟨g, 34 + i, none⟩ = some (.bool b) := Kept.cellF HK.out x1
    rw [Nat.zero_add] at y0
    clear hk x0 x1 hdm
    cases b with
    | false =>
      as_aux_lemma =>
      obtain rfl := HNO.out rfl
      go_wp2_with (fail)
      go_ret2
      exact ⟨none, 0, rfl, World.ownsRow_nil _ _ _ _, HK.out⟩
    | true =>
      as_aux_lemma =>
      go_wp2_with (fail)
      have hl := HL.out
      refine (RMerge_any A none l [] xc 0 w1 (HO.out.fresh HK.out) DotsAt.nil (by omega) (by simp)).mono ?_
      rw [merge_nil HV.out]
      rintro r w2 ⟨A', c', rfl, ho, hk⟩
      have HO2 := Lib.hid (own_base ho HK.out.size)
      have HK2 := Lib.hid (HK.out.trans hk fun _ _ e => e)
      clear ho hk y0 y1
      go_wp2_with (fail)
      go_ret2
      exact ⟨A', c', rfl, HO2.out, HK2.out⟩
  · have HE := Lib.hid (heardF_site hok hm)
    rw [rowF_no HE.out, HE.out]
    have hdm : decide (1 ≤ m ∧ m ≤ 16) = false := decide_eq_false hm
    clear hok hV hr hs hm
    go_enter Try.func28, Try.ntmps28
    go_wp2_with (fail)
    refine (RFsite_any w m).mono ?_
    rintro r w1 ⟨rfl, hk⟩
    rw [hdm]
    have HK := Lib.hid hk
    clear hk
    go_wp2_with (fail)
    go_ret2
    exact ⟨none, 0, rfl, World.ownsRow_nil _ _ _ _, HK.out⟩
end Go.Proofs.Ythlejmpeigfdgaa
