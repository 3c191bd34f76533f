/- The sites that fair looks at: a copy, sorted, each once; the events' copy, sorted. Conditions: the lists lie in memory; at most a million. -/
import Derived.Test.YtkekhnohehhljaaESta
import Derived.Test.YtkekhnohehhljaaObP
namespace Go.Proofs.Ytkekhnohehhljaa
open Go Go.Shelf Go.RowKit Go.Lib Go.Sort

def ints (l : List Int) : List Value := l.map (Value.int .i64)
theorem ints_len (l : List Int) : (ints l).length = l.length := by simp [ints]
theorem ints_one (l : List Int) : ∀ u ∈ ints l, u.oneCell' = true := by
  intro u hu
  obtain ⟨x, _, rfl⟩ := List.mem_map.1 hu
  rfl
theorem ints_get (l : List Int) (k : Nat) (h : k < l.length) : (ints l)[k]? = some (.int .i64 l[k]) := by simp [ints, h]
def evs (l : List Ev) : List Value := l.flatMap Ev.cs
theorem evs_len (l : List Ev) : (evs l).length = l.length * 7 := by
  induction l with
  | nil => rfl
  | cons d l ih => simp only [evs, List.flatMap_cons, List.length_append, Ev.cs_len, List.length_cons] at ih ⊢; omega
theorem evs_one (l : List Ev) : ∀ u ∈ evs l, u.oneCell' = true := by
  intro u hu
  obtain ⟨x, _, h⟩ := List.mem_flatMap.1 hu
  exact x.cs_one u h
theorem evs_get (l : List Ev) : ∀ (k : Nat) (h : k < l.length) (j : Nat), j < 7 → (evs l)[k * 7 + j]? = l[k].cs[j]? := by
  induction l with
  | nil => intro k h; simp at h
  | cons x l ih =>
    intro k h j hj
    have e : evs (x :: l) = x.cs ++ evs l := rfl
    rw [e]
    cases k with
    | zero => rw [Nat.zero_mul, Nat.zero_add, List.getElem?_append_left (by rw [Ev.cs_len]; omega)]; rfl
    | succ k =>
      rw [show (k + 1) * 7 + j = 7 + (k * 7 + j) by omega, List.getElem?_append_right (by rw [Ev.cs_len]; omega), Ev.cs_len, Nat.add_sub_cancel_left]
      exact ih k (by simpa using h) j hj
/-- These cells lie from an address on. -/
def CellsAt (w : World) (A : Option Addr) (xs : List Value) : Prop := ∀ j u, xs[j]? = some u → ∃ ad, A = some ad ∧ w.cell? (ad.add j) = some u
theorem CellsAt.fresh {w w' : World} {A : Option Addr} {xs : List Value} (h : CellsAt w A xs) (hk : Kept (fun _ => False) w w') : CellsAt w' A xs := fun j u hj => by
  obtain ⟨ad, e, h0⟩ := h j u hj
  refine ⟨ad, e, ?_⟩
  rw [World.cell?_of_block (w := w) (hk.block _ (World.block_lt_of_cell? w _ h0) id)]
  exact h0
theorem CellsAt.nil (w : World) (A : Option Addr) : CellsAt w A [] := fun j u h => by simp at h
theorem CellsAt.of_own {w : World} {b s n c : Nat} {e : TypeId} {A : Option Addr} {xs : List Value} (h : w.ownsRow b e s (.slice A n c) n xs) : CellsAt w A xs := fun j u hj => by
  have hlt : j < xs.length := (List.getElem?_eq_some_iff.1 hj).1
  have hl := h.1
  have hn : 0 < n := by
    rcases Nat.eq_zero_or_pos n with e | e
    · subst e; omega
    · exact e
  obtain ⟨g, rfl, -, hc, -⟩ := own_cells h hn
  refine ⟨_, rfl, ?_⟩
  have e1 : (⟨g, 0, none⟩ : Addr).add j = ⟨g, j, none⟩ := by unfold Addr.add; split <;> simp_all
  rw [e1]
  exact hc j u hj
theorem CellsAt.some_ {w : World} {A : Option Addr} {xs : List Value} (h : CellsAt w A xs) (hn : 0 < xs.length) : ∃ b f, A = some ⟨b, f, none⟩ ∧ ∀ j u, xs[j]? = some u → w.cell? ⟨b, f + j, none⟩ = some u := by
  obtain ⟨ad, rfl, h0⟩ := h 0 _ (List.getElem?_eq_getElem hn)
  obtain ⟨b, f, sp⟩ := ad
  have hs : sp = none := by
    cases sp with
    | none => rfl
    | some x =>
      unfold World.cell? at h0
      have : ((⟨b, f, some x⟩ : Addr).add 0).spot.isSome = true := by unfold Addr.add; rw [if_pos rfl]; rfl
      rw [this] at h0
      simp only [if_true] at h0
      split at h0 <;> cases h0
  subst hs
  refine ⟨b, f, rfl, fun j u hj => ?_⟩
  obtain ⟨ad, e, h1⟩ := h j u hj
  injection e with e
  subst e
  have e1 : (⟨b, f, none⟩ : Addr).add j = ⟨b, f + j, none⟩ := by unfold Addr.add; split <;> simp_all
  rwa [e1] at h1
theorem info_int : (Try.prog.info? 3).map (fun i => (i.zero, i.size, i.bytes)) = some (some (.int .i64 0), 1, 8) := by kernel_rfl
theorem eltInts : Elt Try.prog 26 3 1 8 := .of Try.underlying26 info_int rfl (by decide) (by decide)
theorem info_ev : (Try.prog.info? 35).map (fun i => (i.zero, i.size, i.bytes)) = some (some (.agg #[.int .i64 0, .int .i64 0, .int .i64 0, .int .i64 0, .int .i64 0, .int .i64 0, .bool false]), 7, 56) := by kernel_rfl
theorem eltEvs : Elt Try.prog 25 35 7 56 := .of Try.underlying25 info_ev rfl (by decide) (by decide)
/-- A new list. -/
def Fresh (w : World) (e : TypeId) (s n : Nat) (xs : List Value) (r : Ending) (w' : World) : Prop := ∃ A c, r = .returned (.slice A n c) ∧ w'.ownsRow w.heap.size e s (.slice A n c) n xs ∧ Kept (fun _ => False) w w'
set_option maxRecDepth 100000 in
set_option maxHeartbeats 1600000 in
theorem CloneI_any (A : Option Addr) (l : List Int) (c : Nat) (w : World) (hl : CellsAt w A (ints l)) (hlen : l.length ≤ 1000000) :
    Calls Try.prog 14 #[.slice A l.length c] w (Fresh w 3 1 l.length (ints l)) := by
  have hq := fun W a n c n' c' => Lib.run_eql_slice_nil (P := Try.prog) W 26 3 a n c n' c' Try.underlying26
  have hn : A = none → l = [] := fun h => by
    subst h
    rcases Nat.eq_zero_or_pos l.length with h0 | h0
    · exact List.eq_nil_of_length_eq_zero h0
    · obtain ⟨_, e, _⟩ := hl 0 _ (List.getElem?_eq_getElem (by rw [ints_len]; omega))
      cases e
  cases A with
  | none =>
    obtain rfl := hn rfl
    clear hl hn
    go_enter Try.func14, Try.ntmps14
    go_wp2
    go_ret
    exact ⟨none, 0, rfl, World.ownsRow_nil _ _ _ _, Kept.refl _ _⟩
  | some ad =>
    have HLC := Lib.hid hl
    have HE := Lib.hid (World.ownsRow_made (e := 3) (size := 1) (base := w.heap.size) w #[] 0 (Nat.le_refl _) (Nat.zero_le _) rfl)
    have HK := Lib.hid ((Kept.refl (fun _ => False) w).alloc (.cells #[] 3))
    clear hl hn
    go_enter Try.func14, Try.ntmps14
    go_wp2_with (at_builtin; refine wpList_append_kit eltInts rfl _ _ rfl w.heap.size _ 0 [] rfl HE.out (some ad) l.length c (ints l) rfl (fun h => by cases h) (by rw [ints_len]; try omega) (fun j u hj => by (obtain ⟨ad', e, h0⟩ := HLC.out j u hj; exact ⟨ad', e, Lib.cell?_alloc_some _ h0⟩)) (ints_one l) (by omega) (by simp) ?_; intro A' c' w1 HO HK1 HG)
    have HK2 := Lib.hid (HK.out.trans HK1.out fun k hk e => by (have e' : w.heap.size = k := by injection e); omega)
    clear HK HK1 HG HE
    go_wp2
    go_ret
    refine ⟨A', c', rfl, ?_, HK2.out⟩
    have := HO.out
    rw [Nat.zero_add, List.nil_append] at this
    exact this

set_option maxRecDepth 100000 in
set_option maxHeartbeats 1600000 in
theorem CloneE_any (A : Option Addr) (l : List Ev) (c : Nat) (w : World) (hl : CellsAt w A (evs l)) (hlen : l.length ≤ 1000000) :
    Calls Try.prog 17 #[.slice A l.length c] w (Fresh w 35 7 l.length (evs l)) := by
  have hq := fun W a n c n' c' => Lib.run_eql_slice_nil (P := Try.prog) W 25 35 a n c n' c' Try.underlying25
  have hn : A = none → l = [] := fun h => by
    subst h
    rcases Nat.eq_zero_or_pos l.length with h0 | h0
    · exact List.eq_nil_of_length_eq_zero h0
    · obtain ⟨_, e, _⟩ := hl 0 _ (List.getElem?_eq_getElem (by rw [evs_len]; omega))
      cases e
  cases A with
  | none =>
    obtain rfl := hn rfl
    clear hl hn
    go_enter Try.func17, Try.ntmps17
    go_wp2
    go_ret
    exact ⟨none, 0, rfl, World.ownsRow_nil _ _ _ _, Kept.refl _ _⟩
  | some ad =>
    have HLC := Lib.hid hl
    have HE := Lib.hid (World.ownsRow_made (e := 35) (size := 7) (base := w.heap.size) w #[] 0 (Nat.le_refl _) (Nat.zero_le _) rfl)
    have HK := Lib.hid ((Kept.refl (fun _ => False) w).alloc (.cells #[] 35))
    clear hl hn
    go_enter Try.func17, Try.ntmps17
    go_wp2_with (at_builtin; refine wpList_append_kit eltEvs rfl _ _ rfl w.heap.size _ 0 [] rfl HE.out (some ad) l.length c (evs l) rfl (fun h => by cases h) (by rw [evs_len]; try omega) (fun j u hj => by (obtain ⟨ad', e, h0⟩ := HLC.out j u hj; exact ⟨ad', e, Lib.cell?_alloc_some _ h0⟩)) (evs_one l) (by omega) (by simp) ?_; intro A' c' w1 HO HK1 HG)
    have HK2 := Lib.hid (HK.out.trans HK1.out fun k hk e => by (have e' : w.heap.size = k := by injection e); omega)
    clear HK HK1 HG HE
    go_wp2
    go_ret
    refine ⟨A', c', rfl, ?_, HK2.out⟩
    have := HO.out
    rw [Nat.zero_add, List.nil_append] at this
    exact this
end Go.Proofs.Ytkekhnohehhljaa
