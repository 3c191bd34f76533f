/- The sites that fair looks at: sorted, each once; the events sorted: what the library's calls leave in memory. Conditions: the lists are owned. -/
import Derived.Test.YtkekhnohehhljaaEInt
import Derived.Lib.RowBridge
namespace Go.Proofs.Ytkekhnohehhljaa
open Go Go.Shelf Go.RowKit Go.Lib Go.Sort

theorem compact_up (d : Array Int) (hs : ∀ i j, i < j → j < d.size → d[i]! ≤ d[j]!) : ∀ m, m ≤ d.size → (compactUpTo d m).Pairwise (· < ·) ∧ ∀ x, x ∈ compactUpTo d m ↔ ∃ j, j < m ∧ d[j]! = x := by
  intro m
  induction m with
  | zero => exact fun _ => ⟨List.Pairwise.nil, fun x => ⟨fun h => (by simp [compactUpTo] at h), fun ⟨j, hj, _⟩ => absurd hj (Nat.not_lt_zero _)⟩⟩
  | succ m ih =>
    intro hm
    obtain ⟨h1, h2⟩ := ih (by omega)
    rw [compactUpTo_succ]
    by_cases hk : keeps d m = true
    · rw [if_pos hk]
      have hk' : m = 0 ∨ d[m]! ≠ d[m - 1]! := by simpa [keeps] using hk
      refine ⟨List.pairwise_append.2 ⟨h1, List.pairwise_singleton _ _, fun x hx y hy => ?_⟩, fun x => ?_⟩
      · obtain ⟨j, hj, rfl⟩ := (h2 x).1 hx
        rw [List.mem_singleton] at hy
        subst hy
        rcases hk' with e | e
        · omega
        · have g1 := hs (m - 1) m (by omega) hm
          have g2 : d[j]! ≤ d[m - 1]! := by
            rcases Nat.lt_or_ge j (m - 1) with c | c
            · exact hs j (m - 1) c (by omega)
            · have : j = m - 1 := by omega
              rw [this]; exact Int.le_refl _
          omega
      · rw [List.mem_append, List.mem_singleton, h2]
        constructor
        · rintro (⟨j, hj, e⟩ | e)
          · exact ⟨j, by omega, e⟩
          · exact ⟨m, by omega, e.symm⟩
        · rintro ⟨j, hj, e⟩
          rcases Nat.lt_or_ge j m with c | c
          · exact .inl ⟨j, c, e⟩
          · have : j = m := by omega
            subst this
            exact .inr e.symm
    · rw [if_neg hk, List.append_nil]
      have hk' : ¬ m = 0 ∧ d[m]! = d[m - 1]! := by simpa [keeps] using hk
      refine ⟨h1, fun x => ?_⟩
      rw [h2]
      constructor
      · rintro ⟨j, hj, e⟩
        exact ⟨j, by omega, e⟩
      · rintro ⟨j, hj, e⟩
        rcases Nat.lt_or_ge j m with c | c
        · exact ⟨j, c, e⟩
        · have : j = m := by omega
          subst this
          exact ⟨j - 1, by omega, by rw [← hk'.2]; exact e⟩
/-- The sites, rising, each once. -/
def sitesOf (l : List Int) : List Int := Lib.compact (l.mergeSort fun x y => decide (x ≤ y))
theorem merge_sorted (l : List Int) : (l.mergeSort fun x y => decide (x ≤ y)).Pairwise (· ≤ ·) := by
  have h := List.pairwise_mergeSort (le := fun (x y : Int) => decide (x ≤ y)) (fun a b c h1 h2 => by simp at *; omega) (fun a b => by simp; omega) l
  exact h.imp fun h => by simpa using h
theorem sites_spec (l : List Int) : (sitesOf l).Pairwise (· < ·) ∧ ∀ x, x ∈ sitesOf l ↔ x ∈ l := by
  have hp := merge_sorted l
  obtain ⟨zs, hz⟩ : ∃ zs, (l.mergeSort fun x y => decide (x ≤ y)) = zs := ⟨_, rfl⟩
  have hm : ∀ x, x ∈ zs ↔ x ∈ l := fun x => by rw [← hz]; exact List.mem_mergeSort
  unfold sitesOf
  rw [hz] at hp ⊢
  have hg : ∀ i, i < zs.length → zs.toArray[i]! = zs[i]! := fun i _ => by simp
  obtain ⟨h1, h2⟩ := compact_up zs.toArray (fun i j hij hj => by
    have hj' : j < zs.length := by simpa using hj
    have := List.pairwise_iff_getElem.1 hp i j (by omega) hj' hij
    simpa [hj', show i < zs.length by omega] using this) zs.length (by simp)
  refine ⟨h1, fun x => ?_⟩
  rw [← hm]
  show x ∈ compactUpTo zs.toArray zs.length ↔ _
  rw [h2]
  constructor
  · rintro ⟨j, hj, e⟩
    rw [← e]
    simp [hj]
  · intro hx
    obtain ⟨j, hj, e⟩ := List.getElem_of_mem hx
    exact ⟨j, hj, by simp [hj, e]⟩
theorem kept_put {α : Type} [Inhabited α] (enc : α → Value) (w : World) (n blk off : Nat) (d : Array α) (os : Array Obj) : Kept (fun k => k = blk) w (grow (putRow enc (Sort.ahead w n) blk off d) os) := by
  refine ⟨rfl, rfl, rfl, by simp, fun k hk hne => ?_⟩
  rw [heap_grow_old _ _ (by simpa using hk)]
  have : blk ≠ k := fun e => hne e.symm
  simp [putRow, mapBlock, Sort.ahead, Array.getElem?_modify, this]
theorem kept_sw {w0 W : World} {blk : Nat} {dk : Array Ev} (h : Sw w0 blk dk W) : Kept (fun k => k = blk) w0 W := by
  obtain ⟨n, os, rfl⟩ := h
  exact kept_put id w0 n blk 0 _ os
theorem own_block {w : World} {b s n c : Nat} {e : TypeId} {A : Option Addr} {xs : List Value} (h : w.ownsRow b e s (.slice A n c) n xs) (hn : 0 < n) : ∃ g, A = some ⟨g, 0, none⟩ ∧ b ≤ g ∧ g < w.heap.size ∧ (∀ j v, xs[j]? = some v → w.cell? ⟨g, j, none⟩ = some v) ∧ ∀ j, w.frozen? ⟨g, j, none⟩ = false := by
  obtain ⟨g, hA, hb, hc, hf⟩ := own_cells h hn
  exact ⟨g, hA, (h.lt g hb).1, (h.lt g hb).2, hc, hf⟩
/-- Ints in memory of one's own, from b on. -/
def IntsOwn (b : Nat) (A : Option Addr) (c : Nat) (l : List Int) (w : World) : Prop := l.length ≤ c ∧ (l = [] ∨ ∃ g, A = some ⟨g, 0, none⟩ ∧ b ≤ g ∧ g < w.heap.size ∧ Holds (Value.int .i64) w g 0 l.toArray)
theorem IntsOwn.of {w : World} {b c : Nat} {e : TypeId} {A : Option Addr} {l : List Int} (h : w.ownsRow b e 1 (.slice A l.length c) l.length (ints l)) : IntsOwn b A c l w := by
  refine ⟨(own_caps h).1, ?_⟩
  rcases Nat.eq_zero_or_pos l.length with h0 | h0
  · exact .inl (List.eq_nil_of_length_eq_zero h0)
  · obtain ⟨g, hA, h1, h2, hc, hf⟩ := own_block h h0
    refine .inr ⟨g, hA, h1, h2, fun j hj => ?_⟩
    have hj' : j < l.length := by simpa using hj
    rw [Nat.zero_add]
    exact ⟨by rw [hc j _ (ints_get l j hj')]; simp [hj'], hf j⟩
theorem IntsOwn.cells {w : World} {b c : Nat} {A : Option Addr} {l : List Int} (h : IntsOwn b A c l w) : CellsAt w A (ints l) := by
  rcases h.2 with rfl | ⟨g, rfl, h1, h2, hH⟩
  · exact CellsAt.nil _ _
  · intro j u hj
    have hj' : j < l.length := by have := (List.getElem?_eq_some_iff.1 hj).1; rwa [ints_len] at this
    refine ⟨_, rfl, ?_⟩
    have e1 : (⟨g, 0, none⟩ : Addr).add j = ⟨g, 0 + j, none⟩ := by unfold Addr.add; split <;> simp_all
    rw [e1, (hH j (by simpa using hj')).1]
    rw [ints_get l j hj'] at hj
    rw [← hj]
    simp [hj']
theorem SortI_any {b c : Nat} {A : Option Addr} {l : List Int} {w : World} (h : IntsOwn b A c l w) (hl : l.length ≤ 1000000) :
    Calls Try.prog 15 #[.slice A l.length c] w fun r w' => r = .returned (.tuple #[]) ∧ IntsOwn b A c (l.mergeSort fun x y => decide (x ≤ y)) w' ∧ Kept (fun k => b ≤ k) w w' := by
  obtain ⟨h0, rfl | ⟨g, rfl, h1, h2, hH⟩⟩ := h
  · refine (AnyM.slices_Sort_int_none sortI A c w).mono ?_
    rintro r w' ⟨rfl, rfl⟩
    exact ⟨rfl, ⟨by simp, .inl (by simp)⟩, Kept.refl _ _⟩
  · refine (AnyM.slices_Sort_int sortI g 0 c l w hH h2 (by omega)).mono ?_
    rintro r w' ⟨rfl, n, os, rfl⟩
    have hk := kept_put (Value.int .i64) w n g 0 (l.mergeSort fun x y => decide (x ≤ y)).toArray os
    refine ⟨rfl, ⟨by rw [List.length_mergeSort]; exact h0, .inr ⟨g, rfl, h1, Nat.lt_of_lt_of_le h2 hk.size, holds_grow _ _ _ _ _ _ (by simpa using h2) (holds_putRow _ _ _ _ _ _ (holds_ahead _ _ n _ _ _ hH) (by simp))⟩⟩, hk.more fun k _ e => by rw [e]; exact h1⟩
theorem CompactI_any {b c : Nat} {A : Option Addr} {l : List Int} {w : World} (h : IntsOwn b A c l w) (hl : l.length ≤ 1000000) :
    Calls Try.prog 16 #[.slice A l.length c] w fun r w' => r = .returned (.slice A (Lib.compact l).length c) ∧ CellsAt w' A (ints (Lib.compact l)) ∧ Kept (fun k => b ≤ k) w w' := by
  obtain ⟨h0, rfl | ⟨g, rfl, h1, h2, hH⟩⟩ := h
  · refine (AnyG.slices_Compact_int_empty compactI A c w).mono ?_
    rintro r w' ⟨rfl, rfl⟩
    exact ⟨rfl, CellsAt.nil _ _, Kept.refl _ _⟩
  · refine (AnyG.slices_Compact_int compactI g 0 c l w hH (by omega) h0).mono ?_
    rintro r w' ⟨rfl, q, rfl⟩
    have hle := compact_length_le l
    have hk := kept_put (Value.int .i64) w q g 0 (Lib.compact l ++ List.replicate (l.length - (Lib.compact l).length) 0).toArray #[]
    rw [grow_empty] at hk
    have hh := holds_putRow (Value.int .i64) (Sort.ahead w q) g 0 l.toArray (Lib.compact l ++ List.replicate (l.length - (Lib.compact l).length) 0).toArray (holds_ahead _ _ q _ _ _ hH) (by simp; omega)
    refine ⟨rfl, fun j u hj => ?_, hk.more fun k _ e => by rw [e]; exact h1⟩
    have hj' : j < (Lib.compact l).length := by have := (List.getElem?_eq_some_iff.1 hj).1; rwa [ints_len] at this
    refine ⟨_, rfl, ?_⟩
    have e1 : (⟨g, 0, none⟩ : Addr).add j = ⟨g, 0 + j, none⟩ := by unfold Addr.add; split <;> simp_all
    rw [e1, (hh j (by simp; omega)).1]
    rw [ints_get _ j hj'] at hj
    rw [← hj]
    congr 2
    simp [List.getElem?_append_left hj', hj']
/-- The events' row, sorted. -/
theorem SortE_any {b c : Nat} {A : Option Addr} {l : List Ev} {w : World} (h : w.ownsRow b 35 7 (.slice A l.length c) l.length (evs l)) (hl : l.length ≤ 1000000) (hn : 0 < l.length) :
    Calls Try.prog 18 #[.slice A l.length c, .func (.func 19) #[] #[]] w fun r w' => r = .returned (.tuple #[]) ∧ ∃ l' : List Ev, l'.Perm l ∧ l'.Pairwise (fun x y => x.key ≤ y.key) ∧ CellsAt w' A (evs l') ∧ Kept (fun k => b ≤ k) w w' := by
  obtain ⟨g, rfl, h1, h2, hc, hf⟩ := own_block h hn
  have hH : HoldsK Ev.cs 7 w g 0 l.toArray := fun j hj => by
    have hj1 : j < l.length * 7 := by simpa using hj
    have hk : j / 7 < l.length := by omega
    have g1 := evs_get l (j / 7) hk (j % 7) (by omega)
    rw [show j / 7 * 7 + j % 7 = j by omega] at g1
    have hr : j % 7 < l[j / 7].cs.length := by rw [Ev.cs_len]; omega
    rw [Nat.zero_add]
    refine ⟨?_, hf j⟩
    rw [hc j (l[j / 7].cs[j % 7]) (by rw [g1]; exact List.getElem?_eq_getElem hr), get_flatK _ _ _ _ (by simpa using hj1)]
    simp only [id]
    congr 1
    rw [show (l.toArray)[j / 7]! = l[j / 7] by simp [hk]]
    exact (getElem!_pos l[j / 7].cs (j % 7) hr).symm
  have T : Srt w g l.toArray := ⟨⟨Ev.cs_len, Ev.cs_one, hH, h2⟩, by simp; omega⟩
  refine (SortStable_any (SWK.start hH) T rfl (by simp) c hl).mono ?_
  rintro r w' ⟨rfl, d', hp, hs, hsw⟩
  have hsz : d'.size = l.length := by rw [hp.1]; simp
  refine ⟨rfl, d'.toList, ?_, ?_, ?_, (kept_sw hsw).more fun k _ e => by rw [e]; exact h1⟩
  · have := hp.2.2
    rw [← hsz, Array.extract_size, hsz] at this
    simpa using this
  · refine List.pairwise_iff_getElem.2 fun i j hi hj hij => ?_
    have := hs i j (Nat.zero_le _) hij (by rw [← hsz]; simpa using hj)
    have hi' : i < d'.size := by simpa using hi
    have hj' : j < d'.size := by simpa using hj
    simpa [hi', hj'] using this
  · intro j u hj
    have hlt : j < (evs d'.toList).length := (List.getElem?_eq_some_iff.1 hj).1
    rw [evs_len] at hlt
    have hk : j / 7 < d'.toList.length := by omega
    have hr := Sw.cells hsw T hp.1 (i := j / 7) (by simpa using hk)
    have e0 : j / 7 * 7 + j % 7 = j := by omega
    have g1 := evs_get d'.toList (j / 7) hk (j % 7) (by omega)
    rw [e0, hj] at g1
    have g2 := hr (j % 7) u (by rw [g1]; simp [show j / 7 < d'.size by simpa using hk])
    refine ⟨_, rfl, ?_⟩
    have e1 : (⟨g, 0, none⟩ : Addr).add j = ⟨g, j, none⟩ := by unfold Addr.add; split <;> simp_all
    rw [e1, ← e0]
    exact g2
end Go.Proofs.Ytkekhnohehhljaa
