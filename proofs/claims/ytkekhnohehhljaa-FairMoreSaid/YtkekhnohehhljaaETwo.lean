/- Are there two unlike sites, as the law asks it; what the law's loops know of the windows. No program in sight. -/
import Derived.Test.YtkekhnohehhljaaEAwk
import Derived.Test.YtkekhnohehhljaaEFit
namespace Go.Proofs.Ytkekhnohehhljaa
open Go Go.Shelf Go.RowKit Go.Lib Go.Sort

theorem wp_region_class {P : Program} {C : World → Prop} {id : Nat} {Q : Exit → Act → World → Prop} {a : Act} {w : World} {l : List Oper} (hm : P.follows .mixedOrders = true) (hB : Region.lexB .any l.toArray = true) (hC : C w.drew)
    (h : wpQuiet P l.toArray C (fun a' => ∀ w', C w' → Q .normal a' w') l a) : (Code.region id l.toArray true).wp P Q a w := wp_region_quiet hm hB hC (by simpa using h)
/-- What fits answers, where only new memory matters. -/
theorem fits_kept (AE AL : Option Addr) (es : List Ev) (live : List Int) (cE cL : Nat) (s t : Int) (w : World) (hE : CellsAt w AE (evs es)) (hL : CellsAt w AL (ints live)) (hm : es.length ≤ 1000000) (hn : live.length ≤ 1000000) :
    Calls Try.prog 12 #[.slice AE es.length cE, .slice AL live.length cL, .int .i64 s, .int .i64 t] w fun r w' => r = .returned (.bool (fitsB es live s t)) ∧ Kept (fun _ => False) w w' :=
  (fits_any AE AL es live cE cL s t w hE hL hm hn).mono fun _ _ h => ⟨h.1, Grn.kept h.2⟩
theorem Kept.cellF {w w' : World} {p : Addr} {u : Value} (hk : Kept (fun _ => False) w w') (h : w.cell? p = some u) : w'.cell? p = some u := by
  rw [World.cell?_of_block (w := w) (hk.block _ (World.block_lt_of_cell? w _ h) id)]
  exact h
/-- An unlike one among the first k. -/
def TwoTo (l : List Int) (k : Nat) : Prop := ∃ j, j < k ∧ j < l.length ∧ l.getD j 0 ≠ l.getD 0 0
theorem TwoTo.one (l : List Int) : ¬ TwoTo l 1 := by
  rintro ⟨j, h1, _, h3⟩
  obtain rfl : j = 0 := by omega
  exact h3 rfl
theorem TwoTo.step {l : List Int} {k : Nat} (hk : k < l.length) : TwoTo l (k + 1) ↔ (TwoTo l k ∨ l.getD k 0 ≠ l.getD 0 0) := by
  constructor
  · rintro ⟨j, h1, h2, h3⟩
    rcases Nat.lt_or_ge j k with h | h
    · exact .inl ⟨j, h, h2, h3⟩
    · obtain rfl : j = k := by omega
      exact .inr h3
  · rintro (⟨j, h1, h2, h3⟩ | h)
    · exact ⟨j, by omega, h2, h3⟩
    · exact ⟨k, by omega, hk, h⟩
theorem two_to (l : List Int) {k : Nat} (hk : l.length ≤ k) : TwoTo l k ↔ Two l := by
  constructor
  · rintro ⟨j, h1, h2, h3⟩
    have h0 : 0 < l.length := by omega
    simp only [List.getD, List.getElem?_eq_getElem h2, List.getElem?_eq_getElem h0, Option.getD_some] at h3
    exact ⟨_, List.getElem_mem h2, _, List.getElem_mem h0, h3⟩
  · rintro ⟨x, hx, y, hy, hxy⟩
    obtain ⟨i, hi, rfl⟩ := List.getElem_of_mem hx
    obtain ⟨j, hj, rfl⟩ := List.getElem_of_mem hy
    have g : ∀ k (h : k < l.length), l.getD k 0 = l[k] := fun k h => by simp [List.getD, h]
    by_cases h : l[i] = l.getD 0 0
    · refine ⟨j, by omega, hj, ?_⟩
      rw [g j hj, ← h]
      exact fun e => hxy e.symm
    · exact ⟨i, by omega, hi, by rw [g i hi]; exact h⟩
theorem getD_cell {l : List Int} {k : Nat} (h : k < l.length) : l.getD k 0 = l[k] := by simp [List.getD, h]
theorem Fit.mono_all {es : List Ev} {ss : List Int} (s s' t t' : Int) (h1 : s' ≤ s) (h2 : t ≤ t') (h : Fit es ss s t) : Fit es ss s' t' := h.mono (fun _ h => h) (fun _ h => h) h1 h2
/-- What is left of the windows behind the first k. -/
theorem Chain.at_ {F : Int → Int → Prop} {lim t : Int} {W : List (Int × Int)} {k : Nat} (hk : k < W.length) (h : Chain F lim t (W.drop k)) : W[k].1 = t ∧ W[k].2 ≤ lim ∧ F t W[k].2 ∧ (∀ u, u < W[k].2 → ¬ F t u) ∧ Chain F lim W[k].2 (W.drop (k + 1)) := by
  rw [List.drop_eq_getElem_cons hk] at h
  exact h
theorem Wins.two_of {es : List Ev} {live : List Int} {s lim : Int} {W : List (Int × Int)} (h : Wins es live s lim W) (hn : 0 < W.length) : Two live := Classical.byContradiction fun hno => by
  rw [h.2 hno] at hn
  simp at hn
end Go.Proofs.Ytkekhnohehhljaa
