/- Opening arguments: a list of events, a list of ints. No condition. -/
import Derived.Test.YtkekhnohehhljaaEInt
import Derived.ProofKit
import Derived.OpenShut
import Derived.Deep.Slices
import Derived.Deep.Fields
import Derived.ChangeSame
import Derived.ChangeSlices
import Derived.Lib.SmallJoins
namespace Go.Proofs.Ytkekhnohehhljaa
open Go.ChangeShapes Go.WideShapes Go.ChangeAt Go.RowKit Go.Deep

section
variable {H : Type} {enc : TypeId × Value → H} {P : Program} {w : World} {base : Nat} {spare : Nat → Bool} {held : Bool}
theorem open_slice_fields {t e : TypeId} {fs : Array Field} {fuel : Nat} {cs : List Value} {x : DataW H × List MemPlace} (ht : P.underlying t = some (.slice e)) (he : P.underlying e = some (.struct fs))
    (hone : oneCellFields P fs = true) (hC : P.cellsOf e = fs.size) (h : DataW.trod enc P w base spare held fuel t cs = some x) :
    (cs = [.slice none 0 0] ∧ x = (.nil, [])) ∨
    ∃ (a : Addr) (len cap m : Nat) (D : Nat → DataW H) (Pl : Nat → List MemPlace), cs = [.slice (some a) len cap] ∧ base ≤ a.block ∧ len ≤ cap ∧ cap ≤ maxLen ∧ m = (if spare a.block then cap else len) ∧
      x = (.slice ((List.range len).map D) ((List.range (m - len)).map fun j => D (len + j)), MemPlace.row a (m * fs.size) ++ (List.range m).flatMap Pl) ∧
      ∀ i, i < m → ∃ (ys : List (DataW H × List MemPlace)) (n : Nat), D i = .agg (ys.map (·.1)) ∧ Pl i = ys.flatMap (·.2) ∧ ys.length = fs.size ∧
        ∀ (j : Nat) (f : Field), fs[j]? = some f → ∃ (v : Value) (y : DataW H × List MemPlace), w.cell? (a.add (i * fs.size + j)) = some v ∧ ys[j]? = some y ∧ DataW.trod enc P w base spare held n f.type [v] = some y := by
  rcases open_slice ht h with h0 | ⟨a, len, cap, m, n, D, Pl, hcs, hb, hl, hm, hmm, hx, hi⟩
  · exact .inl h0
  · refine .inr ⟨a, len, cap, m, D, Pl, hcs, hb, hl, hm, hmm, by rw [hC] at hx; exact hx, fun i him => ?_⟩
    obtain ⟨cs', hc, ht'⟩ := hi i him
    rw [hC] at hc
    obtain ⟨ys, n', hn', hy, hlen, hyl, hf⟩ := DataW.trod_struct he ht'
    obtain ⟨_, hcl, hat⟩ := World.cells?_some hc
    simp only [Prod.mk.injEq] at hy
    refine ⟨ys, n', hy.1, hy.2, hyl, fun j f hj => ?_⟩
    obtain ⟨ho, hk⟩ := hone_of hone j f hj
    have hjl : j < fs.size := (Array.getElem?_eq_some_iff.1 hj).1
    have hcell := hat j hjl
    have hv : cs'[j]? = some (cs'[j]'(by omega)) := List.getElem?_eq_getElem (by omega)
    have h1 := hf j f hj
    rw [ho, hk] at h1
    have hone' : (cs'.drop j).take 1 = [cs'[j]'(by omega)] := by
      rw [List.drop_eq_getElem_cons (by omega)]
      rfl
    rw [hone'] at h1
    have hys : ys[j]? = some (ys[j]'(by omega)) := List.getElem?_eq_getElem (by omega)
    refine ⟨_, _, ?_, hys, h1.trans hys⟩
    rw [← Go.Deep.add_add, hcell, hv]
end

theorem list_of {α : Type} (p : Nat → α → Prop) : ∀ n : Nat, (∀ i, i < n → ∃ x, p i x) → ∃ l : List α, l.length = n ∧ ∀ i (h : i < l.length), p i l[i]
  | 0, _ => ⟨[], rfl, fun i h => absurd h (by simp)⟩
  | n + 1, h => by
    obtain ⟨l, hl, hp⟩ := list_of p n fun i hi => h i (by omega)
    obtain ⟨x, hx⟩ := h n (by omega)
    refine ⟨l ++ [x], by simp [hl], fun i hi => ?_⟩
    by_cases hil : i < l.length
    · rw [List.getElem_append_left hil]; exact hp i hil
    · have : i = n := by simp at hi; omega
      subst this
      rw [List.getElem_append_right (by omega)]
      simpa using hx

theorem wf_bd {a : Int} (h : (Lit.int .i64 a).wf = true) : -9223372036854775808 ≤ a ∧ a ≤ 9223372036854775807 := by
  simp [Lit.wf] at h
  exact h
section
variable {H : Type} {enc : TypeId × Value → H} {w : World} {base : Nat} {spare : Nat → Bool} {held : Bool}
set_option maxRecDepth 100000 in
theorem open_events {b0 : Nat} {r : Reach} {v : Value} {d : DataW H} {p : List MemPlace}
    (hv : Value.okWide Try.prog w r b0 25 v) (h : DataW.Trod enc Try.prog w base spare held 25 v d p) :
    ∃ (A : Option Addr) (c : Nat) (l : List Ev), v = .slice A l.length c ∧ CellsAt w A (evs l) ∧ (A = none → c = 0) := by
  obtain ⟨a0, len0, cap0, rfl⟩ := okWide_slice Try.underlying25 hv
  obtain ⟨fuel, hf⟩ := h
  rcases open_slice_fields Try.underlying25 Try.underlying35 (by kernel_rfl) (by kernel_rfl) hf with ⟨hc, _⟩ | ⟨a, len, cap, m, D, Pl, hc, hb, hl, hm, hmm, hx, hi⟩
  · simp only [Value.cells] at hc
    injection hc with hc _
    injection hc with e1 e2 e3
    subst e1 e2 e3
    exact ⟨none, 0, [], rfl, CellsAt.nil _ _, fun _ => rfl⟩
  · simp only [Value.cells] at hc
    injection hc with hc _
    injection hc with e1 e2 e3
    subst e1 e2 e3
    have hlm : len0 ≤ m := by rw [hmm]; split <;> omega
    obtain ⟨l, hll, hp⟩ := list_of (fun i (x : Ev) => ∀ j u, x.cs[j]? = some u → w.cell? (a.add (i * 7 + j)) = some u) len0 fun i hil => by
      obtain ⟨ys, n, _, _, hys, hf⟩ := hi i (by omega)
      have go : ∀ (j : Nat) (f : Field), f.type = 3 → ∀ v y, w.cell? (a.add (i * 7 + j)) = some v → DataW.trod enc Try.prog w base spare held n f.type [v] = some y → ∃ x : Int, w.cell? (a.add (i * 7 + j)) = some (.int .i64 x) := fun j f hft v y hc ht => by
        rw [hft] at ht
        obtain ⟨x, hx, _, _⟩ := DataW.trod_int Try.underlying3 ht
        injection hx with hx _
        exact ⟨x, by rw [hc, hx]⟩
      have gob : ∀ (j : Nat) (f : Field), f.type = 4 → ∀ v y, w.cell? (a.add (i * 7 + j)) = some v → DataW.trod enc Try.prog w base spare held n f.type [v] = some y → ∃ x : Bool, w.cell? (a.add (i * 7 + j)) = some (.bool x) := fun j f hft v y hc ht => by
        rw [hft] at ht
        obtain ⟨x, hx, _⟩ := DataW.trod_bool Try.underlying4 ht
        injection hx with hx _
        exact ⟨x, by rw [hc, hx]⟩
      obtain ⟨v0, y0, c0, _, t0⟩ := hf 0 _ rfl
      obtain ⟨v1, y1, c1, _, t1⟩ := hf 1 _ rfl
      obtain ⟨v2, y2, c2, _, t2⟩ := hf 2 _ rfl
      obtain ⟨v3, y3, c3, _, t3⟩ := hf 3 _ rfl
      obtain ⟨v4, y4, c4, _, t4⟩ := hf 4 _ rfl
      obtain ⟨v5, y5, c5, _, t5⟩ := hf 5 _ rfl
      obtain ⟨v6, y6, c6, _, t6⟩ := hf 6 _ rfl
      obtain ⟨x0, z0⟩ := go 0 _ rfl v0 y0 c0 t0
      obtain ⟨x1, z1⟩ := go 1 _ rfl v1 y1 c1 t1
      obtain ⟨x2, z2⟩ := go 2 _ rfl v2 y2 c2 t2
      obtain ⟨x3, z3⟩ := go 3 _ rfl v3 y3 c3 t3
      obtain ⟨x4, z4⟩ := go 4 _ rfl v4 y4 c4 t4
      obtain ⟨x5, z5⟩ := go 5 _ rfl v5 y5 c5 t5
      obtain ⟨x6, z6⟩ := gob 6 _ rfl v6 y6 c6 t6
      refine ⟨⟨x0, x1, x2, x3, x4, x5, x6⟩, fun j u hj => ?_⟩
      match j, hj with
      | 0, hj => rw [z0]; exact hj
      | 1, hj => rw [z1]; exact hj
      | 2, hj => rw [z2]; exact hj
      | 3, hj => rw [z3]; exact hj
      | 4, hj => rw [z4]; exact hj
      | 5, hj => rw [z5]; exact hj
      | 6, hj => rw [z6]; exact hj
      | j + 7, hj => simp [Ev.cs] at hj
    refine ⟨some a, cap0, l, by rw [hll], fun j u hj => ⟨a, rfl, ?_⟩, fun e => by cases e⟩
    have hlt : j < (evs l).length := (List.getElem?_eq_some_iff.1 hj).1
    rw [evs_len] at hlt
    have hk : j / 7 < l.length := by omega
    have e0 : j / 7 * 7 + j % 7 = j := by omega
    have g1 := evs_get l (j / 7) hk (j % 7) (by omega)
    rw [e0, hj] at g1
    have := hp (j / 7) hk (j % 7) u g1.symm
    rwa [e0] at this
theorem open_list {b0 : Nat} {r : Reach} {v : Value} {d : DataW H} {p : List MemPlace}
    (hv : Value.okWide Try.prog w r b0 26 v) (h : DataW.Trod enc Try.prog w base spare held 26 v d p) :
    ∃ (A : Option Addr) (c : Nat) (l : List Int), v = .slice A l.length c ∧ CellsAt w A (ints l) ∧ (∀ m ∈ l, (Lit.int .i64 m).wf = true) ∧ (A = none → c = 0) := by
  obtain ⟨a0, len0, cap0, rfl⟩ := okWide_slice Try.underlying26 hv
  obtain ⟨fuel, hf⟩ := h
  rcases open_ints Try.underlying26 Try.underlying3 (by kernel_rfl) hf with ⟨hc, _⟩ | ⟨a, len, cap, zs, hc, hb, hl, hm, hz, hx, hi, hw⟩
  · simp only [Value.cells] at hc
    injection hc with hc _
    injection hc with e1 e2 e3
    subst e1 e2 e3
    exact ⟨none, 0, [], rfl, CellsAt.nil _ _, fun _ h => absurd h (by simp), fun _ => rfl⟩
  · simp only [Value.cells] at hc
    injection hc with hc _
    injection hc with e1 e2 e3
    subst e1 e2 e3
    have hlz : len0 ≤ zs.length := by rw [hz]; split <;> omega
    have hll : (zs.take len0).length = len0 := by rw [List.length_take]; omega
    refine ⟨some a, cap0, zs.take len0, by rw [hll], fun j u hj => ⟨a, rfl, ?_⟩, fun m hm => hw m (List.mem_of_mem_take hm), fun e => by cases e⟩
    have hlt : j < (zs.take len0).length := by have := (List.getElem?_eq_some_iff.1 hj).1; rwa [ints_len] at this
    rw [ints_get _ j hlt] at hj
    have hjz : j < zs.length := by omega
    rw [← hj, List.getElem_take, hi j hjz]
    simp [List.getD, hjz]
end
end Go.Proofs.Ytkekhnohehhljaa
