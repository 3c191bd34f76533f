/- What the reference's Fronts hold, as data: each site's row, what of it counts, whether it was heard of. No program in sight. -/
import Derived.Test.YthlejmpeigfdgaaFLaw
namespace Go.Proofs.Ythlejmpeigfdgaa
open Go.RowKit

def heardF (s : List Fp) (n : Int) : Bool := (getF s n).isSome
theorem getF_map {s : List Fp} {f : Fp → Fp} (hf : ∀ x, (f x).site = x.site) (m : Int) : getF (s.map f) m = (getF s m).map f := by
  unfold getF
  rw [List.find?_map]
  congr 1
  congr 1
  funext x
  show decide ((f x).site = m) = decide (x.site = m)
  rw [hf]
theorem getF_hearF_none {s : List Fp} {n : Int} {v : List Dt} (h : getF s n = none) (m : Int) : getF (hearF s n v) m = if m = n then some ⟨n, joinD [] v, []⟩ else getF s m := by
  unfold hearF
  rw [h]
  show List.find? (Fp.is m) (s ++ _) = _
  rw [List.find?_append]
  by_cases hm : m = n
  · subst hm
    rw [if_pos rfl, show List.find? (Fp.is m) s = none from h]
    simp [Fp.is]
  · rw [if_neg hm]
    have : List.find? (Fp.is m) [(⟨n, joinD [] v, []⟩ : Fp)] = none := by simp [Fp.is, Ne.symm hm]
    rw [this, Option.or_none]
    rfl
theorem getF_hearF_some {s : List Fp} {n : Int} {v : List Dt} {x : Fp} (h : getF s n = some x) (m : Int) : getF (hearF s n v) m = if m = n then some { x with a := joinD x.a v } else getF s m := by
  unfold hearF
  rw [h]
  show getF (putF s n _) m = _
  unfold putF
  rw [getF_map (f := fun x => if x.is n = true then { x with a := joinD x.a v } else x) (fun x => by split <;> rfl)]
  by_cases hm : m = n
  · subst hm
    rw [h, if_pos rfl]
    show some (if x.is m = true then _ else _) = _
    rw [if_pos (by simp [Fp.is, (getF_mem h).2])]
  · rw [if_neg hm]
    cases hg : getF s m with
    | none => rfl
    | some y =>
      show some (if y.is n = true then _ else _) = _
      rw [if_neg (by simp [Fp.is, (getF_mem hg).2, hm])]
theorem rowF_hearF (s : List Fp) (n : Int) (v : List Dt) (m : Int) : rowF (hearF s n v) m = if m = n then joinD (rowF s n) v else rowF s m := by
  unfold rowF
  by_cases e : m = n
  · subst e
    rw [if_pos rfl]
    cases h : getF s m with
    | none => rw [getF_hearF_none h, if_pos rfl]
    | some x => rw [getF_hearF_some h, if_pos rfl]
  · rw [if_neg e]
    cases h : getF s n with
    | none => rw [getF_hearF_none h, if_neg e]
    | some x => rw [getF_hearF_some h, if_neg e]
theorem usableF_hearF (s : List Fp) (n : Int) (v : List Dt) (m : Int) : usableF (hearF s n v) m = usableF s m := by
  unfold usableF
  by_cases e : m = n
  · subst e
    cases h : getF s m with
    | none => rw [getF_hearF_none h, if_pos rfl]
    | some x => rw [getF_hearF_some h, if_pos rfl]
  · cases h : getF s n with
    | none => rw [getF_hearF_none h, if_neg e]
    | some x => rw [getF_hearF_some h, if_neg e]
theorem heardF_hearF (s : List Fp) (n : Int) (v : List Dt) (m : Int) : heardF (hearF s n v) m = if m = n then true else heardF s m := by
  unfold heardF
  by_cases e : m = n
  · subst e
    rw [if_pos rfl]
    cases h : getF s m with
    | none => rw [getF_hearF_none h, if_pos rfl]; rfl
    | some x => rw [getF_hearF_some h, if_pos rfl]; rfl
  · rw [if_neg e]
    cases h : getF s n with
    | none => rw [getF_hearF_none h, if_neg e]
    | some x => rw [getF_hearF_some h, if_neg e]
theorem rowF_settled (s : List Fp) (own : List Dt) (m : Int) : rowF (s.map (Fp.settled own)) m = rowF s m := by
  unfold rowF
  rw [getF_map (Fp.settled_site own)]
  cases getF s m with
  | none => rfl
  | some x => show (x.settled own).a = x.a; unfold Fp.settled; split <;> rfl
theorem heardF_settled (s : List Fp) (own : List Dt) (m : Int) : heardF (s.map (Fp.settled own)) m = heardF s m := by
  unfold heardF
  rw [getF_map (Fp.settled_site own)]
  cases getF s m <;> rfl
theorem usableF_settled (s : List Fp) (own : List Dt) (m : Int) : usableF (s.map (Fp.settled own)) m = if heardF s m = true ∧ coversR (says own) (says (rowF s m)) = true then rowF s m else usableF s m := by
  unfold usableF heardF rowF
  rw [getF_map (Fp.settled_site own)]
  cases getF s m with
  | none => rw [if_neg (by simp)]; rfl
  | some x =>
    show (x.settled own).b = if true = true ∧ coversR (says own) (says x.a) = true then x.a else x.b
    unfold Fp.settled
    by_cases h : coversR (says own) (says x.a) = true
    · rw [if_pos h, if_pos ⟨rfl, h⟩]
    · rw [if_neg h, if_neg fun e => h e.2]
/-- The rows and what counts of them are vectors. -/
def FsV (s : List Fp) : Prop := ∀ x ∈ s, checkV x.a = 0 ∧ checkV x.b = 0
theorem FsV.nil : FsV [] := fun x hx => absurd hx (by simp)
theorem check_join (l v : List Dt) : checkV (joinD l v) = 0 := check_vec ((Row.says l).maxR (Row.says v))
theorem FsV.map {s : List Fp} (h : FsV s) {f : Fp → Fp} (hl : ∀ x, checkV x.a = 0 ∧ checkV x.b = 0 → checkV (f x).a = 0 ∧ checkV (f x).b = 0) : FsV (s.map f) := fun x hx => by
  obtain ⟨y, hy, rfl⟩ := List.mem_map.1 hx
  exact hl y (h y hy)
theorem FsV.hearF {s : List Fp} (h : FsV s) (n : Int) (v : List Dt) : FsV (hearF s n v) := by
  unfold Go.Proofs.Ythlejmpeigfdgaa.hearF
  cases hg : getF s n with
  | none =>
    intro x hx
    rcases List.mem_append.1 hx with hx | hx
    · exact h x hx
    · rw [List.mem_singleton] at hx; subst hx; exact ⟨check_join _ _, rfl⟩
  | some x => exact h.map fun x hx => by split; exact ⟨check_join _ _, hx.2⟩; exact hx
theorem FsV.hear {s : List Fp} (h : FsV s) (n : Int) (v : List Dt) : FsV (hear s n v) := by
  unfold Go.Proofs.Ythlejmpeigfdgaa.hear
  split
  · exact h.hearF n v
  · exact h
theorem FsV.settle {s : List Fp} (h : FsV s) (own : List Dt) : FsV (settle s own) := by
  unfold Go.Proofs.Ythlejmpeigfdgaa.settle
  split
  · exact h.map fun x hx => by unfold Fp.settled; split; exact ⟨hx.1, hx.1⟩; exact hx
  · exact h
theorem FsV.row {s : List Fp} (h : FsV s) (m : Int) : checkV (rowF s m) = 0 := by
  unfold rowF
  cases hg : getF s m with
  | none => rfl
  | some x => exact (h x (getF_mem hg).1).1
theorem FsV.usable {s : List Fp} (h : FsV s) (m : Int) : checkV (usableF s m) = 0 := by
  unfold usableF
  cases hg : getF s m with
  | none => rfl
  | some x => exact (h x (getF_mem hg).1).2
theorem merge_nil {l : List Dt} (h : checkV l = 0) : vec (maxR (says l) (says [])) = l := by
  rw [show says [] = row0 from rfl, max_row0 (Row.says l), vec_says h]
theorem getF_site {s : List Fp} (h : FsOk s) {m : Int} (hm : ¬ (1 ≤ m ∧ m ≤ 16)) : getF s m = none := by
  cases hg : getF s m with
  | none => rfl
  | some x =>
    obtain ⟨hx, rfl⟩ := getF_mem hg
    exact absurd (h.site x hx) hm
theorem heardF_site {s : List Fp} (h : FsOk s) {m : Int} (hm : ¬ (1 ≤ m ∧ m ≤ 16)) : heardF s m = false := by unfold heardF; rw [getF_site h hm]; rfl
theorem rowF_no {s : List Fp} {m : Int} (h : heardF s m = false) : rowF s m = [] := by
  unfold heardF at h
  unfold rowF
  cases hg : getF s m with
  | none => rfl
  | some x => rw [hg] at h; cases h
theorem usableF_no {s : List Fp} {m : Int} (h : heardF s m = false) : usableF s m = [] := by
  unfold heardF at h
  unfold usableF
  cases hg : getF s m with
  | none => rfl
  | some x => rw [hg] at h; cases h
end Go.Proofs.Ythlejmpeigfdgaa
