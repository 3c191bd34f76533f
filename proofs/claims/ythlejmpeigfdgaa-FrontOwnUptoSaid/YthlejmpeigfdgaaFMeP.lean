/- The plain law of what a Front's rows and its frontier mean. No program in sight. -/
import Derived.Test.YthlejmpeigfdgaaFDo
namespace Go.Proofs.Ythlejmpeigfdgaa
open Go.RowKit

/-- The rows cover what counts of them. -/
def FsC (s : List Fp) : Prop := ∀ m, coversR (says (rowF s m)) (says (usableF s m)) = true
theorem FsC.nil : FsC [] := fun _ => cov_row0 []
theorem FsC.hear {s : List Fp} (h : FsC s) (n : Int) (v : List Dt) : FsC (hear s n v) := by
  unfold Go.Proofs.Ythlejmpeigfdgaa.hear
  split
  · intro m
    rw [rowF_hearF, usableF_hearF]
    by_cases e : m = n
    · rw [if_pos e, says_join, e]
      exact cov_trans cov_max_l (h n)
    · rw [if_neg e]
      exact h m
  · exact h
theorem FsC.settle {s : List Fp} (h : FsC s) (v : List Dt) : FsC (settle s v) := by
  unfold Go.Proofs.Ythlejmpeigfdgaa.settle
  split
  · intro m
    rw [rowF_settled, usableF_settled]
    split
    · exact cov_refl
    · exact h m
  · exact h
theorem FsC.step {s : List Fp} (h : FsC s) (y : Stf) : FsC (stepF s y) := by
  unfold stepF
  split
  · exact h.hear y.site y.v
  · split
    · exact h.settle y.v
    · exact h
theorem FsV.step {s : List Fp} (h : FsV s) (y : Stf) : FsV (stepF s y) := by
  unfold stepF
  split
  · exact h.hear y.site y.v
  · split
    · exact h.settle y.v
    · exact h
theorem FsOk.step {s : List Fp} (h : FsOk s) (y : Stf) : FsOk (stepF s y) := by
  unfold stepF
  split
  · exact h.hear y.site y.v
  · split
    · exact h.settle y.v
    · exact h
theorem usable_hear (s : List Fp) (n : Int) (v : List Dt) (m : Int) : usableF (hear s n v) m = usableF s m := by
  unfold hear
  split
  · exact usableF_hearF ..
  · rfl
theorem step_covers {s : List Fp} (h : FsC s) (y : Stf) (m : Int) : coversR (says (usableF (stepF s y) m)) (says (usableF s m)) = true := by
  unfold stepF
  split
  · rw [usable_hear]; exact cov_refl
  · split
    · unfold settle
      split
      · rw [usableF_settled]
        split
        · exact h m
        · exact cov_refl
      · exact cov_refl
    · exact cov_refl
theorem step_turned {s : List Fp} {y : Stf} {m : Int} (h : usableF (stepF s y) m ≠ usableF s m) : y.kind = 2 ∧ usableF (stepF s y) m = rowF (stepF s y) m ∧ coversR (says y.v) (says (usableF (stepF s y) m)) = true := by
  by_cases h1 : y.kind = 1
  · rw [stepF_one h1, usable_hear] at h; exact absurd rfl h
  · by_cases h2 : y.kind = 2
    · rw [stepF_two h2] at h ⊢
      refine ⟨h2, ?_⟩
      unfold settle at h ⊢
      split at h
      · rename_i hv
        rw [if_pos hv]
        rw [usableF_settled] at h ⊢
        rw [rowF_settled]
        split at h
        · rename_i hc
          rw [if_pos hc]
          exact ⟨rfl, hc.2⟩
        · exact absurd rfl h
      · exact absurd rfl h
    · rw [stepF_other (by omega)] at h; exact absurd rfl h
theorem step_settles {s : List Fp} {y : Stf} {m : Int} (h2 : y.kind = 2) (hv : checkV y.v = 0) (hh : heardF (stepF s y) m = true) (hc : coversR (says y.v) (says (rowF (stepF s y) m)) = true) : usableF (stepF s y) m = rowF (stepF s y) m := by
  rw [stepF_two h2] at hh hc ⊢
  unfold settle at hh hc ⊢
  rw [if_pos hv] at hh hc ⊢
  rw [heardF_settled] at hh
  rw [rowF_settled] at hc
  rw [usableF_settled, rowF_settled, if_pos ⟨hh, hc⟩]

section
variable {s : List Fp} {own : List Dt} {self : Int}
theorem says_least (v u : List Dt) : says (leastD v u) = minR (says v) (says u) := says_vec ((Row.says v).minR (Row.says u))
theorem frontC (ho : checkV own = 0) (ms : List Int) : checkV (frontF s own self ms) = 0 := by
  induction ms generalizing own with
  | nil => exact ho
  | cons m ms ih =>
    refine ih (own := frontS s self own m) ?_
    unfold frontS
    split
    · exact ho
    · exact check_vec ((Row.says own).minR (Row.says _))
theorem frontF_cov (r : List Int) (ms : List Int) : coversR (says (frontF s own self ms)) r = (coversR (says own) r && ms.all fun m => decide (m = self) || coversR (says (usableF s m)) r) := by
  induction ms generalizing own with
  | nil => exact (Bool.and_true _).symm
  | cons m ms ih =>
    refine (ih (own := frontS s self own m)).trans ?_
    rw [List.all_cons]
    unfold frontS
    by_cases e : m = self
    · rw [if_pos e, decide_eq_true e, Bool.true_or, Bool.true_and]
    · rw [if_neg e, decide_eq_false e, Bool.false_or, says_least, min_of_cov, Bool.and_assoc]
theorem frontF_more {ms ns : List Int} (h : ∀ m ∈ ms, m ∈ ns) : coversR (says (frontF s own self ms)) (says (frontF s own self ns)) = true := by
  have h1 := frontF_cov (s := s) (own := own) (self := self) (says (frontF s own self ns)) ns
  rw [cov_refl] at h1
  have h2 := h1.symm
  rw [Bool.and_eq_true, List.all_eq_true] at h2
  rw [frontF_cov, Bool.and_eq_true, List.all_eq_true]
  exact ⟨h2.1, fun m hm => h2.2 m (h m hm)⟩
theorem frontF_own (ms : List Int) : coversR (says own) (says (frontF s own self ms)) = true := frontF_more (ms := []) (fun _ h => by cases h)
theorem frontF_same (ho : checkV own = 0) {ms ns : List Int} (h : ∀ m ∈ ms, m ∈ ns) (h' : ∀ m ∈ ns, m ∈ ms) : frontF s own self ms = frontF s own self ns := by
  rw [← vec_says (frontC ho ms), ← vec_says (frontC (s := s) (self := self) ho ns), cov_anti (Row.says _) (Row.says _) (frontF_more h) (frontF_more h')]
theorem least_self {ms : List Int} {k : Nat} (h : k < ms.length) (e : ms[k] = self) (n : Nat) : rg (says (frontF s own self (ms.take (k + 1)))) n = rg (says (frontF s own self (ms.take k))) n := by
  rw [frontF_succ h]
  unfold frontS
  rw [if_pos e]
theorem least_other {ms : List Int} {k : Nat} (h : k < ms.length) (e : ms[k] ≠ self) {n : Nat} (hn : n < 17) : rg (says (frontF s own self (ms.take (k + 1)))) n = min (rg (says (frontF s own self (ms.take k))) n) (rg (says (usableF s ms[k])) n) := by
  rw [frontF_succ h]
  unfold frontS
  rw [if_neg e, says_least, rg_min _ _ hn]
end
/-- The members backwards, each twice. -/
def dup (l : List Int) : List Int := l.flatMap fun m => [m, m]
theorem mem_dup {l : List Int} {m : Int} : m ∈ dup l ↔ m ∈ l := by
  unfold dup
  rw [List.mem_flatMap]
  constructor
  · rintro ⟨a, ha, hm⟩
    simp at hm
    exact hm ▸ ha
  · exact fun h => ⟨m, h, by simp⟩
theorem dup_len (l : List Int) : (dup l).length = 2 * l.length := by
  induction l with
  | nil => rfl
  | cons a l ih => simp only [dup, List.flatMap_cons, List.length_append, List.length_cons, List.length_nil] at ih ⊢; omega
theorem dup_back {l : List Int} {k : Nat} (h : k < l.length) : dup (l.drop k).reverse = dup (l.drop (k + 1)).reverse ++ [l[k], l[k]] := by
  rw [List.drop_eq_getElem_cons h, List.reverse_cons]
  simp [dup]
end Go.Proofs.Ythlejmpeigfdgaa
