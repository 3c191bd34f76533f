/- The plain law of Fronts that hear the same in another order. No program in sight but the steps' words. -/
import Derived.Test.YthlejmpeigfdgaaFTwo
namespace Go.Proofs.Ythlejmpeigfdgaa
open Go.RowKit

def hears (s : List Fp) (l : List Stf) : List Fp := l.foldl (fun s x => hear s x.site x.v) s
theorem hears_snoc (s : List Fp) (l : List Stf) (x : Stf) : hears s (l ++ [x]) = hear (hears s l) x.site x.v := by unfold hears; rw [List.foldl_append]; rfl
theorem hears_ok (l : List Stf) : ∀ s, FsOk s → FsV s → FsOk (hears s l) ∧ FsV (hears s l) := by
  induction l with
  | nil => exact fun s h h' => ⟨h, h'⟩
  | cons x l ih => exact fun s h h' => ih _ (h.hear x.site x.v) (h'.hear x.site x.v)
/-- A step that is heard, by site m. -/
def Stf.tells (m : Int) (x : Stf) : Bool := decide (hearE x.site x.v = 0) && decide (x.site = m)
theorem rowF_hear (s : List Fp) (x : Stf) (m : Int) : rowF (hear s x.site x.v) m = if x.tells m = true then joinD (rowF s m) x.v else rowF s m := by
  unfold hear
  by_cases h : hearE x.site x.v = 0
  · rw [if_pos h, rowF_hearF]
    by_cases e : m = x.site
    · subst e; rw [if_pos rfl, if_pos (by simp [Stf.tells, h])]
    · rw [if_neg e, if_neg (by simp [Stf.tells, Ne.symm e])]
  · rw [if_neg h, if_neg (by simp [Stf.tells, h])]
theorem heardF_hear (s : List Fp) (x : Stf) (m : Int) : heardF (hear s x.site x.v) m = (x.tells m || heardF s m) := by
  unfold hear
  by_cases h : hearE x.site x.v = 0
  · rw [if_pos h, heardF_hearF]
    by_cases e : m = x.site
    · subst e; rw [if_pos rfl, show x.tells x.site = true by simp [Stf.tells, h], Bool.true_or]
    · rw [if_neg e, show x.tells m = false by simp [Stf.tells, Ne.symm e], Bool.false_or]
  · rw [if_neg h, show x.tells m = false by simp [Stf.tells, h], Bool.false_or]
theorem usableF_hear (s : List Fp) (x : Stf) (m : Int) : usableF (hear s x.site x.v) m = usableF s m := by
  unfold hear
  split
  · exact usableF_hearF ..
  · rfl
theorem hears_usable (m : Int) (l : List Stf) : ∀ s, usableF (hears s l) m = usableF s m := by
  induction l with
  | nil => exact fun _ => rfl
  | cons x l ih => exact fun s => (ih _).trans (usableF_hear s x m)
theorem hears_heard (m : Int) (l : List Stf) : ∀ s, heardF (hears s l) m = (l.any (Stf.tells m) || heardF s m) := by
  induction l with
  | nil => exact fun _ => rfl
  | cons x l ih =>
    intro s
    refine (ih _).trans ?_
    rw [heardF_hear, List.any_cons]
    cases x.tells m <;> simp
theorem says_join (l v : List Dt) : says (joinD l v) = maxR (says l) (says v) := says_vec ((Row.says l).maxR (Row.says v))
theorem hears_covers (T : List Int) (m : Int) (l : List Stf) : ∀ s, coversR T (says (rowF (hears s l) m)) = (l.all (fun x => !x.tells m || coversR T (says x.v)) && coversR T (says (rowF s m))) := by
  induction l with
  | nil => exact fun _ => rfl
  | cons x l ih =>
    intro s
    refine (ih _).trans ?_
    rw [rowF_hear, List.all_cons]
    cases h : x.tells m with
    | false => simp
    | true =>
      rw [if_pos rfl, says_join, cov_of_max]
      simp only [Bool.not_true, Bool.false_or]
      cases coversR T (says (rowF s m)) <;> cases coversR T (says x.v) <;> cases l.all (fun x => !x.tells m || coversR T (says x.v)) <;> rfl
theorem cov_row0 (l : List Dt) : coversR (says l) row0 = true := (covers_iff _ _).2 fun i _ => by rw [rg_row0]; exact ((Row.says l).bd i).1
theorem hears_le {xs ys : List Stf} (h : ∀ x ∈ xs, x ∈ ys) (m : Int) : coversR (says (rowF (hears [] ys) m)) (says (rowF (hears [] xs) m)) = true := by
  rw [hears_covers]
  have h0 : says (rowF ([] : List Fp) m) = row0 := rfl
  rw [h0, cov_row0, Bool.and_true, List.all_eq_true]
  intro x hx
  have h1 := hears_covers (says (rowF (hears [] ys) m)) m ys []
  rw [cov_refl, h0, cov_row0, Bool.and_true] at h1
  exact List.all_eq_true.1 h1.symm x (h x hx)
theorem hears_same {xs ys : List Stf} (h : ∀ x ∈ xs, x ∈ ys) (h' : ∀ y ∈ ys, y ∈ xs) (m : Int) : rowF (hears [] xs) m = rowF (hears [] ys) m ∧ heardF (hears [] xs) m = heardF (hears [] ys) m := by
  have e : says (rowF (hears [] xs) m) = says (rowF (hears [] ys) m) := cov_anti (Row.says _) (Row.says _) (hears_le h' m) (hears_le h m)
  have hx := (hears_ok xs [] FsOk.nil FsV.nil).2.row m
  have hy := (hears_ok ys [] FsOk.nil FsV.nil).2.row m
  refine ⟨by rw [← vec_says hx, ← vec_says hy, e], ?_⟩
  rw [hears_heard, hears_heard]
  congr 1
  rw [Bool.eq_iff_iff, List.any_eq_true, List.any_eq_true]
  exact ⟨fun ⟨x, hx, ht⟩ => ⟨x, h x hx, ht⟩, fun ⟨x, hx, ht⟩ => ⟨x, h' x hx, ht⟩⟩
/-- What is told of site m behind a settling. -/
theorem settle_tells {s t : List Fp} {own : List Dt} {m : Int} (h1 : rowF s m = rowF t m) (h2 : heardF s m = heardF t m) (h3 : usableF s m = usableF t m) :
    rowF (settle s own) m = rowF (settle t own) m ∧ heardF (settle s own) m = heardF (settle t own) m ∧ usableF (settle s own) m = usableF (settle t own) m := by
  unfold settle
  split
  · rw [rowF_settled, rowF_settled, heardF_settled, heardF_settled, usableF_settled, usableF_settled, h1, h2, h3]
    exact ⟨rfl, rfl, rfl⟩
  · exact ⟨h1, h2, h3⟩
theorem order_tells {xs ys : List Stf} (h : ∀ x ∈ xs, x ∈ ys) (h' : ∀ y ∈ ys, y ∈ xs) (own : List Dt) (m : Int) :
    rowF (settle (hears [] xs) own) m = rowF (settle (hears [] ys) own) m ∧ heardF (settle (hears [] xs) own) m = heardF (settle (hears [] ys) own) m ∧ usableF (settle (hears [] xs) own) m = usableF (settle (hears [] ys) own) m :=
  settle_tells (hears_same h h' m).1 (hears_same h h' m).2 (by rw [hears_usable, hears_usable])
end Go.Proofs.Ythlejmpeigfdgaa
