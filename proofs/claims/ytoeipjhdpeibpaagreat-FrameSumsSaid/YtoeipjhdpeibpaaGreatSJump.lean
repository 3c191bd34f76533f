/- A law: a scope with several labels: what holds at each jump, and a measure that falls from jump to jump. After the library's wp_scope_jumps (one label). No program in sight. -/
import Derived.ScopeJumps
import Derived.WalkMore
namespace Go.Proofs.YtoeipjhdpeibpaaGreat
open Go

/-- As Q; by a goto to a label l: J l. -/
def jumps (J : Nat → Act → World → Prop) (Q : Exit → Act → World → Prop) : Exit → Act → World → Prop
  | .goto l, a, w => J l a w
  | e, a, w => Q e a w
theorem jumps_imp {J J' : Nat → Act → World → Prop} {Q : Exit → Act → World → Prop} (h : ∀ l a w, J l a w → J' l a w) : ∀ (e : Exit) (a : Act) (w : World), jumps J Q e a w → jumps J' Q e a w := fun e a w hj => by
  cases e <;> first | exact h _ _ _ hj | exact hj

theorem wp_scope_labels {P : Program} {a : Act} {w : World} {Q : Exit → Act → World → Prop} {c : Code} (J : Nat → Act → World → Prop) (μ : Nat → Act → World → Nat)
    (hJ : ∀ l a w, J l a w → ∃ r, findLabel c l = some r)
    (first : c.wp P (jumps J Q) a w)
    (pass : ∀ l r a w, findLabel c l = some r → J l a w → r.wp P (jumps (fun l' a' w' => J l' a' w' ∧ μ l' a' w' < μ l a w) Q) a w) : (Code.scope c).wp P Q a w := by
  intro b k cs
  have hg : ∀ l r, findLabel c l = some r → gotoIn l (.inScope c :: k) = some (.code r :: .inScope c :: k) := fun l r h => by simp [gotoIn, h]
  have key : ∀ n l r a w, μ l a w = n → findLabel c l = some r → J l a w → ∃ e a' w', Q e a' w' ∧ Arrives P (lone (b.at a (.code r :: .inScope c :: k)) cs w) b k cs e a' w' := by
    intro n
    induction n using Nat.strongRecOn with
    | _ n ih =>
      intro l r a w hn hf hj
      obtain ⟨e, a₁, w₁, hq, harr⟩ := pass l r a w hf hj b (.inScope c :: k) cs
      cases e with
      | normal => exact ⟨.normal, a₁, w₁, hq, Steps.trans harr (.one step_inScope)⟩
      | exit id => exact ⟨.exit id, a₁, w₁, hq, fun k' hk => harr k' (by simp [exitTo, hk])⟩
      | goto l' =>
        obtain ⟨hj', hlt⟩ := hq
        obtain ⟨r', hf'⟩ := hJ l' a₁ w₁ hj'
        obtain ⟨e₂, a₂, w₂, hq₂, harr₂⟩ := ih _ (by omega) l' r' a₁ w₁ rfl hf' hj'
        exact ⟨e₂, a₂, w₂, hq₂, .of_steps (harr _ (hg l' r' hf')) harr₂⟩
      | ret => exact ⟨_, a₁, w₁, hq, harr⟩
      | panic ch => exact ⟨_, a₁, w₁, hq, harr⟩
      | outgrown => exact ⟨_, a₁, w₁, hq, harr⟩
  obtain ⟨e, a₁, w₁, hq, harr⟩ := first b (.inScope c :: k) cs
  cases e with
  | normal => exact ⟨.normal, a₁, w₁, hq, .head step_scope (Steps.trans harr (.one step_inScope))⟩
  | exit id => exact ⟨.exit id, a₁, w₁, hq, fun k' hk => .head step_scope (harr k' (by simp [exitTo, hk]))⟩
  | goto l' =>
    obtain ⟨r', hf'⟩ := hJ l' a₁ w₁ hq
    obtain ⟨e₂, a₂, w₂, hq₂, harr₂⟩ := key _ l' r' a₁ w₁ rfl hf' hq
    exact ⟨e₂, a₂, w₂, hq₂, .of_steps (.head step_scope (harr _ (hg l' r' hf'))) harr₂⟩
  | ret => exact ⟨_, a₁, w₁, hq, .of_steps (.one step_scope) harr⟩
  | panic ch => exact ⟨_, a₁, w₁, hq, .of_steps (.one step_scope) harr⟩
  | outgrown => exact ⟨_, a₁, w₁, hq, .of_steps (.one step_scope) harr⟩
/-- Two labels: l1, to which the run jumps back; l0, at the end. What runs from l1 on may be leant on by the first way too. -/
theorem wp_scope_two {P : Program} {a : Act} {w : World} {Q : Exit → Act → World → Prop} {c : Code} (l1 l0 : Nat) (hne : l0 ≠ l1) (r1 r0 : Code) (h1 : findLabel c l1 = some (Code.skip.seq r1)) (h0 : findLabel c l0 = some r0)
    (J1 J0 : Act → World → Prop) (μ : Act → World → Nat)
    (pass1 : ∀ a w, J1 a w → r1.wp P (jumps (fun l a' w' => (l = l1 ∧ J1 a' w' ∧ μ a' w' < μ a w) ∨ (l = l0 ∧ J0 a' w')) Q) a w)
    (pass0 : ∀ a w, J0 a w → r0.wp P (jumps (fun _ _ _ => False) Q) a w)
    (first : (∀ a w, J1 a w → r1.wp P (jumps (fun l a' w' => (l = l1 ∧ J1 a' w') ∨ (l = l0 ∧ J0 a' w')) Q) a w) → c.wp P (jumps (fun l a' w' => (l = l1 ∧ J1 a' w') ∨ (l = l0 ∧ J0 a' w')) Q) a w) :
    (Code.scope c).wp P Q a w := by
  refine wp_scope_labels (fun l a' w' => (l = l1 ∧ J1 a' w') ∨ (l = l0 ∧ J0 a' w')) (fun l a w => if l = l1 then μ a w + 1 else 0) ?_ ?_ ?_
  · rintro l a w (⟨rfl, _⟩ | ⟨rfl, _⟩)
    · exact ⟨_, h1⟩
    · exact ⟨_, h0⟩
  · exact first fun a w hj => Code.wp_mono (jumps_imp fun l a' w' h => h.imp (fun h => ⟨h.1, h.2.1⟩) id) (pass1 a w hj)
  · rintro l r a w hf (⟨rfl, hj⟩ | ⟨rfl, hj⟩)
    · rw [h1] at hf
      injection hf with hf
      subst hf
      refine wp_seq (wp_skip (Code.wp_mono (jumps_imp fun l' a' w' h => ?_) (pass1 a w hj)))
      rcases h with ⟨rfl, hj', hlt⟩ | ⟨rfl, hj'⟩
      · exact ⟨.inl ⟨rfl, hj'⟩, by simp; exact hlt⟩
      · exact ⟨.inr ⟨rfl, hj'⟩, by simp [hne]⟩
    · rw [h0] at hf
      injection hf with hf
      subst hf
      exact Code.wp_mono (jumps_imp fun _ _ _ h => h.elim) (pass0 a w hj)
end Go.Proofs.YtoeipjhdpeibpaaGreat
