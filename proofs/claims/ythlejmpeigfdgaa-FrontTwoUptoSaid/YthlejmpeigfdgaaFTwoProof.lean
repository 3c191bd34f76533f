/- FrontTwo returns true for any two scripts, and leaves what was there as it was. Condition: the arguments are together of bulk at most the number in the Rows text. -/
import Derived.Test.YthlejmpeigfdgaaShut
import Derived.Test.YthlejmpeigfdgaaFOpn
import Derived.Test.YthlejmpeigfdgaaFTwo
import Derived.JoinedCond
namespace Go.Proofs.Ythlejmpeigfdgaa.frontTwo
open Go.ChangeShapes Go.WideShapes Go.ChangeAt Go.RowKit

set_option maxRecDepth 100000 in
theorem contract (H : Type) (enc : TypeId × Value → H) (W : World) (base : Nat) (args : Array Value) (ds gs : List (DataW H)) (before : List MemPlace)
    (hval : ∀ (j : Nat) t v, Try.f4.params[j]? = some t → args[j]? = some v → Value.okWide Try.prog W .any base t v)
    (hW : DataW.Whole enc Try.prog Try.f4.params.toList Rows.frontTwoSpec.vars false W args.toList ds gs before) (hk : Rows.uptoSmall H (ds ++ gs) = true) :
    Calls Try.prog 4 args W fun e W' => ∃ v, e = .returned v ∧ Rows.frontTwoSpec.post enc Try.prog Try.f4 false true false false W args v W' := by
  have hW' := hW
  have hbk := bulk_of hk
  obtain ⟨p, q, hA0, hV, rfl, hfz, hnd⟩ := hW
  have hA : DataW.TrodAll enc Try.prog W 0 (fun _ => true) true Try.f4.params.toList args.toList ds p := hA0
  rw [Try.params4] at hA hval
  obtain ⟨v0, vs0, d0, ds0, p0, q0, hargs, rfl, rfl, h0, r0⟩ := trodAll_cons hA
  obtain ⟨v1, vs1, d1, ds1, p1, q1, rfl, rfl, rfl, h1, r1⟩ := trodAll_cons r0
  obtain ⟨rfl, rfl, rfl⟩ := trodAll_nil r1
  obtain rfl : args = #[v0, v1] := by cases args; simp_all
  have hb0 := hbk d0 (by simp)
  obtain ⟨A0, c0, l, rfl, hs0, hl0⟩ := open_stfs (hval 0 22 v0 rfl rfl) h0
  have hb1 := hbk d1 (by simp)
  obtain ⟨A1, c1, m, rfl, hs1, hl1⟩ := open_stfs (hval 1 22 v1 rfl rfl) h1
  refine (Two_walk A0 A1 c0 c1 l m W hs0 hs1 (by omega) (by omega)).mono fun e W' ⟨he, hk⟩ => ?_
  subst he
  exact ⟨_, rfl, law_post hW' rfl laidOut (by kernel_rfl) rfl Try.underlying4 rfl (hk.below (Nat.le_refl _) fun _ h => h.elim)⟩

set_option maxRecDepth 100000 in
theorem lifted (os : Os) (started : os.Started) (H : Type) (enc : TypeId × Value → H) (F : Stop.Interp) :
    ReturnsInHanded {} Try.checked os 4 .any ((Rows.OpenSpec.upto Rows.frontTwoSpec).pre6 enc Try.prog Try.f4 Rows.frontTwoUptoRow.domain false) (((Rows.OpenSpec.upto Rows.frontTwoSpec).at F).post enc Try.prog Try.f4 false true false false) := by
  refine returnsInHanded_of_cond (C := Try.checked) (s := Rows.OpenSpec.upto Rows.frontTwoSpec) (k := Rows.uptoSmall) rfl own started (by kernel_rfl) Try.func4
    (OpenSpec.witness (enc := enc) (C := Try.checked) (s := Rows.OpenSpec.upto Rows.frontTwoSpec) (k := Rows.uptoSmall) rfl false ⟨#[], #[.slice none 0 0, .slice none 0 0], []⟩ 8 (by kernel_rfl) (by kernel_rfl) (by kernel_rfl)
      (x := ([.nil, .nil], [], [])) (by kernel_rfl) rfl (by kernel_rfl)) ?_
  intro W base args ds gs before hval hW _ hk _
  exact contract H enc W base args ds gs before hval hW hk

theorem proved : Rows.FrontTwoUptoSaid :=
  OpenClaim.holds_of_cond 4 Try.f4 rfl rfl rfl rfl rfl rfl rfl ⟨rfl, rfl, rfl, rfl, rfl⟩ rfl rfl rfl rfl rfl (by kernel_rfl) Try.func4 (by kernel_rfl)
    (of_decide_eq_true (by kernel_rfl)) (by unfold Func.isWrapper; first | (rw [if_pos (by decide +kernel)]; kernel_rfl) | (rw [if_neg (by decide +kernel)]; exact ⟨rfl, rfl⟩))
    (fun os started H enc _ F => lifted os started H enc F)
#print axioms proved
end Go.Proofs.Ythlejmpeigfdgaa.frontTwo
