/- Opening an argument that is a row of bytes. No condition. -/
import Derived.Test.YtoeipjhdpeibpaaGreatSAt
import Derived.ProofKit
import Derived.OpenShut
import Derived.Deep.Slices
import Derived.Deep.Fields
import Derived.ChangeSame
import Derived.ChangeSlices
import Derived.Lib.SmallJoins
namespace Go.Proofs.YtoeipjhdpeibpaaGreat
open Go.ChangeShapes Go.WideShapes Go.ChangeAt Go.RowKit Go.Deep

section
variable {H : Type} {enc : TypeId × Value → H} {w : World} {base : Nat} {spare : Nat → Bool} {held : Bool}
set_option maxRecDepth 100000 in
theorem open_bytes {b0 : Nat} {r : Reach} {v : Value} {d : DataW H} {p : List MemPlace}
    (hv : Value.okWide Tryz.prog w r b0 22 v) (h : DataW.Trod enc Tryz.prog w base spare held 22 v d p) :
    ∃ (A : Option Addr) (c : Nat) (l : List Int), v = .slice A l.length c ∧ BytesAt w A l ∧ isByte l ∧ (l.length ≤ c ∧ c ≤ maxLen) ∧ (A = none → c = 0) := by
  obtain ⟨a0, len0, cap0, rfl⟩ := okWide_slice Tryz.underlying22 hv
  obtain ⟨fuel, hf⟩ := h
  rcases open_ints Tryz.underlying22 Tryz.underlying5 (by kernel_rfl) hf with ⟨hc, _⟩ | ⟨a, len, cap, zs, hc, hb, hl, hm, hz, hx, hi, hw⟩
  · simp only [Value.cells] at hc
    injection hc with hc _
    injection hc with e1 e2 e3
    subst e1 e2 e3
    exact ⟨none, 0, [], rfl, fun k h => absurd h (by simp), fun x (hx : x ∈ []) => absurd hx (by simp), by simp [maxLen], fun _ => rfl⟩
  · simp only [Value.cells] at hc
    injection hc with hc _
    injection hc with e1 e2 e3
    subst e1 e2 e3
    have hlz : len0 ≤ zs.length := by rw [hz]; split <;> omega
    have hll : (zs.take len0).length = len0 := by rw [List.length_take]; omega
    refine ⟨some a, cap0, zs.take len0, by rw [hll], fun k hk => ⟨a, rfl, ?_⟩, fun b hb => ?_, ⟨by omega, hm⟩, fun e => by cases e⟩
    · rw [hll] at hk
      rw [hi k (by omega)]
      simp [List.getD]
      rw [List.getElem?_eq_getElem (by omega)]
      rfl
    · have := hw b (List.mem_of_mem_take hb)
      simp [Lit.wf] at this
      have h1 : IntKind.u8.min = 0 := rfl
      have h2 : IntKind.u8.max = 255 := rfl
      rw [h1, h2] at this
      omega
end
end Go.Proofs.YtoeipjhdpeibpaaGreat
