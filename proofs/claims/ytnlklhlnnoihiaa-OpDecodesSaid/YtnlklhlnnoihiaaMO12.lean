/- Opening an argument that is a Dot, a run, bytes. No condition. · The walks of the reference's Covers, Merge, Least. Conditions: the Dots lie in memory as DotsAt says. -/
import Derived.Test.YtnlklhlnnoihiaaMO10
import Derived.Test.YtnlklhlnnoihiaaMO11
import Derived.Test.YtnlklhlnnoihiaaMO9
namespace Go.Proofs.Ytnlklhlnnoihiaa
open Go.ChangeShapes Go.WideShapes Go.ChangeAt Go.RowKit Go.Deep

section
variable {H : Type} {enc : TypeId × Value → H} {w : World} {base : Nat} {spare : Nat → Bool} {held : Bool}
set_option maxRecDepth 100000 in
theorem open_dot {b0 : Nat} {r : Reach} {v : Value} {d : DataW H} {p : List MemPlace}
    (hv : Value.okWide Try.prog w r b0 23 v) (h : DataW.Trod enc Try.prog w base spare held 23 v d p) : ∃ x : Dt, v = .agg #[.int .i64 x.site, .int .i64 x.seq] := by
  obtain ⟨cs, rfl, hsz⟩ := okWide_struct Try.underlying23 hv
  obtain ⟨fuel, hf⟩ := h
  obtain ⟨x, hx⟩ := trod_dot hf
  refine ⟨x, ?_⟩
  have : cs.toList = (#[.int .i64 x.site, .int .i64 x.seq] : Array Value).toList := hx
  rw [Array.toList_inj.1 this]
set_option maxRecDepth 100000 in
theorem open_run {b0 : Nat} {r : Reach} {v : Value} {d : DataW H} {p : List MemPlace}
    (hv : Value.okWide Try.prog w r b0 32 v) (h : DataW.Trod enc Try.prog w base spare held 32 v d p) : ∃ x : Rn, v = .agg #[.int .i64 x.id.time, .int .i64 x.id.site, .int .i64 x.count] ∧ inI x.count := by
  obtain ⟨cs, rfl, hsz⟩ := okWide_struct Try.underlying32 hv
  obtain ⟨fuel, hf⟩ := h
  obtain ⟨x, hx, hi⟩ := trod_run hf
  refine ⟨x, ?_, hi⟩
  have : cs.toList = (#[.int .i64 x.id.time, .int .i64 x.id.site, .int .i64 x.count] : Array Value).toList := hx
  rw [Array.toList_inj.1 this]
set_option maxRecDepth 100000 in
theorem open_bytes {b0 : Nat} {r : Reach} {v : Value} {d : DataW H} {p : List MemPlace}
    (hv : Value.okWide Try.prog w r b0 41 v) (h : DataW.Trod enc Try.prog w base spare held 41 v d p) :
    ∃ (A : Option Addr) (c : Nat) (l : List Int), v = .slice A l.length c ∧ BytesAt w A l ∧ isByte l ∧ (l.length ≤ c ∧ c ≤ maxLen) ∧ (A = none → c = 0) := by
  obtain ⟨a0, len0, cap0, rfl⟩ := okWide_slice Try.underlying41 hv
  obtain ⟨fuel, hf⟩ := h
  rcases open_ints Try.underlying41 Try.underlying5 (by kernel_rfl) hf with ⟨hc, _⟩ | ⟨a, len, cap, zs, hc, hb, hl, hm, hz, hx, hi, hw⟩
  · simp only [Value.cells] at hc
    injection hc with hc _
    injection hc with e1 e2 e3
    subst e1 e2 e3
    exact ⟨none, 0, [], rfl, fun k h => absurd h (by simp), fun x (hx : x ∈ []) => absurd hx (by simp), by simp [maxLen], fun _ => rfl⟩
  · simp only [Value.cells] at hc
    injection hc with hc _
    injection hc with e1 e2 e3
    subst e1 e2 e3
    have hlz : len0 ≤ zs.length := by rw [hz]; split <;> omega
    have hll : (zs.take len0).length = len0 := by rw [List.length_take]; omega
    refine ⟨some a, cap0, zs.take len0, by rw [hll], fun k hk => ⟨a, rfl, ?_⟩, fun b hb => ?_, ⟨by omega, hm⟩, fun e => by cases e⟩
    · rw [hll] at hk
      rw [hi k (by omega)]
      simp [List.getD]
      rw [List.getElem?_eq_getElem (by omega)]
      rfl
    · have := hw b (List.mem_of_mem_take hb)
      simp [Lit.wf] at this
      have h1 : IntKind.u8.min = 0 := rfl
      have h2 : IntKind.u8.max = 255 := rfl
      rw [h1, h2] at this
      omega
end
end Go.Proofs.Ytnlklhlnnoihiaa

namespace Go.Proofs.Ytnlklhlnnoihiaa
open Go.RowKit

def TwoAt (w wr : World) (g h : Nat) (r s : List Int) : Prop := Box wr g 124 (rowV r) ∧ Box wr h 124 (rowV s) ∧ Kept (fun _ => False) w wr
theorem TwoAt.set {w wr : World} {g h : Nat} {r s : List Int} (H : TwoAt w wr g h r s) (hg : w.heap.size ≤ g) (hgh : g < h) (k : Nat) (x : Int) : TwoAt w (wr.setCell ⟨g, k, none⟩ (.int .i64 x)) g h (r.set k x) s := by
  refine ⟨?_, H.2.1.far (p := ⟨g, k, none⟩) (by show h ≠ g; omega) _, H.2.2.at k _ (.inr (by omega))⟩
  have := H.1.set k (.int .i64 x)
  rwa [rowV_set] at this
theorem TwoAt.drewN {w wr : World} {g h : Nat} {r s : List Int} (H : TwoAt w wr g h r s) (n : Nat) : TwoAt w (wr.drewN n) g h r s := ⟨H.1, H.2.1, H.2.2.drewN n⟩

end Go.Proofs.Ytnlklhlnnoihiaa
