/- Opening an argument that is a step of a network's script. No condition. -/
import Derived.Test.YtopcogogpbcbhaaNNot
import Derived.ProofKit
import Derived.OpenShut
import Derived.Deep.Slices
import Derived.Deep.Fields
import Derived.ChangeSame
import Derived.ChangeSlices
import Derived.Lib.SmallJoins
namespace Go.Proofs.Ytopcogogpbcbhaa
open Go.ChangeShapes Go.WideShapes Go.ChangeAt Go.RowKit Go.Deep

theorem list_of {α : Type} (p : Nat → α → Prop) : ∀ n : Nat, (∀ i, i < n → ∃ x, p i x) → ∃ l : List α, l.length = n ∧ ∀ i (h : i < l.length), p i l[i]
  | 0, _ => ⟨[], rfl, fun i h => absurd h (by simp)⟩
  | n + 1, h => by
    obtain ⟨l, hl, hp⟩ := list_of p n fun i hi => h i (by omega)
    obtain ⟨x, hx⟩ := h n (by omega)
    refine ⟨l ++ [x], by simp [hl], fun i hi => ?_⟩
    by_cases hil : i < l.length
    · rw [List.getElem_append_left hil]; exact hp i hil
    · have : i = n := by simp at hi; omega
      subst this
      rw [List.getElem_append_right (by omega)]
      simpa using hx
section
variable {H : Type} {enc : TypeId × Value → H} {w : World} {base : Nat} {spare : Nat → Bool} {held : Bool}
theorem trod_int' {fuel : Nat} {cs : List Value} {y : DataW H × List MemPlace} (h : DataW.trod enc Try.prog w base spare held fuel 3 cs = some y) : ∃ n : Int, cs = [.int .i64 n] ∧ (Lit.int .i64 n).wf = true := by
  obtain ⟨n, h1, _, h3⟩ := DataW.trod_int Try.underlying3 h
  exact ⟨n, h1, h3⟩
/-- A struct's field, by its place. -/
theorem trod_field {t : TypeId} {fs : Array Field} (ht : Try.prog.underlying t = some (.struct fs)) {fuel : Nat} {cs : List Value} {y : DataW H × List MemPlace} (h : DataW.trod enc Try.prog w base spare held fuel t cs = some y) :
    cs.length = Try.prog.cellsOf t ∧ ∃ n, ∀ (i : Nat) (f : Field), fs[i]? = some f → ∃ z, DataW.trod enc Try.prog w base spare held n f.type ((cs.drop f.offset).take (Try.prog.cellsOf f.type)) = some z := by
  obtain ⟨xs, n, _, _, hl, hxl, hf⟩ := DataW.trod_struct ht h
  refine ⟨hl, n, fun i f hi => ?_⟩
  have hlt : i < xs.length := by rw [hxl]; exact (Array.getElem?_eq_some_iff.1 hi).1
  exact ⟨xs[i], by rw [hf i f hi, List.getElem?_eq_getElem hlt]⟩
set_option maxRecDepth 100000 in
theorem trod_bytes {fuel : Nat} {cs : List Value} {y : DataW H × List MemPlace} (hf : DataW.trod enc Try.prog w base spare held fuel 30 cs = some y) :
    ∃ (A : Option Addr) (c : Nat) (l : List Int), cs = [.slice A l.length c] ∧ BytesAt w A l ∧ isByte l ∧ (l.length ≤ c ∧ c ≤ maxLen) ∧ (A = none → c = 0) := by
  rcases open_ints Try.underlying30 Try.underlying5 (by kernel_rfl) hf with ⟨hc, _⟩ | ⟨a, len, cap, zs, hc, hb, hl, hm, hz, hx, hi, hw⟩
  · exact ⟨none, 0, [], hc, fun k h => absurd h (by simp), fun x (hx : x ∈ []) => absurd hx (by simp), by simp [maxLen], fun _ => rfl⟩
  · have hlz : len ≤ zs.length := by rw [hz]; split <;> omega
    have hll : (zs.take len).length = len := by rw [List.length_take]; omega
    refine ⟨some a, cap, zs.take len, by rw [hll]; exact hc, fun k hk => ⟨a, rfl, ?_⟩, fun b hb => ?_, ⟨by omega, hm⟩, fun e => by cases e⟩
    · rw [hll] at hk
      rw [hi k (by omega)]
      simp [List.getD]
      rw [List.getElem?_eq_getElem (by omega)]
      rfl
    · have := hw b (List.mem_of_mem_take hb)
      simp [Lit.wf] at this
      have h1 : IntKind.u8.min = 0 := rfl
      have h2 : IntKind.u8.max = 255 := rfl
      rw [h1, h2] at this
      omega
theorem list6 {l : List Value} (h : l.length = 6) : ∃ a b c d e f, l = [a, b, c, d, e, f] := by
  match l, h with
  | [a, b, c, d, e, f], _ => exact ⟨a, b, c, d, e, f, rfl⟩
/-- What is known of a step that came in. -/
structure Stn.Arg (w : World) (x : Stn) : Prop where
  b : BytesAt w x.dA x.data
  by_ : isByte x.data
  cap : x.data.length ≤ x.dc ∧ x.dc ≤ maxLen
  none : x.dA = none → x.dc = 0
  num : (Lit.int .i64 x.num).wf = true
  at_ : (Lit.int .i64 x.at_).wf = true
set_option maxRecDepth 100000 in
theorem trod_stn {fuel : Nat} {cs : List Value} {y : DataW H × List MemPlace} (h : DataW.trod enc Try.prog w base spare held fuel 32 cs = some y) : ∃ x : Stn, cs = x.cs.toList ∧ x.Arg w := by
  obtain ⟨hl, n, hf⟩ := trod_field Try.underlying32 h
  obtain ⟨a, b, c, d, e, f, rfl⟩ := list6 (hl.trans (by kernel_rfl))
  obtain ⟨z0, h0⟩ := hf 0 _ rfl
  obtain ⟨z1, h1⟩ := hf 1 _ rfl
  obtain ⟨z2, h2⟩ := hf 2 _ rfl
  obtain ⟨z3, h3⟩ := hf 3 _ rfl
  obtain ⟨z4, h4⟩ := hf 4 _ rfl
  obtain ⟨z5, h5⟩ := hf 5 _ rfl
  obtain ⟨x0, e0, _⟩ := trod_int' h0
  obtain ⟨x1, e1, w1⟩ := trod_int' h1
  obtain ⟨x2, e2, _⟩ := trod_int' h2
  obtain ⟨x3, e3, _⟩ := trod_int' h3
  obtain ⟨x4, e4, w4⟩ := trod_int' h4
  obtain ⟨A, cap, l, e5, hb, hby, hc, hn⟩ := trod_bytes h5
  have e0' : [a] = [Value.int .i64 x0] := e0
  have e1' : [b] = [Value.int .i64 x1] := e1
  have e2' : [c] = [Value.int .i64 x2] := e2
  have e3' : [d] = [Value.int .i64 x3] := e3
  have e4' : [e] = [Value.int .i64 x4] := e4
  have e5' : [f] = [Value.slice A l.length cap] := e5
  injection e0' with e0'
  injection e1' with e1'
  injection e2' with e2'
  injection e3' with e3'
  injection e4' with e4'
  injection e5' with e5'
  exact ⟨⟨x0, x1, x2, x3, x4, l, A, cap⟩, by rw [e0', e1', e2', e3', e4', e5']; rfl, hb, hby, hc, hn, w1, w4⟩
set_option maxRecDepth 100000 in
theorem open_stn {b0 : Nat} {r : Reach} {v : Value} {d : DataW H} {p : List MemPlace}
    (hv : Value.okWide Try.prog w r b0 32 v) (h : DataW.Trod enc Try.prog w base spare held 32 v d p) : ∃ x : Stn, v = .agg x.cs ∧ x.Arg w := by
  obtain ⟨cs, rfl, hsz⟩ := okWide_struct Try.underlying32 hv
  obtain ⟨fuel, hf⟩ := h
  obtain ⟨x, hx, hA⟩ := trod_stn hf
  refine ⟨x, ?_, hA⟩
  have : cs.toList = x.cs.toList := hx
  rw [Array.toList_inj.1 this]
end
end Go.Proofs.Ytopcogogpbcbhaa
