/- Several lists of Dots kept while new memory is made; the contracts over rows. Conditions: the Dots lie in memory as DotsAt says. -/
import Derived.Test.YtlefbnnlcacheaaVKnown
import Derived.Test.YtlefbnnlcacheaaVLaw
namespace Go.Proofs.Ytlefbnnlcacheaa
open Go.RowKit

/-- Lists that lie in memory; since w0 only new blocks. -/
def Have (L : List (Option Addr × List Dt)) (w0 w : World) : Prop := (∀ p ∈ L, DotsAt w p.1 p.2) ∧ Kept (fun _ => False) w0 w
theorem Have.fresh {L : List (Option Addr × List Dt)} {w0 w w' : World} (h : Have L w0 w) (hk : Kept (fun _ => False) w w') : Have L w0 w' := ⟨fun p hp => (h.1 p hp).fresh hk, h.2.trans hk fun _ _ e => e⟩
theorem Have.add {L : List (Option Addr × List Dt)} {w0 w : World} {A : Option Addr} {l : List Dt} (h : Have L w0 w) (hd : DotsAt w A l) : Have ((A, l) :: L) w0 w := ⟨fun p hp => by
  rcases List.mem_cons.1 hp with rfl | hp
  · exact hd
  · exact h.1 p hp, h.2⟩
theorem Have.nth {L : List (Option Addr × List Dt)} {w0 w : World} {A : Option Addr} {l : List Dt} (h : Have L w0 w) (i : Nat) (hi : L[i]? = some (A, l)) : DotsAt w A l := h.1 _ (List.mem_of_getElem? hi)
theorem Have.less {L M : List (Option Addr × List Dt)} {w0 w : World} (h : Have L w0 w) (hm : ∀ p ∈ M, p ∈ L) : Have M w0 w := ⟨fun p hp => h.1 p (hm p hp), h.2⟩
/-- A list that says a row. -/
structure Sy (l : List Dt) (r : List Int) : Prop where
  says : says l = r
  len : l.length ≤ 4611686018427387904
theorem Sy.row {l : List Dt} {r : List Int} (h : Sy l r) : Row r := h.says ▸ Row.says l
theorem Sy.vec {r : List Int} (h : Row r) : Sy (vec r) r := ⟨says_vec h, Nat.le_trans (vecTo_len r 17) (by decide)⟩
theorem Sy.nil : Sy [] row0 := ⟨rfl, by decide⟩
section
variable {A B : Option Addr} {l m : List Dt} {c d : Nat} {w : World} {x y : List Int} (hl : DotsAt w A l) (hm : DotsAt w B m) (hx : Sy l x) (hy : Sy m y)
include hl hm hx hy in
theorem Merge_r : Calls Try.prog 24 #[.slice A l.length c, .slice B m.length d] w (FreshDots w (vec (maxR x y))) := by
  have := Merge_any A B l m c d w hl hm hx.len hy.len
  rwa [hx.says, hy.says] at this
include hl hm hx hy in
theorem Least_r : Calls Try.prog 26 #[.slice A l.length c, .slice B m.length d] w (FreshDots w (vec (minR x y))) := by
  have := Least_any A B l m c d w hl hm hx.len hy.len
  rwa [hx.says, hy.says] at this
include hl hm hx hy in
theorem Covers_r : Calls Try.prog 22 #[.slice A l.length c, .slice B m.length d] w (BoolPost w (coversR x y)) := by
  have := Covers_any A B l m c d w hl hm hx.len hy.len
  rwa [hx.says, hy.says] at this
include hl hx in
theorem Sum_r : Calls Try.prog 19 #[.slice A l.length c] w (IntPost w (sumR x 17)) := by
  have := Sum_any A l c w hl hx.len
  rwa [hx.says] at this
end
theorem Check_r {A : Option Addr} {r : List Int} {c : Nat} {w : World} (hl : DotsAt w A (vec r)) (hr : Row r) : Calls Try.prog 13 #[.slice A (vec r).length c] w (IntPost w 0) := by
  have := Check_any A (vec r) c w hl (Sy.vec hr).len
  rwa [check_vec hr] at this
def KnownEnd (w : World) (e : Ending) (w' : World) : Prop := e = .returned (.bool true) ∧ Kept (fun _ => False) w w'
end Go.Proofs.Ytlefbnnlcacheaa
