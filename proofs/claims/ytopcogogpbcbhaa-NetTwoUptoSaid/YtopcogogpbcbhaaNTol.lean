/- Told copies that lie in a stretch of memory, apart from the network. No condition beyond the contracts' own. -/
import Derived.Test.YtopcogogpbcbhaaNNw
namespace Go.Proofs.Ytopcogogpbcbhaa
open Go Go.RowKit

structure CopIn (w : World) (b t : Nat) (L : Option Addr) (lc : Nat) (l : List Cc) : Prop where
  at_ : CopAt w b L lc l
  top : ∀ k, (Value.slice L l.length lc).ownBlock = some k → k < t
  topd : ∀ x ∈ l, ∀ k, x.dV.ownBlock = some k → k < t
theorem CopIn.of {w : World} {b : Nat} {L : Option Addr} {lc : Nat} {l : List Cc} (h : CopAt w b L lc l) : CopIn w b w.heap.size L lc l := ⟨h, fun k e => (h.row.lt k e).2, fun x hx k e => ((h.d x hx).lt k e).2⟩
theorem CopIn.kept {S : Nat → Prop} {w w' : World} {b t : Nat} {L : Option Addr} {lc : Nat} {l : List Cc} (h : CopIn w b t L lc l) (hk : Kept S w w') (hS : ∀ k, b ≤ k → k < t → ¬ S k) : CopIn w' b t L lc l :=
  ⟨⟨hk.own h.at_.row fun k e => hS k (h.at_.row.lt k e).1 (h.top k e), fun x hx => hk.own (h.at_.d x hx) fun k e => hS k ((h.at_.d x hx).lt k e).1 (h.topd x hx k e), h.at_.ap⟩, h.top, h.topd⟩
theorem CopIn.fresh {w w' : World} {b t : Nat} {L : Option Addr} {lc : Nat} {l : List Cc} (h : CopIn w b t L lc l) (hk : Kept (fun _ => False) w w') : CopIn w' b t L lc l := h.kept hk fun _ _ _ => id
theorem CopIn.ccs {w : World} {b t : Nat} {L : Option Addr} {lc : Nat} {l : List Cc} {s : Nt} (h : CopIn w b t L lc l) (hl : l.map (·.c) = s.l) (hok : s.Ok) : CcsAt w L lc l := CcsAt.of h.at_ fun y hy => by
  have := (hok.len y.c (by rw [← hl]; exact List.mem_map_of_mem hy)).2
  omega
/-- Copies: what is told lies apart from the network, now and later. -/
theorem Nw.told_ {G : Nat → Prop} {p : Nat} {s : Nt} {W : World} (h : Nw G p s W) (hlast : s.last < 100000) (hG : ∀ k, W.heap.size ≤ k → G k) :
    Calls Try.prog 16 #[.pointer (some ⟨p, 0, none⟩)] W fun r W' => ∃ L lc l, ∃ G2 : Nat → Prop, r = .returned (.slice L l.length lc) ∧ CopIn W' W.heap.size W'.heap.size L lc l ∧ l.map (·.c) = s.l ∧ Kept (fun _ => False) W W' ∧ Nw G2 p s W' ∧ (∀ k, W'.heap.size ≤ k → G2 k) ∧ (∀ k, G2 k → G k) ∧ ∀ k, W.heap.size ≤ k → k < W'.heap.size → ¬ G2 k := by
  refine (h.copies_ hlast).mono ?_
  rintro r W' ⟨L, lc, l, F, h1, h2, h3, h4, h5, h6⟩
  refine ⟨L, lc, l, _, h1, CopIn.of h2, h3, h4, h6, fun k e => .inr e, fun k e => ?_, fun k e1 e2 e3 => ?_⟩
  · rcases e with e | e
    · exact (h5 k e).1
    · exact hG k (Nat.le_trans h4.size e)
  · rcases e3 with e3 | e3
    · have := (h5 k e3).2; omega
    · omega
theorem ccs_cell {l : List Cc} {k : Nat} (h : k < l.length) (j : Nat) (hj : j < 6) : (ccs l)[k * 6 + j]? = (cpC l[k].c l[k].A l[k].cap).toList[j]? := ccs_get l k h j hj
theorem at_map {l : List Cc} {m : List Cp} (h : l.map (·.c) = m) {k : Nat} (h1 : k < l.length) (h2 : k < m.length) : l[k].c = m[k] := by
  have := congrArg (fun l : List Cp => l[k]?) h
  simpa [h1, h2] using this
end Go.Proofs.Ytopcogogpbcbhaa
