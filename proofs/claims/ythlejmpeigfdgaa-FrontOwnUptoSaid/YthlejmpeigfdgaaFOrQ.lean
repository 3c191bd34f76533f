/- Of two Fronts side by side one goes on: its calls as contracts. No condition beyond the contracts' own. -/
import Derived.Test.YthlejmpeigfdgaaFOrP
namespace Go.Proofs.Ythlejmpeigfdgaa
open Go Go.RowKit

section
variable {p N : Nat} {s : List Fp} {B : (Nat → Prop) → World → Prop} {G : Nat → Prop} {W : World}
theorem Pair.hearL {m : Int} (hb : Ob B) (h : Pair (Fob p s N) B G W) (hG : ∀ k, W.heap.size ≤ k → G k) (hN : N < 900000) (hm : (Lit.int .i64 m).wf = true) (A : Option Addr) (v : List Dt) (c : Nat) (hv : ∀ W', Kept G W W' → DotsAt W' A v) (hl : v.length ≤ 1000000) :
    Calls Try.prog 17 #[.pointer (some ⟨p, 0, none⟩), .int .i64 m, .slice A v.length c] W fun r W' => r = .returned (.int .i64 (hearE m v)) ∧ Pair (Fob p (Go.Proofs.Ythlejmpeigfdgaa.hear s m v) (N + 1)) B G W' ∧ Kept G W W' := by
  obtain ⟨H, h1, h2, h3, h4⟩ := h.left hb (Fob.ob _ _ _) hG
  refine (h1.hear h2 hN hm A v c (fun W' hk => hv W' (hk.more fun k _ e => h3 k e)) hl).mono ?_
  rintro r W' ⟨h5, h6, h7⟩
  exact ⟨h5, h4 _ _ (Fob.ob _ _ _) h6 h7⟩
theorem Pair.settleL (hb : Ob B) (h : Pair (Fob p s N) B G W) (hG : ∀ k, W.heap.size ≤ k → G k) (hN : N < 900000) (A : Option Addr) (v : List Dt) (c : Nat) (hv : ∀ W', Kept G W W' → DotsAt W' A v) (hl : v.length ≤ 1000000) :
    Calls Try.prog 15 #[.pointer (some ⟨p, 0, none⟩), .slice A v.length c] W fun r W' => (∃ u, r = .returned u) ∧ Pair (Fob p (Go.Proofs.Ythlejmpeigfdgaa.settle s v) (N + 17)) B G W' ∧ Kept G W W' := by
  obtain ⟨H, h1, h2, h3, h4⟩ := h.left hb (Fob.ob _ _ _) hG
  refine (h1.settle h2 hN A v c (fun W' hk => hv W' (hk.more fun k _ e => h3 k e)) hl).mono ?_
  rintro r W' ⟨h5, h6, h7⟩
  exact ⟨h5, h4 _ _ (Fob.ob _ _ _) h6 h7⟩
theorem Pair.hearR {m : Int} (hb : Ob B) (h : Pair B (Fob p s N) G W) (hG : ∀ k, W.heap.size ≤ k → G k) (hN : N < 900000) (hm : (Lit.int .i64 m).wf = true) (A : Option Addr) (v : List Dt) (c : Nat) (hv : ∀ W', Kept G W W' → DotsAt W' A v) (hl : v.length ≤ 1000000) :
    Calls Try.prog 17 #[.pointer (some ⟨p, 0, none⟩), .int .i64 m, .slice A v.length c] W fun r W' => r = .returned (.int .i64 (hearE m v)) ∧ Pair B (Fob p (Go.Proofs.Ythlejmpeigfdgaa.hear s m v) (N + 1)) G W' ∧ Kept G W W' := by
  refine (h.swap.hearL hb hG hN hm A v c hv hl).mono ?_
  rintro r W' ⟨h5, h6, h7⟩
  exact ⟨h5, h6.swap, h7⟩
theorem Pair.settleR (hb : Ob B) (h : Pair B (Fob p s N) G W) (hG : ∀ k, W.heap.size ≤ k → G k) (hN : N < 900000) (A : Option Addr) (v : List Dt) (c : Nat) (hv : ∀ W', Kept G W W' → DotsAt W' A v) (hl : v.length ≤ 1000000) :
    Calls Try.prog 15 #[.pointer (some ⟨p, 0, none⟩), .slice A v.length c] W fun r W' => (∃ u, r = .returned u) ∧ Pair B (Fob p (Go.Proofs.Ythlejmpeigfdgaa.settle s v) (N + 17)) G W' ∧ Kept G W W' := by
  refine (h.swap.settleL hb hG hN A v c hv hl).mono ?_
  rintro r W' ⟨h5, h6, h7⟩
  exact ⟨h5, h6.swap, h7⟩
end
end Go.Proofs.Ythlejmpeigfdgaa
