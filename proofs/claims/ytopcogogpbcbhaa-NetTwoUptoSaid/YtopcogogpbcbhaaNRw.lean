/- The reference's network as an object whose memory lies among given blocks: its calls as contracts. No condition beyond the contracts' own. -/
import Derived.Test.YtopcogogpbcbhaaNRh
namespace Go.Proofs.Ytopcogogpbcbhaa
open Go Go.RowKit

/-- The first of two goes on in its own memory alone. -/
theorem Pair.left_in {A B : (Nat → Prop) → World → Prop} {G : Nat → Prop} {W : World} (hb : Ob B) (h : Pair A B G W) :
    ∃ H : Nat → Prop, A H W ∧ (∀ k, H k → G k ∧ k < W.heap.size) ∧ ∀ (A' : (Nat → Prop) → World → Prop) (W' : World), A' H W' → Kept H W W' → Pair A' B G W' ∧ Kept G W W' := by
  obtain ⟨Fa, Fb, h1, h2, h3, h4⟩ := h
  refine ⟨Fa, h1, fun k e => ⟨(h3 k e).1, (h3 k e).2.2⟩, fun A' W' h5 hk => ⟨⟨Fa, Fb, h5, hb.kept h2 hk fun k e e2 => (h3 k e2).2.1 e, fun k e => ⟨(h3 k e).1, (h3 k e).2.1, Nat.lt_of_lt_of_le (h3 k e).2.2 hk.size⟩, fun k e => ⟨(h4 k e).1, Nat.lt_of_lt_of_le (h4 k e).2 hk.size⟩⟩, hk.more fun k _ e => (h3 k e).1⟩⟩
section
variable {G : Nat → Prop} {p : Nat} {s : Nt} {W : World}
theorem Nw.drop_ {n : Int} (h : Nw G p s W) (hn : (Lit.int .i64 n).wf = true) :
    Calls Try.prog 20 #[.pointer (some ⟨p, 0, none⟩), .int .i64 n] W fun r W' => ∃ A cap, r = .returned (.tuple #[.agg (cpC (s.deliver n).1.1 A cap), .int .i64 (s.deliver n).1.2]) ∧ W'.ownsRow W.heap.size 5 1 (.slice A (s.deliver n).1.1.data.length cap) (s.deliver n).1.1.data.length (bys (s.deliver n).1.1.data) ∧ Nw G p (s.deliver n).2 W' ∧ Kept G W W' := by
  obtain ⟨F, es, h1, h2⟩ := h
  refine (Drop_any p F s es W h1 n hn).mono ?_
  rintro r W' ⟨A, cap, h3, h4, ⟨es', h5⟩, h6⟩
  exact ⟨A, cap, h3, h4, ⟨F, es', h5, h2⟩, h6.more fun k _ e => h2 k e⟩
theorem Rw.ok (h : Rw G p s W) : s.Ok := by obtain ⟨F, L, lc, hs, h1, h2⟩ := h; exact h1.ok
theorem Rw.send_ {f t a : Int} {A : Option Addr} {b : List Int} {c : Nat} (h : Rw G p s W) (hG : ∀ k, W.heap.size ≤ k → G k) (hlast : s.last < 100000) (hb : ∀ W', Kept G W W' → BytesAt W' A b) (hn : A = none → b = []) (hby : isByte b) (hlen : b.length ≤ 60000) :
    Calls Try.prog 28 #[.pointer (some ⟨p, 0, none⟩), .int .i64 f, .int .i64 t, .slice A b.length c, .int .i64 a] W fun r W' => r = .returned (.tuple #[.int .i64 (s.send f t a b).1.1, .int .i64 (s.send f t a b).1.2]) ∧ Rw G p (s.send f t a b).2 W' ∧ Kept G W W' := by
  obtain ⟨F, L, lc, hs, h1, h2⟩ := h
  refine (RSend_any p F s L lc hs W h1 hlast f t a A b c (fun W' hk => hb W' (hk.more fun k _ e => e.elim (fun e => e ▸ h2 p h1.fp) fun e => h2 k (h1.fL k e))) hn hby hlen).mono ?_
  rintro r W' ⟨h3, h4⟩
  exact ⟨h3, Rw.post h2 hG h4⟩
theorem Rw.double_ {n : Int} (h : Rw G p s W) (hG : ∀ k, W.heap.size ≤ k → G k) (hlast : s.last < 100000) :
    Calls Try.prog 31 #[.pointer (some ⟨p, 0, none⟩), .int .i64 n] W fun r W' => r = .returned (.tuple #[.int .i64 (s.double n).1.1, .int .i64 (s.double n).1.2]) ∧ Rw G p (s.double n).2 W' ∧ Kept G W W' := by
  obtain ⟨F, L, lc, hs, h1, h2⟩ := h
  refine (RDouble_any p F s L lc hs W h1 hlast n).mono ?_
  rintro r W' ⟨h3, h4⟩
  exact ⟨h3, Rw.post h2 hG h4⟩
theorem Rw.alter_ {n a : Int} {A : Option Addr} {b : List Int} {c : Nat} (h : Rw G p s W) (hG : ∀ k, W.heap.size ≤ k → G k) (hb : BytesAt W A b) (hby : isByte b) (hlen : b.length ≤ 60000) :
    Calls Try.prog 32 #[.pointer (some ⟨p, 0, none⟩), .int .i64 n, .int .i64 a, .slice A b.length c] W fun r W' => r = .returned (.int .i64 (s.alter n a b).1) ∧ Rw G p (s.alter n a b).2 W' ∧ Kept G W W' := by
  obtain ⟨F, L, lc, hs, h1, h2⟩ := h
  refine (RAlter_any p F s L lc hs W h1 n a A b c hb hby hlen).mono ?_
  rintro r W' ⟨h3, h4⟩
  exact ⟨h3, Rw.post h2 hG h4⟩
theorem Rw.cut_ {n k : Int} (h : Rw G p s W) (hG : ∀ k, W.heap.size ≤ k → G k) :
    Calls Try.prog 33 #[.pointer (some ⟨p, 0, none⟩), .int .i64 n, .int .i64 k] W fun r W' => r = .returned (.int .i64 (s.cut n k).1) ∧ Rw G p (s.cut n k).2 W' ∧ Kept G W W' := by
  obtain ⟨F, L, lc, hs, h1, h2⟩ := h
  refine (RCut_any p F s L lc hs W h1 n k).mono ?_
  rintro r W' ⟨h3, h4⟩
  exact ⟨h3, Rw.post h2 hG h4⟩
theorem Rw.del_post {z : (Cp × Int) × Nt} {r : Ending} {W' : World} {F : Nat → Prop} (h2 : ∀ k, F k → G k) (hG : ∀ k, W.heap.size ≤ k → G k) (h : RDelPost W p F z r W') : ∃ A cap, r = .returned (.tuple #[.agg (cpC z.1.1 A cap), .int .i64 z.1.2]) ∧ W'.ownsRow W.heap.size 5 1 (.slice A z.1.1.data.length cap) z.1.1.data.length (bys z.1.1.data) ∧ Rw G p z.2 W' ∧ Kept G W W' := by
  obtain ⟨A, cap, h3, h4, ⟨F', L, lc, hs, h5, h6, _⟩, h7⟩ := h
  exact ⟨A, cap, h3, h4, ⟨F', L, lc, hs, h5, fun k e => (h6 k e).elim (h2 k) (hG k)⟩, h7.more fun k _ e => h2 k e⟩
theorem Rw.deliver_ {n : Int} (h : Rw G p s W) (hG : ∀ k, W.heap.size ≤ k → G k) :
    Calls Try.prog 29 #[.pointer (some ⟨p, 0, none⟩), .int .i64 n] W fun r W' => ∃ A cap, r = .returned (.tuple #[.agg (cpC (s.deliver n).1.1 A cap), .int .i64 (s.deliver n).1.2]) ∧ W'.ownsRow W.heap.size 5 1 (.slice A (s.deliver n).1.1.data.length cap) (s.deliver n).1.1.data.length (bys (s.deliver n).1.1.data) ∧ Rw G p (s.deliver n).2 W' ∧ Kept G W W' := by
  obtain ⟨F, L, lc, hs, h1, h2⟩ := h
  refine (RDeliver_any p F s L lc hs W h1 n).mono ?_
  exact fun r W' h => Rw.del_post h2 hG h
theorem Rw.drop_ {n : Int} (h : Rw G p s W) (hG : ∀ k, W.heap.size ≤ k → G k) :
    Calls Try.prog 30 #[.pointer (some ⟨p, 0, none⟩), .int .i64 n] W fun r W' => ∃ A cap, r = .returned (.tuple #[.agg (cpC (s.deliver n).1.1 A cap), .int .i64 (s.deliver n).1.2]) ∧ W'.ownsRow W.heap.size 5 1 (.slice A (s.deliver n).1.1.data.length cap) (s.deliver n).1.1.data.length (bys (s.deliver n).1.1.data) ∧ Rw G p (s.deliver n).2 W' ∧ Kept G W W' := by
  obtain ⟨F, L, lc, hs, h1, h2⟩ := h
  refine (RDrop_any p F s L lc hs W h1 n).mono ?_
  exact fun r W' h => Rw.del_post h2 hG h
theorem Rw.copies_ (h : Rw G p s W) : Calls Try.prog 17 #[.pointer (some ⟨p, 0, none⟩)] W (CopiesPost W s) := by
  obtain ⟨F, L, lc, hs, h1, h2⟩ := h
  exact RCopies_any p F s L lc hs W h1
theorem Rw.new (w : World) : Calls Try.prog 13 #[] w fun r w' => r = .returned (.pointer (some ⟨w.heap.size, 0, none⟩)) ∧ Rw (fun k => w.heap.size ≤ k) w.heap.size ⟨0, []⟩ w' ∧ Kept (fun _ => False) w w' := by
  refine (RNew_any w).mono ?_
  rintro r w' ⟨h1, h2, h3⟩
  exact ⟨h1, ⟨_, _, _, _, h2, fun k e => by omega⟩, h3⟩
end
end Go.Proofs.Ytopcogogpbcbhaa
