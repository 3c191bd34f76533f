/- A network whose memory lies among given blocks: its calls as contracts. No condition beyond the contracts' own. -/
import Derived.Test.YtopcogogpbcbhaaNApt
namespace Go.Proofs.Ytopcogogpbcbhaa
open Go Go.RowKit

theorem up_count : ∀ (l : List Cp) (a b : Nat), l.Pairwise (fun x y => x.num < y.num) → (∀ c ∈ l, a ≤ c.num ∧ c.num ≤ b) → l.length ≤ b + 1 - a
  | [], _, _, _, _ => Nat.zero_le _
  | x :: l, a, b, hp, hb => by
    rw [List.pairwise_cons] at hp
    have h1 := hb x (List.mem_cons.2 (.inl rfl))
    have := up_count l (x.num + 1) b hp.2 fun c hc => ⟨hp.1 c hc, (hb c (List.mem_cons.2 (.inr hc))).2⟩
    rw [List.length_cons]
    omega
theorem Nt.Ok.count {s : Nt} (h : s.Ok) : s.l.length ≤ s.last + 1 := up_count s.l 0 s.last h.up fun c hc => ⟨Nat.zero_le _, h.le c hc⟩
/-- A network whose memory lies in G. -/
def Nw (G : Nat → Prop) (p : Nat) (s : Nt) (W : World) : Prop := ∃ F es, NetAt W p F s es ∧ ∀ k, F k → G k
section
variable {G S : Nat → Prop} {p : Nat} {s : Nt} {W W' : World}
theorem Nw.kept (h : Nw G p s W) (hk : Kept S W W') (hS : ∀ k, G k → ¬ S k) : Nw G p s W' := by
  obtain ⟨F, es, h1, h2⟩ := h
  exact ⟨F, es, h1.kept hk fun k e => hS k (h2 k e), h2⟩
theorem Nw.fresh (h : Nw G p s W) (hk : Kept (fun _ => False) W W') : Nw G p s W' := h.kept hk fun _ _ => id
theorem Nw.more (h : Nw G p s W) (hS : ∀ k, G k → S k) : Nw S p s W := by
  obtain ⟨F, es, h1, h2⟩ := h
  exact ⟨F, es, h1, fun k e => hS k (h2 k e)⟩
theorem Nw.ok (h : Nw G p s W) : s.Ok := by obtain ⟨F, es, h1, h2⟩ := h; exact h1.ok
theorem Nw.post {F : Nat → Prop} (h : ∀ k, F k → G k) (hG : ∀ k, W.heap.size ≤ k → G k) (hp : NetPost W p F s W') : Nw G p s W' ∧ Kept G W W' := by
  obtain ⟨F', es, h1, h2, h3⟩ := hp
  exact ⟨⟨F', es, h1, fun k e => (h2 k e).elim (h k) (hG k)⟩, h3.more fun k _ e => h k e⟩
theorem Nw.new (w : World) (n : Nat) (hn : n ≤ w.heap.size) : Calls Try.prog 12 #[] w fun r w' => r = .returned (.pointer (some ⟨w.heap.size, 0, none⟩)) ∧ Nw (fun k => n ≤ k) w.heap.size ⟨0, []⟩ w' ∧ Kept (fun _ => False) w w' := by
  refine (New_any w).mono ?_
  rintro r w' ⟨h1, h2, h3⟩
  exact ⟨h1, ⟨_, _, h2, fun k e => by omega⟩, h3⟩
theorem Nw.do_ {x : Stn} (h : Nw G p s W) (hG : ∀ k, W.heap.size ≤ k → G k) (hlast : s.last < 100000) (hx : StnOk W x) :
    Calls Try.prog 25 #[.pointer (some ⟨p, 0, none⟩), .agg x.cs] W fun r W' => r = .returned (.int .i64 (s.step x).1) ∧ Nw G p (s.step x).2 W' ∧ Kept G W W' := by
  obtain ⟨F, es, h1, h2⟩ := h
  refine (Do_any p F s es x W h1 hlast hx).mono ?_
  rintro r W' ⟨h3, h4⟩
  exact ⟨h3, Nw.post h2 hG h4⟩
theorem Nw.double_ {n : Int} (h : Nw G p s W) (hG : ∀ k, W.heap.size ≤ k → G k) (hlast : s.last < 100000) (hn : (Lit.int .i64 n).wf = true) :
    Calls Try.prog 21 #[.pointer (some ⟨p, 0, none⟩), .int .i64 n] W fun r W' => r = .returned (.tuple #[.int .i64 (s.double n).1.1, .int .i64 (s.double n).1.2]) ∧ Nw G p (s.double n).2 W' ∧ Kept G W W' := by
  obtain ⟨F, es, h1, h2⟩ := h
  refine (Double_any p F s es W h1 hlast n hn).mono ?_
  rintro r W' ⟨h3, h4⟩
  exact ⟨h3, Nw.post h2 hG h4⟩
theorem Nw.send_ {f t a : Int} {A : Option Addr} {b : List Int} {c : Nat} (h : Nw G p s W) (hG : ∀ k, W.heap.size ≤ k → G k) (hlast : s.last < 100000) (hb : BytesAt W A b) (hn : A = none → b = []) (hby : isByte b) (hlen : b.length ≤ 60000) :
    Calls Try.prog 18 #[.pointer (some ⟨p, 0, none⟩), .int .i64 f, .int .i64 t, .slice A b.length c, .int .i64 a] W fun r W' => r = .returned (.tuple #[.int .i64 (s.send f t a b).1.1, .int .i64 (s.send f t a b).1.2]) ∧ Nw G p (s.send f t a b).2 W' ∧ Kept G W W' := by
  obtain ⟨F, es, h1, h2⟩ := h
  refine (Send_any p F s es W h1 hlast f t a A b c hb hn hby hlen).mono ?_
  rintro r W' ⟨h3, h4⟩
  exact ⟨h3, Nw.post h2 hG h4⟩
theorem Nw.alter_ {n a : Int} {A : Option Addr} {b : List Int} {c : Nat} (h : Nw G p s W) (hG : ∀ k, W.heap.size ≤ k → G k) (hn : (Lit.int .i64 n).wf = true) (ha : (Lit.int .i64 a).wf = true) (hb : BytesAt W A b) (hby : isByte b) (hlen : b.length ≤ 60000) :
    Calls Try.prog 23 #[.pointer (some ⟨p, 0, none⟩), .int .i64 n, .int .i64 a, .slice A b.length c] W fun r W' => r = .returned (.int .i64 (s.alter n a b).1) ∧ Nw G p (s.alter n a b).2 W' ∧ Kept G W W' := by
  obtain ⟨F, es, h1, h2⟩ := h
  refine (Alter_any p F s es W h1 n a hn (wf_bd ha) A b c hb hby hlen).mono ?_
  rintro r W' ⟨h3, h4⟩
  exact ⟨h3, Nw.post h2 hG h4⟩
theorem Nw.cut_ {n k : Int} (h : Nw G p s W) (hG : ∀ k, W.heap.size ≤ k → G k) (hn : (Lit.int .i64 n).wf = true) :
    Calls Try.prog 24 #[.pointer (some ⟨p, 0, none⟩), .int .i64 n, .int .i64 k] W fun r W' => r = .returned (.int .i64 (s.cut n k).1) ∧ Nw G p (s.cut n k).2 W' ∧ Kept G W W' := by
  obtain ⟨F, es, h1, h2⟩ := h
  refine (Cut_any p F s es W h1 n k hn).mono ?_
  rintro r W' ⟨h3, h4⟩
  exact ⟨h3, Nw.post h2 hG h4⟩
theorem Nw.deliver_ {n : Int} (h : Nw G p s W) (hn : (Lit.int .i64 n).wf = true) :
    Calls Try.prog 19 #[.pointer (some ⟨p, 0, none⟩), .int .i64 n] W fun r W' => ∃ A cap, r = .returned (.tuple #[.agg (cpC (s.deliver n).1.1 A cap), .int .i64 (s.deliver n).1.2]) ∧ W'.ownsRow W.heap.size 5 1 (.slice A (s.deliver n).1.1.data.length cap) (s.deliver n).1.1.data.length (bys (s.deliver n).1.1.data) ∧ Nw G p (s.deliver n).2 W' ∧ Kept G W W' := by
  obtain ⟨F, es, h1, h2⟩ := h
  refine (Deliver_any p F s es W h1 n hn).mono ?_
  rintro r W' ⟨A, cap, h3, h4, ⟨es', h5⟩, h6⟩
  exact ⟨A, cap, h3, h4, ⟨F, es', h5, h2⟩, h6.more fun k _ e => h2 k e⟩
/-- Copies: what is told is apart from the network, now and later. -/
theorem Nw.copies_ (h : Nw G p s W) (hlast : s.last < 100000) :
    Calls Try.prog 16 #[.pointer (some ⟨p, 0, none⟩)] W fun r W' => ∃ L lc l, ∃ F : Nat → Prop, r = .returned (.slice L l.length lc) ∧ CopAt W' W.heap.size L lc l ∧ l.map (·.c) = s.l ∧ Kept (fun _ => False) W W' ∧ (∀ k, F k → G k ∧ k < W.heap.size) ∧ Nw (fun k => F k ∨ W'.heap.size ≤ k) p s W' := by
  obtain ⟨F, es, h1, h2⟩ := h
  have := h1.ok.count
  refine (Copies_any p F s es W h1 (by omega)).mono ?_
  rintro r W' ⟨L, lc, l, h3, h4, h5, h6⟩
  exact ⟨L, lc, l, F, h3, h4, h5, h6, fun k e => ⟨h2 k e, h1.lt k e⟩, F, es, h1.fresh h6, fun k e => .inl e⟩
end
theorem Nt.play_last (s : Nt) (l : List Stn) : (s.play l).last ≤ s.last + l.length := by
  induction l generalizing s with
  | nil => exact Nat.le_refl _
  | cons x l ih =>
    have h1 := ih (s.step x).2
    have h2 := s.step_last x
    rw [List.length_cons]
    exact Nat.le_trans h1 (by omega)
theorem Nt.play_take (s : Nt) (l : List Stn) (k : Nat) (hk : k < l.length) : s.play (l.take (k + 1)) = ((s.play (l.take k)).step l[k]).2 := by
  unfold Nt.play
  rw [List.take_succ_eq_append_getElem hk, List.foldl_append]
  rfl
end Go.Proofs.Ytopcogogpbcbhaa
