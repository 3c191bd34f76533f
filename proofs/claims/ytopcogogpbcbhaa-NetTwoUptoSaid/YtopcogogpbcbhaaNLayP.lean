/- A network that is turned: what stays of it. No condition beyond the sizes. -/
import Derived.Test.YtopcogogpbcbhaaNTold
namespace Go.Proofs.Ytopcogogpbcbhaa
open Go Go.RowKit

/-- No cells lie in block b (a map does, or nothing yet). -/
def Off (w : World) (b : Nat) : Prop := ∀ cs t u, w.heap[b]? ≠ some (.cells cs t u)
section
variable {w w' : World} {p b : Nat} {F S : Nat → Prop} {s : Nt} {es : List Ce} {x : Ce}
theorem Off.map {P : Program} {k : TypeId} {R : Value → Option (DataW Unit × List MemPlace)} {n : Nat} {D : DataW Unit} (h : w.ownsMap P k R b n D) : Off w b := by
  obtain ⟨es, clock, hb, -⟩ := h
  intro cs t u e
  rw [hb] at e
  cases e
theorem Off.new (h : w.heap.size ≤ b) : Off w b := fun cs t u e => by
  rw [Array.getElem?_eq_none h] at e
  cases e
theorem Off.box (h : Off w b) {g : Nat} {t : TypeId} {cs : Array Value} (hb : Box w g t cs) : ¬ g = b := by
  rintro rfl
  exact h _ _ _ hb
theorem Off.own (h : Off w b) {base z n : Nat} {t : TypeId} {v : Value} {xs : List Value} (ho : w.ownsRow base t z v n xs) {k : Nat} (e : v.ownBlock = some k) : ¬ k = b := by
  rintro rfl
  obtain ⟨cs, c, hc⟩ := own_is ho e
  exact h _ _ _ hc
theorem CeAt.keep (h : CeAt w F x) (hk : Kept S w w') (h1 : ¬ S x.q) (h2 : ¬ S x.f) (h3 : ∀ k, x.dV.ownBlock = some k → ¬ S k) (h4 : ∀ k, x.cV.ownBlock = some k → ¬ S k) {F' : Nat → Prop} (hF : ∀ k, F k → F' k) : CeAt w' F' x :=
  ⟨h.q.kept hk h1, h.f.kept hk h2, hk.own h.d h3, hk.own h.cl h4, hF _ h.Fq, hF _ h.Ff, fun k e => hF _ (h.Fd k e), fun k e => hF _ (h.Fc k e)⟩
/-- The network's own block and its map are written: a copy stays. -/
theorem CeAt.pb (h : CeAt w F x) {cs : Array Value} (hp : Box w p 38 cs) (hb : Off w b) (hk : Kept (fun k => k = p ∨ k = b) w w') {F' : Nat → Prop} (hF : ∀ k, F k → F' k) : CeAt w' F' x := by
  refine h.keep hk ?_ ?_ ?_ ?_ hF
  · rintro (e | e)
    · exact Box.ne h.q hp (by decide) e
    · exact hb.box h.q e
  · rintro (e | e)
    · exact Box.ne h.f hp (by decide) e
    · exact hb.box h.f e
  · rintro k e (rfl | rfl)
    · exact own_box_ne h.d hp (by decide) e
    · exact hb.own h.d e rfl
  · rintro k e (rfl | rfl)
    · exact own_box_ne h.cl hp (by decide) e
    · exact hb.own h.cl e rfl
theorem NetAt.num_le (h : NetAt w p F s es) : ∀ x ∈ es, x.c.num ≤ s.last := fun x hx => h.ok.le x.c (by rw [← h.tie]; exact List.mem_map_of_mem hx)
/-- One more is laid. -/
theorem NetAt.laid (h : NetAt w p F s es) (hlast : s.last < 100000) {src dst sent : Int} {clean : List Int} (hby : isByte clean) (hlen : clean.length ≤ 60000) {f : Nat} {cA : Option Addr} {cc Q : Nat} {A : Option Addr} {cap : Nat} {D : DataW Unit}
    (hbox : Box w' p 38 #[.int .i64 ((s.last + 1 : Nat) : Int), .map (some b)]) (hmap : w'.ownsMap Try.prog 3 ptrElem b (s.last + 1) (D.put (.int .i64 ((s.last + 1 : Nat) : Int)) (.lit (.int .i64 (Q : Int))))) (hD : MapIs D es)
    (hQ : Box w' Q 87 #[.pointer (some ⟨f, 0, none⟩), .int .i64 ((s.last + 1 : Nat) : Int), .slice A clean.length cap, .bool false]) (hf : Box w' f 84 #[.int .i64 src, .int .i64 dst, .int .i64 sent, .slice cA clean.length cc])
    (hd : w'.ownsRow 0 5 1 (.slice A clean.length cap) clean.length (bys clean)) (hcl : w'.ownsRow 0 5 1 (.slice cA clean.length cc) clean.length (bys clean))
    (hk : Kept (fun k => k = p ∨ k = b) w w') (hbF : F b ∨ w.heap.size ≤ b) (hbo : Off w b) (hQn : w.heap.size ≤ Q) (hdn : ∀ k, (Value.slice A clean.length cap).ownBlock = some k → w.heap.size ≤ k) :
    ∃ F' es', NetAt w' p F' (s.add src dst sent clean) es' ∧ (∀ k, F' k → F k ∨ k = f ∨ (Value.slice cA clean.length cc).ownBlock = some k ∨ w.heap.size ≤ k) ∧ Kept F w w' := by
  obtain ⟨mb, hp, -⟩ := h.box
  have hnum := h.num_le
  refine ⟨fun k => F k ∨ k = f ∨ (Value.slice cA clean.length cc).ownBlock = some k ∨ (w.heap.size ≤ k ∧ k < w'.heap.size), es ++ [⟨⟨s.last + 1, src, dst, sent, clean, clean, false⟩, Q, f, A, cap, cA, cc⟩], ?_, fun k hk' => ?_, hk.more fun k hk' e => ?_⟩
  · refine ⟨?_, ⟨some b, hbox, .inr ⟨b, _, rfl, ?_, hmap, MapIs.add (x := ⟨⟨s.last + 1, src, dst, sent, clean, clean, false⟩, Q, f, A, cap, cA, cc⟩) hD fun y hy => ?_⟩⟩, .inl h.fp, ?_, ?_, ?_, h.ok.add src dst sent hby hlen, ?_⟩
    · rw [List.map_append, h.tie]; rfl
    · rcases hbF with e | e
      · exact .inl e
      · exact .inr (.inr (.inr ⟨e, hmap.lt⟩))
    · have := hnum y hy
      show y.c.num ≠ s.last + 1
      omega
    · intro y hy
      rcases List.mem_append.1 hy with hy | hy
      · exact (h.ats y hy).pb hp hbo hk fun k e => .inl e
      · obtain rfl : y = _ := List.mem_singleton.1 hy
        exact ⟨hQ, hf, hd, hcl, .inr (.inr (.inr ⟨hQn, hQ.lt⟩)), .inr (.inl rfl), fun k e => .inr (.inr (.inr ⟨hdn k e, (hd.lt k e).2⟩)), fun k e => .inr (.inr (.inl e))⟩
    · refine List.pairwise_append.2 ⟨h.q, List.pairwise_singleton _ _, fun y hy z hz => ?_⟩
      obtain rfl : z = _ := List.mem_singleton.1 hz
      have := (h.ats y hy).q.lt
      show y.q ≠ Q
      omega
    · rintro k (e | rfl | e | e)
      · exact Nat.lt_of_lt_of_le (h.lt k e) hk.size
      · exact hf.lt
      · exact (hcl.lt k e).2
      · exact e.2
    · show s.last + 1 ≤ 100000
      omega
  · rcases hk' with e | e | e | e
    · exact .inl e
    · exact .inr (.inl e)
    · exact .inr (.inr (.inl e))
    · exact .inr (.inr (.inr e.1))
  · rcases e with rfl | rfl
    · exact h.fp
    · rcases hbF with e | e
      · exact e
      · omega
end
end Go.Proofs.Ytopcogogpbcbhaa
