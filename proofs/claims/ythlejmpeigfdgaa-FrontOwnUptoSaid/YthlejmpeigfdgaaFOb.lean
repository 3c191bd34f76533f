/- A Front, a Front of the reference, a list of Dots, a list of ints as objects with memory of their own: their calls as contracts. No condition beyond the contracts' own. -/
import Derived.Test.YthlejmpeigfdgaaRFFrn
import Derived.Test.YthlejmpeigfdgaaFVec
namespace Go.Proofs.Ythlejmpeigfdgaa
open Go Go.RowKit

/-- A Front whose memory lies in G; its map has at most N. -/
def Fob (p : Nat) (s : List Fp) (N : Nat) (G : Nat → Prop) (W : World) : Prop := ∃ F es n, n ≤ N ∧ FrAt W p F s es n ∧ ∀ k, F k → G k
theorem Fob.ob (p : Nat) (s : List Fp) (N : Nat) : Ob (Fob p s N) where
  kept := by
    rintro G S W W' ⟨F, es, n, h0, h1, h2⟩ hk hS
    exact ⟨F, es, n, h0, h1.kept hk fun k e => hS k (h2 k e), h2⟩
  more := by
    rintro G S W ⟨F, es, n, h0, h1, h2⟩ hS
    exact ⟨F, es, n, h0, h1, fun k e => hS k (h2 k e)⟩
  cut := by
    rintro G W ⟨F, es, n, h0, h1, h2⟩
    exact ⟨F, es, n, h0, h1, fun k e => ⟨h2 k e, h1.lt k e⟩⟩
/-- A Front of the reference whose memory lies in G. -/
def Rfb (g : Nat) (s : List Fp) (G : Nat → Prop) (W : World) : Prop := ∃ F, RfS W g F s ∧ ∀ k, F k → G k
theorem RfS.lt {W : World} {g : Nat} {F : Nat → Prop} {s : List Fp} (h : RfS W g F s) : ∀ k, F k → k < W.heap.size := by
  obtain ⟨_, _, r, c, hd, h3, _⟩ := h
  exact h3.lt
theorem Rfb.ob (g : Nat) (s : List Fp) : Ob (Rfb g s) where
  kept := by
    rintro G S W W' ⟨F, h1, h2⟩ hk hS
    exact ⟨F, h1.kept hk fun k e => hS k (h2 k e), h2⟩
  more := by
    rintro G S W ⟨F, h1, h2⟩ hS
    exact ⟨F, h1, fun k e => hS k (h2 k e)⟩
  cut := by
    rintro G W ⟨F, h1, h2⟩
    exact ⟨F, h1, fun k e => ⟨h2 k e, h1.lt k e⟩⟩
/-- A slice that owns its memory. -/
def Own1 (e : TypeId) (z : Nat) (v : Value) (n : Nat) (xs : List Value) (G : Nat → Prop) (W : World) : Prop := W.ownsRow 0 e z v n xs ∧ ∀ k, v.ownBlock = some k → G k
theorem Own1.ob (e : TypeId) (z : Nat) (v : Value) (n : Nat) (xs : List Value) : Ob (Own1 e z v n xs) where
  kept := by
    rintro G S W W' ⟨h1, h2⟩ hk hS
    exact ⟨hk.own h1 fun k e => hS k (h2 k e), h2⟩
  more := by
    rintro G S W ⟨h1, h2⟩ hS
    exact ⟨h1, fun k e => hS k (h2 k e)⟩
  cut := by
    rintro G W ⟨h1, h2⟩
    exact ⟨h1, fun k e => ⟨h2 k e, (h1.lt k e).2⟩⟩
theorem Ob.true_ : Ob (fun _ _ => True) := ⟨fun _ _ _ => trivial, fun _ _ => trivial, fun _ => trivial⟩
theorem Ob.and {A B : (Nat → Prop) → World → Prop} (ha : Ob A) (hb : Ob B) : Ob (fun G W => A G W ∧ B G W) :=
  ⟨fun h hk hS => ⟨ha.kept h.1 hk hS, hb.kept h.2 hk hS⟩, fun h hS => ⟨ha.more h.1 hS, hb.more h.2 hS⟩, fun h => ⟨ha.cut h.1, hb.cut h.2⟩⟩
section
variable {G : Nat → Prop} {p g N : Nat} {s : List Fp} {W : World}
theorem Fob.ok (h : Fob p s N G W) : FsOk s := by obtain ⟨F, es, n, h0, h1, h2⟩ := h; exact h1.ok
theorem Fob.post {W' : World} {F : Nat → Prop} {n d : Nat} (hn : n ≤ N) (h : ∀ k, F k → G k) (hG : ∀ k, W.heap.size ≤ k → G k) (hp : FrPost W p F s (n + d) W') : Fob p s (N + d) G W' ∧ Kept G W W' := by
  obtain ⟨F', es, n', h0, h1, h2, h3⟩ := hp
  exact ⟨⟨F', es, n', by omega, h1, fun k e => (h2 k e).elim (h k) (hG k)⟩, h3.more fun k _ e => h k e⟩
theorem Fob.hear {m : Int} (h : Fob p s N G W) (hG : ∀ k, W.heap.size ≤ k → G k) (hN : N < 900000) (hm : (Lit.int .i64 m).wf = true) (A : Option Addr) (v : List Dt) (c : Nat) (hv : ∀ W', Kept G W W' → DotsAt W' A v) (hl : v.length ≤ 1000000) :
    Calls Try.prog 17 #[.pointer (some ⟨p, 0, none⟩), .int .i64 m, .slice A v.length c] W fun r W' => r = .returned (.int .i64 (hearE m v)) ∧ Fob p (Go.Proofs.Ythlejmpeigfdgaa.hear s m v) (N + 1) G W' ∧ Kept G W W' := by
  obtain ⟨F, es, n, h0, h1, h2⟩ := h
  refine (FHear_any p n F s es W h1 (by omega) m hm A v c (fun W' hk => hv W' (hk.more fun k _ e => h2 k e)) hl).mono ?_
  rintro r W' ⟨h3, h4⟩
  exact ⟨h3, Fob.post h0 h2 hG h4⟩
theorem Fob.settle (h : Fob p s N G W) (hG : ∀ k, W.heap.size ≤ k → G k) (hN : N < 900000) (A : Option Addr) (v : List Dt) (c : Nat) (hv : ∀ W', Kept G W W' → DotsAt W' A v) (hl : v.length ≤ 1000000) :
    Calls Try.prog 15 #[.pointer (some ⟨p, 0, none⟩), .slice A v.length c] W fun r W' => (∃ u, r = .returned u) ∧ Fob p (Go.Proofs.Ythlejmpeigfdgaa.settle s v) (N + 17) G W' ∧ Kept G W W' := by
  obtain ⟨F, es, n, h0, h1, h2⟩ := h
  refine (FSettle_any p n F s es W h1 (by omega) A v c (fun W' hk => hv W' (hk.more fun k _ e => h2 k e)) hl).mono ?_
  rintro r W' ⟨h3, h4⟩
  exact ⟨h3, Fob.post h0 h2 hG h4⟩
theorem Fob.row_ {m : Int} (h : Fob p s N G W) (hm : (Lit.int .i64 m).wf = true) : Calls Try.prog 16 #[.pointer (some ⟨p, 0, none⟩), .int .i64 m] W (RowAns W (rowF s m) (heardF s m)) := by
  obtain ⟨F, es, n, h0, h1, h2⟩ := h
  exact FRow_any p n F s es W h1 m hm
theorem Fob.usable_ {m : Int} (h : Fob p s N G W) (hm : (Lit.int .i64 m).wf = true) : Calls Try.prog 18 #[.pointer (some ⟨p, 0, none⟩), .int .i64 m] W (FreshDots W (usableF s m)) := by
  obtain ⟨F, es, n, h0, h1, h2⟩ := h
  exact FUsable_any p n F s es W h1 m hm
theorem Fob.frontier_ (h : Fob p s N G W) (M : Option Addr) (ms : List Int) (mc : Nat) (self : Int) (A : Option Addr) (v : List Dt) (c : Nat) (hM : IntsAt W M ms) (hv : DotsAt W A v) (hml : ms.length ≤ 1000000) (hl : v.length ≤ 1000000) (hwf : ∀ m ∈ ms, (Lit.int .i64 m).wf = true) :
    Calls Try.prog 19 #[.pointer (some ⟨p, 0, none⟩), .slice M ms.length mc, .int .i64 self, .slice A v.length c] W (FreshDots W (frontier s ms self v)) := by
  obtain ⟨F, es, n, h0, h1, h2⟩ := h
  exact FFrontier_any p n F s es W h1 M ms mc self A v c hM hv hml hl hwf
theorem Rfb.ok (h : Rfb g s G W) : FsOk s ∧ FsV s := by obtain ⟨F, h1, h2⟩ := h; exact ⟨h1.1, h1.2.1⟩
theorem Rfb.hear {m : Int} (h : Rfb g s G W) (hG : ∀ k, W.heap.size ≤ k → G k) (A : Option Addr) (v : List Dt) (c : Nat) (hv : ∀ W', Kept G W W' → DotsAt W' A v) (hl : v.length ≤ 1000000) :
    Calls Try.prog 25 #[.pointer (some ⟨g, 0, none⟩), .int .i64 m, .slice A v.length c] W fun r W' => r = .returned (.int .i64 (hearE m v)) ∧ Rfb g (Go.Proofs.Ythlejmpeigfdgaa.hear s m v) G W' ∧ Kept G W W' := by
  obtain ⟨F, h1, h2⟩ := h
  refine (RFHear_any g F s W h1 m A v c (fun W' hk => hv W' (hk.more fun k _ e => h2 k e)) hl).mono ?_
  rintro r W' ⟨h3, F', h4, h5, h6⟩
  exact ⟨h3, ⟨F', h4, fun k e => (h5 k e).elim (h2 k) (hG k)⟩, h6.more fun k _ e => h2 k e⟩
theorem Rfb.settle (h : Rfb g s G W) (hG : ∀ k, W.heap.size ≤ k → G k) (A : Option Addr) (v : List Dt) (c : Nat) (hv : ∀ W', Kept G W W' → DotsAt W' A v) (hl : v.length ≤ 1000000) :
    Calls Try.prog 26 #[.pointer (some ⟨g, 0, none⟩), .slice A v.length c] W fun r W' => (∃ u, r = .returned u) ∧ Rfb g (Go.Proofs.Ythlejmpeigfdgaa.settle s v) G W' ∧ Kept G W W' := by
  obtain ⟨F, h1, h2⟩ := h
  refine (RFSettle_any g F s W h1 A v c (fun W' hk => hv W' (hk.more fun k _ e => h2 k e)) hl).mono ?_
  rintro r W' ⟨h3, F', h4, h5, h6⟩
  exact ⟨h3, ⟨F', h4, fun k e => (h5 k e).elim (h2 k) (hG k)⟩, h6.more fun k _ e => h2 k e⟩
theorem Rfb.row_ {m : Int} (h : Rfb g s G W) : Calls Try.prog 28 #[.pointer (some ⟨g, 0, none⟩), .int .i64 m] W (RowAns W (rowF s m) (heardF s m)) := by
  obtain ⟨F, h1, h2⟩ := h
  exact RFRow_any g F s W h1 m
theorem Rfb.usable_ {m : Int} (h : Rfb g s G W) : Calls Try.prog 29 #[.pointer (some ⟨g, 0, none⟩), .int .i64 m] W (FreshDots W (usableF s m)) := by
  obtain ⟨F, h1, h2⟩ := h
  exact RFUsable_any g F s W h1 m
theorem Rfb.frontier_ (h : Rfb g s G W) (M : Option Addr) (ms : List Int) (mc : Nat) (self : Int) (A : Option Addr) (v : List Dt) (c : Nat) (hM : IntsAt W M ms) (hv : DotsAt W A v) (hml : ms.length ≤ 1000000) (hl : v.length ≤ 1000000) :
    Calls Try.prog 27 #[.pointer (some ⟨g, 0, none⟩), .slice M ms.length mc, .int .i64 self, .slice A v.length c] W (FreshDots W (frontier s ms self v)) := by
  obtain ⟨F, h1, h2⟩ := h
  exact RFFrontier_any g F s W h1 M ms mc self A v c hM hv hml hl
end
/-- Something new is laid beside an object. -/
theorem Pair.lay {A B : (Nat → Prop) → World → Prop} {G Fb : Nat → Prop} {W W' : World} (ha : Ob A) (hb : Ob B) (h : A G W) (hk : Kept (fun _ => False) W W') (h2 : B Fb W') (hn : ∀ k, Fb k → W.heap.size ≤ k) (hG : ∀ k, W.heap.size ≤ k → G k) : Pair A B G W' :=
  Pair.make ha hb (ha.fresh (ha.cut h) hk) h2 (fun k e _ e2 => by have := hn k e2; have := e.2; omega) (fun k e => e.1) (fun k e => hG k (hn k e))
theorem Pair.fst {A B : (Nat → Prop) → World → Prop} {G : Nat → Prop} {W : World} (ha : Ob A) (h : Pair A B G W) : A G W := by
  obtain ⟨Fa, Fb, h1, h2, h3, h4⟩ := h
  exact ha.more h1 fun k e => (h3 k e).1
theorem Pair.snd {A B : (Nat → Prop) → World → Prop} {G : Nat → Prop} {W : World} (hb : Ob B) (h : Pair A B G W) : B G W := by
  obtain ⟨Fa, Fb, h1, h2, h3, h4⟩ := h
  exact hb.more h2 fun k e => (h4 k e).1
/-- While the first goes on, the second stays. -/
theorem Pair.stays {B : (Nat → Prop) → World → Prop} {G H : Nat → Prop} {W W' : World} (hb : Ob B) (h : ∀ (A' : (Nat → Prop) → World → Prop) (W' : World), Ob A' → A' H W' → Kept H W W' → Pair A' B G W' ∧ Kept G W W') (hk : Kept H W W') : B G W' :=
  ((h (fun _ _ => True) W' Ob.true_ trivial hk).1).snd hb
/-- Something new is laid beside the second of two. -/
theorem Pair.also {A B C : (Nat → Prop) → World → Prop} {G Fc : Nat → Prop} {W W' : World} (ha : Ob A) (hb : Ob B) (hc : Ob C) (h : Pair A B G W) (hk : Kept (fun _ => False) W W') (h2 : C Fc W') (hn : ∀ k, Fc k → W.heap.size ≤ k) (hG : ∀ k, W.heap.size ≤ k → G k) : Pair A (fun G W => B G W ∧ C G W) G W' := by
  obtain ⟨Fa, Fb, g1, g2, g3, g4⟩ := h
  refine ⟨Fa, fun k => Fb k ∨ (Fc k ∧ k < W'.heap.size), ha.fresh g1 hk, ⟨hb.more (hb.fresh g2 hk) fun k e => .inl e, hc.more (hc.cut h2) fun k e => .inr e⟩, fun k e => ⟨(g3 k e).1, fun e2 => e2.elim (g3 k e).2.1 fun e2 => ?_, Nat.lt_of_lt_of_le (g3 k e).2.2 hk.size⟩, fun k e => e.elim (fun e => ⟨(g4 k e).1, Nat.lt_of_lt_of_le (g4 k e).2 hk.size⟩) fun e => ⟨hG k (hn k e.1), e.2⟩⟩
  have := hn k e2.1
  have := (g3 k e).2.2
  omega
theorem Pair.snd_mono {A B B' : (Nat → Prop) → World → Prop} {G : Nat → Prop} {W : World} (h : Pair A B G W) (hB : ∀ G, B G W → B' G W) : Pair A B' G W := by
  obtain ⟨Fa, Fb, h1, h2, h3, h4⟩ := h
  exact ⟨Fa, Fb, h1, hB _ h2, h3, h4⟩
theorem Own1.new (w : World) (e : TypeId) (z n : Nat) (cs : Array Value) (xs : List Value) (h : cs.toList = xs) (hn : xs.length = n * z) (hc : n ≤ maxLen) : Own1 e z (.slice (some ⟨w.heap.size, 0, none⟩) n n) n xs (fun k => k = w.heap.size) (w.alloc (.cells cs e)) :=
  ⟨⟨hn, .inr ⟨w.heap.size, n, cs, rfl, Nat.zero_le _, heap_alloc_new w _, Nat.le_refl _, hc, by rw [← hn, ← h, Array.length_toList], by rw [h, ← hn, List.take_length]⟩⟩, fun k e => by injection e with e; exact e.symm⟩
theorem DotsAt.new (w : World) (l : List Dt) (T : TypeId) (cs : Array Value) (h : cs.toList = dots l) : DotsAt (w.alloc (.cells cs T)) (some ⟨w.heap.size, 0, none⟩) l := fun k hk => by
  obtain ⟨g0, g1⟩ := dots_get l k hk
  refine ⟨_, rfl, ?_, ?_⟩
  · rw [add_none, (Box.new w T cs).cell, ← g0, ← h]; simp
  · rw [add_none, (Box.new w T cs).cell, ← g1, ← h]; simp
theorem IntsAt.new (w : World) (l : List Int) (T : TypeId) (cs : Array Value) (h : cs.toList = l.map encZ) : IntsAt (w.alloc (.cells cs T)) (some ⟨w.heap.size, 0, none⟩) l := fun k hk => by
  refine ⟨_, rfl, ?_⟩
  rw [show (⟨w.heap.size, 0, none⟩ : Addr).add k = ⟨w.heap.size, k, none⟩ by unfold Addr.add; split <;> simp_all, (Box.new w T cs).cell]
  have : cs.toList[k]? = some (.int .i64 l[k]) := by rw [h]; simp [encZ, hk]
  rw [← this]; simp
end Go.Proofs.Ythlejmpeigfdgaa
