/- The memory of NetMeans: a network, a book of its copies and what is still there, each in memory of its own. Conditions: as the structures say. -/
import Derived.Test.YtopcogogpbcbhaaNMeP
import Derived.Test.YtopcogogpbcbhaaNOwP
namespace Go.Proofs.Ytopcogogpbcbhaa
open Go Go.RowKit

theorem info_sent : (Try.prog.info? 56).map (fun i => (i.zero, i.size, i.bytes)) = some (some (.agg #[.int .i64 0, .int .i64 0, .int .i64 0, .slice none 0 0, .int .i64 0, .bool false]), 6, 64) := by kernel_rfl
theorem eltSent : Elt Try.prog 52 56 6 64 := .of Try.underlying52 info_sent rfl (by decide) (by decide)
theorem info_bool : (Try.prog.info? 4).map (fun i => (i.zero, i.size, i.bytes)) = some (some (.bool false), 1, 1) := by kernel_rfl
theorem eltBool : Elt Try.prog 53 4 1 1 := .of Try.underlying53 info_bool rfl (by decide) (by decide)
/-- A row that owns its memory. -/
def RowOb (e : TypeId) (size : Nat) (v : Value) (n : Nat) (xs : List Value) (G : Nat → Prop) (W : World) : Prop := W.ownsRow 0 e size v n xs ∧ ∀ k, v.ownBlock = some k → G k
theorem RowOb.ob (e : TypeId) (size : Nat) (v : Value) (n : Nat) (xs : List Value) : Ob (RowOb e size v n xs) where
  kept := fun h hk hS => ⟨hk.own h.1 fun k e => hS k (h.2 k e), h.2⟩
  more := fun h hS => ⟨h.1, fun k e => hS k (h.2 k e)⟩
  cut := fun h => ⟨h.1, fun k e => ⟨h.2 k e, (h.1.lt k e).2⟩⟩
def BkOb (bk : List Cc) (A : Option Addr) (c : Nat) : (Nat → Prop) → World → Prop := RowOb 56 6 (.slice A bk.length c) bk.length (ccs bk)
def ThOb (th : List Bool) (A : Option Addr) (c : Nat) : (Nat → Prop) → World → Prop := RowOb 4 1 (.slice A th.length c) th.length (th.map Value.bool)
theorem BkOb.ob (bk : List Cc) (A : Option Addr) (c : Nat) : Ob (BkOb bk A c) := RowOb.ob ..
theorem ThOb.ob (th : List Bool) (A : Option Addr) (c : Nat) : Ob (ThOb th A c) := RowOb.ob ..
/-- All three. -/
def Me (p : Nat) (s : Nt) (bk : List Cc) (th : List Bool) (B : Option Addr) (bc : Nat) (T : Option Addr) (tc : Nat) : (Nat → Prop) → World → Prop := Pair (Pair (Nob p s) (BkOb bk B bc)) (ThOb th T tc)
theorem Me.ob (p : Nat) (s : Nt) (bk : List Cc) (th : List Bool) (B : Option Addr) (bc : Nat) (T : Option Addr) (tc : Nat) : Ob (Me p s bk th B bc T tc) := Pair.ob (Pair.ob (Nob.ob _ _) (BkOb.ob _ _ _)) (ThOb.ob _ _ _)
section
variable {p : Nat} {s : Nt} {bk : List Cc} {th : List Bool} {B T : Option Addr} {bc tc : Nat} {G : Nat → Prop} {W : World}
theorem Me.net (h : Me p s bk th B bc T tc G W) (hG : ∀ k, W.heap.size ≤ k → G k) :
    ∃ H : Nat → Prop, Nw H p s W ∧ (∀ k, W.heap.size ≤ k → H k) ∧ ∀ (s' : Nt) (W' : World), Nw H p s' W' → Kept H W W' → Me p s' bk th B bc T tc G W' ∧ Kept G W W' := by
  obtain ⟨H1, h1, h2, h3, h4⟩ := Pair.left (ThOb.ob _ _ _) h (Pair.ob (Nob.ob _ _) (BkOb.ob _ _ _)) hG
  obtain ⟨H2, g1, g2, g3, g4⟩ := Pair.left (BkOb.ob _ _ _) h1 (Nob.ob _ _) h2
  refine ⟨H2, g1, g2, fun s' W' hn hk => ?_⟩
  obtain ⟨q1, q2⟩ := g4 (Nob p s') W' (Nob.ob _ _) hn hk
  exact h4 _ W' (Pair.ob (Nob.ob _ _) (BkOb.ob _ _ _)) q1 q2
theorem Me.book (h : Me p s bk th B bc T tc G W) (hG : ∀ k, W.heap.size ≤ k → G k) :
    W.ownsRow 0 56 6 (.slice B bk.length bc) bk.length (ccs bk) ∧ ∀ (bk' : List Cc) (B' : Option Addr) (bc' : Nat) (W' : World), W'.ownsRow 0 56 6 (.slice B' bk'.length bc') bk'.length (ccs bk') → Kept (fun k => (Value.slice B bk.length bc).ownBlock = some k) W W' → Goes W (.slice B bk.length bc) (.slice B' bk'.length bc') → Me p s bk' th B' bc' T tc G W' ∧ Kept G W W' := by
  obtain ⟨H1, h1, h2, h3, h4⟩ := Pair.left (ThOb.ob _ _ _) h (Pair.ob (Nob.ob _ _) (BkOb.ob _ _ _)) hG
  obtain ⟨H2, g1, g2, g3, g4⟩ := Pair.right (Nob.ob _ _) h1 (BkOb.ob _ _ _) h2
  refine ⟨g1.1, fun bk' B' bc' W' hr hk hg => ?_⟩
  obtain ⟨q1, q2⟩ := g4 (BkOb bk' B' bc') W' (BkOb.ob _ _ _) ⟨hr, fun k e => (hg k e).elim (g1.2 k) (g2 k)⟩ (hk.more fun k _ e => g1.2 k e)
  exact h4 _ W' (Pair.ob (Nob.ob _ _) (BkOb.ob _ _ _)) q1 q2
theorem Me.there (h : Me p s bk th B bc T tc G W) (hG : ∀ k, W.heap.size ≤ k → G k) :
    W.ownsRow 0 4 1 (.slice T th.length tc) th.length (th.map Value.bool) ∧ ∀ (th' : List Bool) (T' : Option Addr) (tc' : Nat) (W' : World), W'.ownsRow 0 4 1 (.slice T' th'.length tc') th'.length (th'.map Value.bool) → Kept (fun k => (Value.slice T th.length tc).ownBlock = some k) W W' → Goes W (.slice T th.length tc) (.slice T' th'.length tc') → Me p s bk th' B bc T' tc' G W' ∧ Kept G W W' := by
  obtain ⟨H2, g1, g2, g3, g4⟩ := Pair.right (Pair.ob (Nob.ob _ _) (BkOb.ob _ _ _)) h (ThOb.ob _ _ _) hG
  refine ⟨g1.1, fun th' T' tc' W' hr hk hg => ?_⟩
  exact g4 (ThOb th' T' tc') W' (ThOb.ob _ _ _) ⟨hr, fun k e => (hg k e).elim (g1.2 k) (g2 k)⟩ (hk.more fun k _ e => g1.2 k e)
end
/-- What is asked of a frame that the book keeps: its bytes lie in what was handed in. -/
structure BkOk (w : World) (y : Cc) : Prop where
  b : BytesAt w y.A y.c.data
  none : y.A = none → y.c.data = []
  cap : y.c.data.length ≤ y.cap
  len : y.c.data.length ≤ 60000
section
variable {w : World} {ops : Array Oper} {rest : List Oper} {o : Oper} {a : Act} {Q : Exit → Act → World → Prop}
/-- A copy loaded from a row. -/
theorem load_cc (hgd : o.guard = none) (x : Operand) (ho : o.op = .load 44 x) (g k : Nat) (hx : a.eval x = .pointer (some ⟨g, k * 6, none⟩)) {base n c : Nat} {e : TypeId} (xs : List Cc)
    (hr : w.ownsRow base e 6 (.slice (some ⟨g, 0, none⟩) n c) n (ccs xs)) (hk : k < xs.length) (cs : Array Value) (hcs : xs[k].cs = cs)
    (h : wpList Try.prog ops Q rest (a.put o.dst (.agg cs)) w) : wpList Try.prog ops Q (o :: rest) a w := by
  obtain ⟨d, hu, hd⟩ : ∃ d, Try.prog.underlying 44 = some d ∧ d.isRow = true := ⟨.struct (Try.prog.fieldsOf 44), by kernel_rfl, rfl⟩
  refine wpList_load_mid hgd _ x ho g (k * 6) hx xs[k].cs.toList d (fun j v hj => ?_) hu hd (by rw [Array.length_toList]; exact size_cp) ?_
  · have hj' : j < 6 := by
      have := (List.getElem?_eq_some_iff.1 hj).1
      rwa [Array.length_toList, Cc.cs_size] at this
    have := hr.cells (g := g) rfl (k * 6 + j) v (by rw [ccs_get xs k hk j hj']; exact hj)
    rwa [add_none] at this
  · rw [Array.toArray_toList, hcs]
    exact h
/-- .. from a block of its own. -/
theorem load_cp_box (hgd : o.guard = none) (x : Operand) (ho : o.op = .load 44 x) (g : Nat) (hx : a.eval x = .pointer (some ⟨g, 0, none⟩)) (cs : Array Value) (hs : cs.size = 6) (t : TypeId) (hg : Box w g t cs)
    (h : wpList Try.prog ops Q rest (a.put o.dst (.agg cs)) w) : wpList Try.prog ops Q (o :: rest) a w := by
  obtain ⟨d, hu, hd⟩ : ∃ d, Try.prog.underlying 44 = some d ∧ d.isRow = true := ⟨.struct (Try.prog.fieldsOf 44), by kernel_rfl, rfl⟩
  refine wpList_load_mid hgd _ x ho g 0 hx cs.toList d (fun j v hj => ?_) hu hd (by rw [Array.length_toList, hs]; exact size_cp) ?_
  · rw [Nat.zero_add, hg.cell j]
    simpa using hj
  · rw [Array.toArray_toList]
    exact h
theorem load_stn_box (hgd : o.guard = none) (x : Operand) (ho : o.op = .load 32 x) (g : Nat) (hx : a.eval x = .pointer (some ⟨g, 0, none⟩)) (s : Stn) (t : TypeId) (hg : Box w g t s.cs)
    (h : wpList Try.prog ops Q rest (a.put o.dst (.agg s.cs)) w) : wpList Try.prog ops Q (o :: rest) a w :=
  load_stn hgd x ho _ hx s ((hg.cell 0).trans rfl) (fun j v hj => by show w.cell? ⟨g, 0 + j, none⟩ = _; rw [Nat.zero_add, hg.cell j]; simpa using hj) h
end
theorem Me.start {p : Nat} {s : Nt} {G : Nat → Prop} {W : World} (h : Nw G p s W) : Me p s [] [] none 0 none 0 G W :=
  Pair.make (Pair.ob (Nob.ob _ _) (BkOb.ob _ _ _)) (ThOb.ob _ _ _) (Fb := fun _ => False)
    (Pair.make (Nob.ob _ _) (BkOb.ob _ _ _) (Fb := fun _ => False) (show Nob p s G W from h) (show BkOb [] none 0 (fun _ => False) W from ⟨World.ownsRow_nil _ _ _ _, fun k e => by cases e⟩) (fun _ _ _ e => e) (fun k e => e) (fun k e => e.elim))
    (show ThOb [] none 0 (fun _ => False) W from ⟨World.ownsRow_nil _ _ _ _, fun k e => by cases e⟩) (fun _ _ _ e => e) (fun k e => e) (fun k e => e.elim)
theorem BkOk.of {w : World} {x : Stn} (h : StnOk w x) (hc : x.data.length ≤ x.dc) (n : Nat) (c : Bool) : BkOk w ⟨⟨n, x.src, x.dst, x.at_, x.data, x.data, c⟩, x.dA, x.dc⟩ := ⟨h.b, h.none, hc, h.len⟩
theorem map_set_bool (th : List Bool) (i : Nat) (v : Bool) : (th.set i v).map Value.bool = (th.map Value.bool).set i (.bool v) := by rw [List.map_set]
/-- A row with one of its cells written over. -/
theorem own_put {w : World} {base n c g : Nat} {e : TypeId} {xs : List Value} (h : w.ownsRow base e 1 (.slice (some ⟨g, 0, none⟩) n c) n xs) (i : Nat) (v : Value) : (w.setCell ⟨g, i, none⟩ v).ownsRow base e 1 (.slice (some ⟨g, 0, none⟩) n c) n (xs.set i v) := (World.ownsRow.stored h i v).1
theorem cpC_size6 (c : Cp) (A : Option Addr) (cap : Nat) : (cpC c A cap).size = 6 := rfl
def zeroStn : Array Value := #[.int .i64 0, .int .i64 0, .int .i64 0, .int .i64 0, .int .i64 0, .slice none 0 0]
def zeroCpC : Array Value := #[.int .i64 0, .int .i64 0, .int .i64 0, .slice none 0 0, .int .i64 0, .bool false]
end Go.Proofs.Ytopcogogpbcbhaa
