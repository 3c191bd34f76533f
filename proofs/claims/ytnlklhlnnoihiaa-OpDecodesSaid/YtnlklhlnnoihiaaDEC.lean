/- The memory in which the reference's op Take works (T8), and how it ends. Conditions: the bytes lie in memory as BytesAt says. · The walk of the reference's op Take. Conditions: the bytes lie in memory as BytesAt says; what is taken is small. · The walk of the reference's op Decode. Conditions: the bytes lie in memory as BytesAt says; what is taken is small. -/
import Derived.Test.YtnlklhlnnoihiaaDEB
import Derived.Test.YtnlklhlnnoihiaaMO34
import Derived.Test.YtnlklhlnnoihiaaMO29
import Derived.Test.YtnlklhlnnoihiaaMO10
namespace Go.Proofs.Ytnlklhlnnoihiaa
open Go Go.RowKit

def o8 (kn st sq : Int) (deps : List Dt) : Opr := ⟨⟨st, sq⟩, deps, kn, noId, noId, ⟨#[]⟩, [], 0⟩
/-- The Reader in the first block made (at place a, with error e), the results in the two next, the operation o in the fourth. -/
structure T8 (w : World) (A : Option Addr) (b : List Int) (c a : Nat) (e : Int) (o : Opr) (dA : Option Addr) (dc : Nat) (gA : Option Addr) (gc : Nat) (wr : World) : Prop where
  rd : Box wr w.heap.size 52 (rdV A b c a e)
  r2 : Box wr (w.heap.size + 1) 30 zeroC
  r3 : Box wr (w.heap.size + 2) 52 (rdV none [] 0 0 0)
  op : Box wr (w.heap.size + 3) 30 (o.cells dA dc gA gc)
  d : wr.ownsRow (w.heap.size + 4) 23 2 (.slice dA o.deps.length dc) o.deps.length (dots o.deps)
  g : wr.ownsRow (w.heap.size + 4) 32 3 (.slice gA o.gone.length gc) o.gone.length (runs o.gone)
  bytes : BytesAt wr A b
  off : b ≠ [] → ∀ a, A = some a → a.block < w.heap.size
  k : Kept (fun _ => False) w wr
/-- The same, and a run in block X. -/
structure T9 (w : World) (A : Option Addr) (b : List Int) (c a : Nat) (e : Int) (o : Opr) (dA : Option Addr) (dc : Nat) (gA : Option Addr) (gc X : Nat) (x y z : Int) (wr : World) : Prop where
  t : T8 w A b c a e o dA dc gA gc wr
  x : Box wr X 32 #[.int .i64 x, .int .i64 y, .int .i64 z]
  ge : w.heap.size + 4 ≤ X
  ne : (Value.slice gA o.gone.length gc).ownBlock ≠ some X
section
variable {w : World} {A : Option Addr} {b : List Int} {c a : Nat} {e : Int} {o : Opr} {dA : Option Addr} {dc : Nat} {gA : Option Addr} {gc : Nat} {w1 w2 : World} {S : Nat → Prop}
theorem T8.lt (h : T8 w A b c a e o dA dc gA gc w1) : w.heap.size + 3 < w1.heap.size := h.op.lt
theorem T8.byt (h : T8 w A b c a e o dA dc gA gc w1) (hk : Kept S w1 w2) (hS : ∀ k, S k → w.heap.size ≤ k) : BytesAt w2 A b := by
  have h1 := h.bytes
  have h2 := h.off
  clear h
  rcases b with _ | ⟨x, b⟩
  · exact BytesAt.nil
  · exact h1.kept hk fun a ha e => by have := hS _ e; have := h2 (by simp) a ha; omega
theorem T8.kept (h : T8 w A b c a e o dA dc gA gc w1) (hk : Kept S w1 w2) (hS : ∀ k, S k → w.heap.size + 4 ≤ k) (hd : ∀ k, (Value.slice dA o.deps.length dc).ownBlock = some k → ¬ S k) (hg : ∀ k, (Value.slice gA o.gone.length gc).ownBlock = some k → ¬ S k) : T8 w A b c a e o dA dc gA gc w2 :=
  ⟨h.rd.kept hk fun e => (by have := hS _ e; omega), h.r2.kept hk fun e => (by have := hS _ e; omega), h.r3.kept hk fun e => (by have := hS _ e; omega), h.op.kept hk fun e => (by have := hS _ e; omega),
    hk.own h.d hd, hk.own h.g hg, h.byt hk fun k e => (by have := hS _ e; omega), h.off, h.k.trans hk fun k hk e => (by have := hS _ e; omega)⟩
theorem T8.fresh (h : T8 w A b c a e o dA dc gA gc w1) (hk : Kept (fun _ => False) w1 w2) : T8 w A b c a e o dA dc gA gc w2 := h.kept hk (fun _ e => e.elim) (fun _ _ => id) (fun _ _ => id)
theorem T8.ownd (h : T8 w A b c a e o dA dc gA gc w1) (n : Nat) (hn : n < 4) : ∀ k, (Value.slice dA o.deps.length dc).ownBlock = some k → ¬ k = w.heap.size + n := fun k e hk => by have := (h.d.lt k e).1; omega
theorem T8.owng (h : T8 w A b c a e o dA dc gA gc w1) (n : Nat) (hn : n < 4) : ∀ k, (Value.slice gA o.gone.length gc).ownBlock = some k → ¬ k = w.heap.size + n := fun k e hk => by have := (h.g.lt k e).1; omega
theorem T8.reader (h : T8 w A b c a e o dA dc gA gc w1) {a' : Nat} {e' : Int} (hb : Box w2 w.heap.size 52 (rdV A b c a' e')) (hk : Kept (fun k => k = w.heap.size) w1 w2) : T8 w A b c a' e' o dA dc gA gc w2 :=
  ⟨hb, h.r2.kept hk (by omega), h.r3.kept hk (by omega), h.op.kept hk (by omega), hk.own h.d (h.ownd 0 (by omega)), hk.own h.g (h.owng 0 (by omega)), h.byt hk (fun k e => by omega), h.off, h.k.trans hk fun k hk e => by omega⟩
theorem T8.zero (h : T8 w A b c a e o dA dc gA gc w1) (hb : Box w2 (w.heap.size + 1) 30 zeroC) (hk : Kept (fun k => k = w.heap.size + 1) w1 w2) : T8 w A b c a e o dA dc gA gc w2 :=
  ⟨h.rd.kept hk (by omega), hb, h.r3.kept hk (by omega), h.op.kept hk (by omega), hk.own h.d (h.ownd 1 (by omega)), hk.own h.g (h.owng 1 (by omega)), h.byt hk (fun k e => by omega), h.off, h.k.trans hk fun k hk e => by omega⟩
/-- A cell of the operation is written; where its lists lie is told anew. -/
theorem T8.field (h : T8 w A b c a e o dA dc gA gc w1) (j : Nat) (v : Value) {o' : Opr} {dA' : Option Addr} {dc' : Nat} {gA' : Option Addr} {gc' : Nat} (hc : (o.cells dA dc gA gc).setIfInBounds j v = o'.cells dA' dc' gA' gc')
    (hd : w1.ownsRow (w.heap.size + 4) 23 2 (.slice dA' o'.deps.length dc') o'.deps.length (dots o'.deps)) (hg : w1.ownsRow (w.heap.size + 4) 32 3 (.slice gA' o'.gone.length gc') o'.gone.length (runs o'.gone)) :
    T8 w A b c a e o' dA' dc' gA' gc' (w1.setCell ⟨w.heap.size + 3, j, none⟩ v) := by
  have hk : Kept (fun k => k = w.heap.size + 3) w1 (w1.setCell ⟨w.heap.size + 3, j, none⟩ v) := (Kept.refl (fun k => k = w.heap.size + 3) _).at j v (.inl rfl)
  exact ⟨h.rd.kept hk (by omega), h.r2.kept hk (by omega), h.r3.kept hk (by omega), hc ▸ h.op.set j v, hk.own hd (fun k e hk => by have := (hd.lt k e).1; omega), hk.own hg (fun k e hk => by have := (hg.lt k e).1; omega), h.byt hk (fun k e => by omega), h.off, h.k.trans hk fun k hk e => by omega⟩
/-- The list of runs is gone on from (the operation's cell has the old one still). -/
theorem T8.added (h : T8 w A b c a e o dA dc gA gc w1) (hk : Kept (fun k => (Value.slice gA o.gone.length gc).ownBlock = some k) w1 w2) {o' : Opr} {gA' : Option Addr} {gc' : Nat} (hc : (o.cells dA dc gA gc).setIfInBounds 9 (.slice gA' o'.gone.length gc') = o'.cells dA dc gA' gc')
    (hd : o'.deps = o.deps) (hg : w2.ownsRow (w.heap.size + 4) 32 3 (.slice gA' o'.gone.length gc') o'.gone.length (runs o'.gone)) :
    T8 w A b c a e o' dA dc gA' gc' (w2.setCell ⟨w.heap.size + 3, 9, none⟩ (.slice gA' o'.gone.length gc')) := by
  have hS := fun k (e : (Value.slice gA o.gone.length gc).ownBlock = some k) => (h.g.lt k e).1
  have hd2 : w2.ownsRow (w.heap.size + 4) 23 2 (.slice dA o'.deps.length dc) o'.deps.length (dots o'.deps) := by
    rw [hd]
    exact hk.own h.d (own_other h.d h.g (by decide))
  have hk2 : Kept (fun k => k = w.heap.size + 3) w2 (w2.setCell ⟨w.heap.size + 3, 9, none⟩ (.slice gA' o'.gone.length gc')) := (Kept.refl (fun k => k = w.heap.size + 3) _).at 9 _ (.inl rfl)
  have hk3 : Kept (fun k => (Value.slice gA o.gone.length gc).ownBlock = some k ∨ k = w.heap.size + 3) w1 (w2.setCell ⟨w.heap.size + 3, 9, none⟩ (.slice gA' o'.gone.length gc')) := (hk.more fun k _ e => .inl e).trans hk2 fun k _ e => .inr e
  have hS3 : ∀ n, n < 3 → ¬ ((Value.slice gA o.gone.length gc).ownBlock = some (w.heap.size + n) ∨ w.heap.size + n = w.heap.size + 3) := by
    rintro n hn (e | e)
    · have := hS _ e; omega
    · omega
  exact ⟨h.rd.kept hk3 (hS3 0 (by omega)), h.r2.kept hk3 (hS3 1 (by omega)), h.r3.kept hk3 (hS3 2 (by omega)), hc ▸ ((h.op.kept hk fun e => by have := hS _ e; omega).set 9 _), hk2.own hd2 (fun k e hk => by have := (hd2.lt k e).1; omega), hk2.own hg (fun k e hk => by have := (hg.lt k e).1; omega),
    h.byt hk3 (fun k e => by rcases e with e | e; · have := hS _ e; omega
                             · omega), h.off, h.k.trans hk3 fun k hk e => by rcases e with e | e; · have := hS _ e; omega
                                                                             · omega⟩
variable {X : Nat} {x y z : Int}
theorem T9.make (h : T8 w A b c a e o dA dc gA gc w1) : T9 w A b c a e o dA dc gA gc w1.heap.size 0 0 0 (w1.alloc (.cells #[.int .i64 0, .int .i64 0, .int .i64 0] 32)) :=
  ⟨h.fresh ((Kept.refl _ _).alloc _), Box.new _ _ _, by have := h.lt; omega, fun e => by have := (h.g.lt _ e).2; omega⟩
theorem T9.fresh (h : T9 w A b c a e o dA dc gA gc X x y z w1) (hk : Kept (fun _ => False) w1 w2) : T9 w A b c a e o dA dc gA gc X x y z w2 := ⟨h.t.fresh hk, h.x.kept hk id, h.ge, h.ne⟩
theorem T9.reader (h : T9 w A b c a e o dA dc gA gc X x y z w1) {a' : Nat} {e' : Int} (hb : Box w2 w.heap.size 52 (rdV A b c a' e')) (hk : Kept (fun k => k = w.heap.size) w1 w2) : T9 w A b c a' e' o dA dc gA gc X x y z w2 :=
  ⟨h.t.reader hb hk, h.x.kept hk (by have := h.ge; omega), h.ge, h.ne⟩
theorem T9.field (h : T9 w A b c a e o dA dc gA gc X x y z w1) (j : Nat) (v : Value) {x' y' z' : Int} (hc : (#[.int .i64 x, .int .i64 y, .int .i64 z] : Array Value).setIfInBounds j v = #[.int .i64 x', .int .i64 y', .int .i64 z']) : T9 w A b c a e o dA dc gA gc X x' y' z' (w1.setCell ⟨X, j, none⟩ v) := by
  have hk : Kept (fun k => k = X) w1 (w1.setCell ⟨X, j, none⟩ v) := (Kept.refl (fun k => k = X) _).at j v (.inl rfl)
  exact ⟨h.t.kept hk (fun k e => by have := h.ge; omega) (fun k e hX => by subst hX; exact own_box_ne h.t.d h.x (by decide) e) (fun k e hX => by subst hX; exact h.ne e), hc ▸ h.x.set j v, h.ge, h.ne⟩
end
/-- What the reference's Take answers. -/
def RT8Post (w : World) (A : Option Addr) (b : List Int) (c : Nat) (x : Int × Opr × Rd) (r : Ending) (w' : World) : Prop :=
  ∃ (y : Lop) (a : Nat), r = .returned (.tuple #[.agg y.c, .agg (rdV A b c a x.2.2.e), .int .i64 x.1]) ∧ y.o = x.2.1 ∧ a ≤ b.length ∧ b.drop a = x.2.2.l ∧ y.Own w' w.heap.size ∧ Kept (fun _ => False) w w'
theorem results_cells_slot {fn : Func} {p q r : Tmp} {ty ty' : TypeId} (h : fn.results = #[.cell p ty, .cell q ty', .tmp r]) (tmps : Array Value) (w : World) (v u x : Value) (g g' : Nat)
    (hp : tmps.getD p undef = .pointer (some ⟨g, 0, none⟩)) (hl : (loadVar ty ⟨g, 0, none⟩).run Try.prog w = .ok v w)
    (hq : tmps.getD q undef = .pointer (some ⟨g', 0, none⟩)) (hl' : (loadVar ty' ⟨g', 0, none⟩).run Try.prog w = .ok u w) (hx : tmps.getD r undef = x) :
    (results fn tmps).run Try.prog w = .ok (.tuple #[v, u, x]) w := by
  have hp' : tmps[p]?.getD undef = .pointer (some ⟨g, 0, none⟩) := by simpa using hp
  have hq' : tmps[q]?.getD undef = .pointer (some ⟨g', 0, none⟩) := by simpa using hq
  have hx' : tmps[r]?.getD undef = x := by simpa using hx
  simp [results, h, hp', hq', hx', asAddr, hl, hl']
theorem RT8Post.ret {w w' : World} {A : Option Addr} {b : List Int} {c a : Nat} {er e : Int} {o : Opr} {dA : Option Addr} {dc : Nat} {gA : Option Addr} {gc : Nat} {s : Rd} {x : Int × Opr × Rd} {ac : Act} (hx : x = (er, o, s)) (hse : s.e = e)
    (ho : Box w' (w.heap.size + 1) 30 (o.cells dA dc gA gc)) (hb : Box w' (w.heap.size + 2) 52 (rdV A b c a e)) (h1 : a ≤ b.length) (h2 : b.drop a = s.l) (hd : w'.ownsRow w.heap.size 23 2 (.slice dA o.deps.length dc) o.deps.length (dots o.deps)) (hg : w'.ownsRow w.heap.size 32 3 (.slice gA o.gone.length gc) o.gone.length (runs o.gone)) (hk : Kept (fun _ => False) w w')
    (e2 : ac.tmps.getD 2 undef = .pointer (some ⟨w.heap.size + 1, 0, none⟩)) (e3 : ac.tmps.getD 3 undef = .pointer (some ⟨w.heap.size + 2, 0, none⟩)) (e4 : ac.tmps.getD 4 undef = .int .i64 er) (hdf : ac.defers = []) :
    bodyPost Try.prog Try.f27 (RT8Post w A b c x) Exit.ret ac w' := by
  subst hx hse
  exact bodyPost_ret (results_cells_slot (show Try.f27.results = #[.cell 2 30, .cell 3 52, .tmp 4] by kernel_rfl) _ _ _ _ _ (w.heap.size + 1) (w.heap.size + 2) e2 (load_OP ho rfl) e3 (load_RR hb) e4) hdf ⟨⟨o, dA, dc, gA, gc⟩, a, rfl, rfl, h1, h2, ⟨hd, hg⟩, hk⟩
theorem takeLoop_e : ∀ (k : Nat) (last : Int) (acc : List Dt) (s : Rd), s.e = 0 → (takeLoop k last acc s).1 = 0 → (takeLoop k last acc s).2.2.e = 0 := by
  intro k
  induction k with
  | zero => intro last acc s h _; exact h
  | succ k ih =>
    intro last acc s h
    rw [takeLoop]
    split
    · intro h'; exact h'
    split
    · intro h'; cases h'
    split
    · intro h'; exact h'
    split
    · intro h'; cases h'
    · rename_i h1 h2 h3 h4
      exact ih _ _ _ (by simpa using h3)
theorem takeV_e (s : Rd) : (takeV s).1 = 0 → (takeV s).2.2.e = 0 := by
  unfold takeV
  split
  · intro h'; exact h'
  split
  · intro h'; cases h'
  · rename_i h1 h2
    exact takeLoop_e _ _ _ _ (by simpa using h1)
end Go.Proofs.Ytnlklhlnnoihiaa

namespace Go.Proofs.Ytnlklhlnnoihiaa
open Go Go.RowKit

set_option maxRecDepth 100000 in
set_option maxHeartbeats 16000000 in
theorem RTake8_any (A : Option Addr) (b : List Int) (c : Nat) (w : World) (hb : BytesAt w A b) (hby : isByte b) (hlen : b.length ≤ 1000000) (hc : b.length ≤ c ∧ c ≤ maxLen) (hA : b ≠ [] → ∀ a, A = some a → a.block < w.heap.size)
    (hsm : (takeR ⟨b, 0⟩).1 = 0 → (takeR ⟨b, 0⟩).2.1.Small) :
    Calls Try.prog 27 #[.agg #[.slice A b.length c, .int .i64 0, .int .i64 0]] w (RT8Post w A b c (takeO ⟨b, 0⟩)) := by
  have HBY := Lib.hid hby
  have HCC := Lib.hid hc
  obtain ⟨s0, hs0⟩ : ∃ s0 : Rd, ⟨b, 0⟩ = s0 := ⟨_, rfl⟩
  have HS := Lib.hid (show (⟨b.drop 0, 0⟩ : Rd) = s0 from hs0)
  rw [hs0] at hsm ⊢
  have HSM := Lib.hid hsm
  clear hs0 hsm hby hc
  have HX1 := Lib.hid (show s0.nx.e ≠ 0 → takeO s0 = (s0.nx.e, zeroO, s0.nx) from fun h => by
    have : takeR s0 = (s0.nx.e, zeroO, s0.nx) := if_pos h
    unfold takeO; rw [this]; exact if_pos h)
  have HX2 := Lib.hid (show s0.nx.e = 0 → s0.val < 1 ∨ 4 < s0.val → takeO s0 = (10, zeroO, s0.nx) from fun h h' => by
    have : takeR s0 = (10, zeroO, s0.nx) := by unfold takeR; rw [if_neg (fun e => e h), if_pos h']
    unfold takeO; rw [this]; exact if_pos (show (10 : Int) ≠ 0 by decide))
  have HX3 := Lib.hid (show s0.nx.e = 0 → ¬ (s0.val < 1 ∨ 4 < s0.val) → s0.nx.nx.nx.e ≠ 0 → takeO s0 = (s0.nx.nx.nx.e, zeroO, s0.nx.nx.nx) from fun h h' h'' => by
    have : takeR s0 = (s0.nx.nx.nx.e, zeroO, s0.nx.nx.nx) := by unfold takeR; rw [if_neg (fun e => e h), if_neg h', if_pos h'']
    unfold takeO; rw [this]; exact if_pos h'')
  have HX4 := Lib.hid (show s0.nx.e = 0 → ¬ (s0.val < 1 ∨ 4 < s0.val) → s0.nx.nx.nx.e = 0 → (takeV s0.nx.nx.nx).1 ≠ 0 → takeO s0 = ((takeV s0.nx.nx.nx).1, zeroO, (takeV s0.nx.nx.nx).2.2) from fun h h' h'' h4 => by
    have : takeR s0 = ((takeV s0.nx.nx.nx).1, zeroO, (takeV s0.nx.nx.nx).2.2) := by unfold takeR; rw [if_neg (fun e => e h), if_neg h', if_neg (fun e => e h''), if_pos h4]
    unfold takeO; rw [this]; exact if_pos h4)
  have HX5 := Lib.hid (show s0.nx.e = 0 → ¬ (s0.val < 1 ∨ 4 < s0.val) → s0.nx.nx.nx.e = 0 → (takeV s0.nx.nx.nx).1 = 0 → takeR s0 = intoV (o8 s0.val s0.nx.val s0.nx.nx.val (takeV s0.nx.nx.nx).2.1) (takeV s0.nx.nx.nx).2.2 from fun h h' h'' h4 => by
    unfold takeR; rw [if_neg (fun e => e h), if_neg h', if_neg (fun e => e h''), if_neg (fun e => e h4)]; rfl)
  have HV0 := Lib.hid (fun s => takeV_e s)
  have HT := Lib.hid (show T8 w A b c 0 0 zeroO none 0 none 0 ((((w.alloc (.cells #[.slice A b.length c, .int .i64 0, .int .i64 0] 52)).alloc (.cells zeroC 30)).alloc (.cells #[.slice none 0 0, .int .i64 0, .int .i64 0] 52)).alloc (.cells zeroC 30)) from by
    have hk : Kept (fun _ => False) w ((((w.alloc (.cells #[.slice A b.length c, .int .i64 0, .int .i64 0] 52)).alloc (.cells zeroC 30)).alloc (.cells #[.slice none 0 0, .int .i64 0, .int .i64 0] 52)).alloc (.cells zeroC 30)) := ((((Kept.refl _ _).alloc _).alloc _).alloc _).alloc _
    refine ⟨(((Box.new w _ _).alloc _).alloc _).alloc _, (((Box.new (w.alloc (.cells #[.slice A b.length c, .int .i64 0, .int .i64 0] 52)) _ _).at_eq (by simp)).alloc _).alloc _, ?_, ?_, World.ownsRow_nil _ _ _ _, World.ownsRow_nil _ _ _ _, hb.fresh hk, hA, hk⟩
    · exact ((Box.new ((w.alloc (.cells #[.slice A b.length c, .int .i64 0, .int .i64 0] 52)).alloc (.cells zeroC 30)) 52 #[.slice none 0 0, .int .i64 0, .int .i64 0]).at_eq (by simp)).alloc _
    · exact (Box.new (((w.alloc (.cells #[.slice A b.length c, .int .i64 0, .int .i64 0] 52)).alloc (.cells zeroC 30)).alloc (.cells #[.slice none 0 0, .int .i64 0, .int .i64 0] 52)) 30 zeroC).at_eq (by simp))
  clear hb hA
  obtain ⟨X, hX⟩ : ∃ X, takeO s0 = X := ⟨_, rfl⟩
  rw [hX] at HX1 HX2 HX3 HX4 ⊢
  have HXX := Lib.hid hX
  clear hX
  go_enter Try.func27, Try.ntmps27
  go_upto_region 2 with (fail)
  have hzz : ((((w.alloc (.cells #[.slice A b.length c, .int .i64 0, .int .i64 0] 52)).alloc (.cells #[.int .i64 0, .int .i64 0, .slice none 0 0, .int .i64 0, .int .i64 0, .int .i64 0, .int .i64 0, .int .i64 0, .string ⟨#[]⟩, .slice none 0 0, .int .i64 0] 30)).alloc (.cells #[.slice none 0 0, .int .i64 0, .int .i64 0] 52)).alloc (.cells #[.int .i64 0, .int .i64 0, .slice none 0 0, .int .i64 0, .int .i64 0, .int .i64 0, .int .i64 0, .int .i64 0, .string ⟨#[]⟩, .slice none 0 0, .int .i64 0] 30)) = (((w.alloc (.cells #[.slice A b.length c, .int .i64 0, .int .i64 0] 52)).alloc (.cells zeroC 30)).alloc (.cells #[.slice none 0 0, .int .i64 0, .int .i64 0] 52)).alloc (.cells zeroC 30) := rfl
  rw [hzz]
  clear hzz
  generalize (((w.alloc (.cells #[.slice A b.length c, .int .i64 0, .int .i64 0] 52)).alloc (.cells zeroC 30)).alloc (.cells #[.slice none 0 0, .int .i64 0, .int .i64 0] 52)).alloc (.cells zeroC 30) = W at HT ⊢

  have y0 : W.cell? ⟨w.heap.size, 0, none⟩ = some (.slice A b.length c) := by simpa [rdV] using HT.out.rd.cell 0
  have y1 : W.cell? ⟨w.heap.size, 1, none⟩ = some (.int .i64 0) := by simpa [rdV] using HT.out.rd.cell 1
  have y2 : W.cell? ⟨w.heap.size, 2, none⟩ = some (.int .i64 0) := by simpa [rdV] using HT.out.rd.cell 2
  go_wp2_with (fail)
  refine (RTNum_any A b c 0 0 _ HT.out.bytes HBY.out (Nat.zero_le _) hlen).mono ?_
  rw [HS.out]
  rintro r w1 ⟨a1, rfl, ha_a1, hl, hk⟩
  have HL := Lib.hid hl
  have HT1 := Lib.hid (HT.out.fresh hk)
  have x0 : w1.cell? ⟨w.heap.size + 3, 3, none⟩ = some (.int .i64 0) := (HT1.out.op.cell 3).trans rfl
  have f0 : w1.frozen? ⟨w.heap.size + 3, 3, none⟩ = false := HT1.out.op.frozen 3
  have HT2 := Lib.hid (HT1.out.field 3 (.int .i64 (s0.val : Int)) (o' := o8 (s0.val : Int) 0 0 []) (dA' := none) (dc' := 0) (gA' := none) (gc' := 0) rfl (World.ownsRow_nil _ _ _ _) (World.ownsRow_nil _ _ _ _))
  clear hl hk HT HT1 HS y0 y1 y2
  obtain ⟨kn, hkn⟩ : ∃ kn : Int, (s0.val : Int) = kn := ⟨_, rfl⟩
  have HKN := Lib.hid hkn
  rw [hkn] at HT2 ⊢
  clear hkn
  by_cases he : s0.nx.e = 0
  case' neg =>
    as_aux_lemma =>
    have HXA := Lib.hid (HX1.out he)
    have e1 : (s0.nx.e != 0) = true := by simp [he]
    obtain ⟨ee, hee⟩ : ∃ ee, s0.nx.e = ee := ⟨_, rfl⟩
    rw [hee] at e1 ⊢
    have HEE := Lib.hid hee
    clear HX1 HX2 HX3 HX4 HX5 he hee
    go_wp2_with (refine wpList_store_box rfl 52 (.tmp 1) (.tmp 14) rfl w.heap.size (rdV A b c a1 ee) rfl rfl 52 (rdV A b c 0 0) HT2.out.rd (size_RR.trans rfl) rfl (rdV_one _ _ _ _ _) ?_; intro w2 HB' hk'; have HT' := Lib.hid (HT2.out.reader HB'.out hk'); have y0 : w2.cell? ⟨w.heap.size, 0, none⟩ = some (.slice A b.length c) := (by simpa [rdV] using HT'.out.rd.cell 0); have y1 : w2.cell? ⟨w.heap.size, 1, none⟩ = some (.int .i64 a1) := (by simpa [rdV] using HT'.out.rd.cell 1); have y2 : w2.cell? ⟨w.heap.size, 2, none⟩ = some (.int .i64 ee) := (by simpa [rdV] using HT'.out.rd.cell 2); clear HB' hk' x0 f0)
    have HT := HT'
    clear HT'
    have HT9 := Lib.hid (HT.out.fresh (Kept.refl _ _).drew)
    clear y0 y1 y2
    refine wp_region_held_drew (S := fun Wz => Box Wz w.heap.size 52 (rdV A b c a1 ee)) (by kernel_rfl) HT9.out.rd fun hS => ?_
    generalize w2.drew = W9 at HT9 hS ⊢
    refine held_takeTo 20 (i := 1) (v := .agg (rdV A b c a1 ee)) rfl rfl (by kernel_rfl) (by kernel_rfl) (by kernel_rfl) (fun _ _ _ h => h) rfl hS (fun Wz hW => by (have h0 : Wz.cell? ⟨w.heap.size, 0, none⟩ = some (.slice A b.length c) := (hW.cell 0).trans rfl; have h1 : Wz.cell? ⟨w.heap.size, 1, none⟩ = some (.int .i64 a1) := (hW.cell 1).trans rfl; have h2 : Wz.cell? ⟨w.heap.size, 2, none⟩ = some (.int .i64 ee) := (hW.cell 2).trans rfl; go_simp; rfl)) ?_
    simp only [List.setIfInBounds_toArray, List.set_cons_zero, List.set_cons_succ]
    refine held_takeTo 19 (i := 0) (v := .agg zeroC) rfl rfl (by kernel_rfl) (by kernel_rfl) (by kernel_rfl) (fun _ _ _ h => h) rfl hS (fun Wz hW => by (go_simp; rfl)) ?_
    simp only [List.setIfInBounds_toArray, List.set_cons_zero, List.set_cons_succ]
    refine held_takeTo 21 (i := 2) (v := .pointer (some ⟨w.heap.size, 2, none⟩)) rfl rfl (by kernel_rfl) (by kernel_rfl) (by kernel_rfl) (fun _ _ _ h => h) rfl hS (fun Wz hW => by go_simp) ?_
    simp only [List.setIfInBounds_toArray, List.set_cons_zero, List.set_cons_succ]
    refine held_takeTo 22 (i := 3) (v := .int .i64 ee) rfl rfl (by kernel_rfl) (by kernel_rfl) (by kernel_rfl) (fun _ _ _ h => h) rfl hS (fun Wz hW => by (have h2 : Wz.cell? ⟨w.heap.size, 2, none⟩ = some (.int .i64 ee) := (hW.cell 2).trans rfl; go_simp)) ?_
    simp only [List.setIfInBounds_toArray, List.set_cons_zero, List.set_cons_succ]
    refine held_one (i := 4) (by kernel_rfl) rfl fun K hK => ?_
    refine wpList_store_box rfl 30 (.tmp 2) (.tmp 19) rfl (w.heap.size + 1) (zeroC) rfl rfl 30 (zeroC) HT9.out.r2 (size_op.trans rfl) rfl (by simp [zeroC, Value.oneCell']) ?_
    intro w10 HBw10 hkw10
    have HT10 := Lib.hid (HT9.out.zero HBw10.out hkw10)
    go_wp2_with (fail)
    refine hK.out _ _ HT10.out.rd fun _ => ?_
    clear hK K
    refine held_one (i := 5) (by kernel_rfl) rfl fun K hK => ?_
    refine wpList_store_box rfl 52 (.tmp 3) (.tmp 20) rfl (w.heap.size + 2) (rdV A b c a1 ee) rfl rfl 52 (rdV none [] 0 0 0) HT10.out.r3 (size_RR.trans rfl) rfl (rdV_one _ _ _ _ _) ?_
    intro w11 HBw11 hkw11
    go_wp2_with (fail)
    refine hK.out _ _ (HT10.out.rd.kept hkw11 (by omega)) fun _ => ?_
    clear hK K
    refine held_one (i := 6) (by kernel_rfl) rfl fun K hK => ?_
    go_wp2_with (fail)
    refine hK.out _ _ (HT10.out.rd.kept hkw11 (by omega)) fun _ => ?_
    clear hK K
    refine wpAnyH_done (by kernel_rfl) ?_ _
    go_wp2_with (fail)
    exact RT8Post.ret (o := zeroO) (dA := none) (dc := 0) (gA := none) (gc := 0) (HXA.out.trans (by rw [HEE.out])) HEE.out (HT10.out.r2.kept hkw11 (by omega)) HBw11.out ha_a1 HL.out (World.ownsRow_nil _ _ _ _) (World.ownsRow_nil _ _ _ _) (HT10.out.k.trans hkw11 fun k hk e => by omega) rfl rfl rfl rfl
  have HX2' := Lib.hid (HX2.out he)
  have HX3' := Lib.hid (HX3.out he)
  have HX4' := Lib.hid (HX4.out he)
  have HX5' := Lib.hid (HX5.out he)
  have HEE := Lib.hid he
  rw [he]
  clear HX1 HX2 HX3 HX4 HX5 he
  by_cases hv : s0.val < 1 ∨ 4 < s0.val
  · have HXA := Lib.hid (HX2'.out hv)
    have hc : kn < 1 ∨ (1 ≤ kn ∧ 4 < kn) := by have := HKN.out; omega
    clear HX2' HX3' HX4' HX5' hv
    rcases hc with hc | ⟨hc, hc4⟩
    all_goals
      as_aux_lemma =>
      go_wp2_with (refine wpList_store_box rfl 52 (.tmp 1) (.tmp 14) rfl w.heap.size (rdV A b c a1 0) rfl rfl 52 (rdV A b c 0 0) HT2.out.rd (size_RR.trans rfl) rfl (rdV_one _ _ _ _ _) ?_; intro w2 HB' hk'; have HT' := Lib.hid (HT2.out.reader HB'.out hk'); have y0 : w2.cell? ⟨w.heap.size, 0, none⟩ = some (.slice A b.length c) := (by simpa [rdV] using HT'.out.rd.cell 0); have y1 : w2.cell? ⟨w.heap.size, 1, none⟩ = some (.int .i64 a1) := (by simpa [rdV] using HT'.out.rd.cell 1); have y2 : w2.cell? ⟨w.heap.size, 2, none⟩ = some (.int .i64 0) := (by simpa [rdV] using HT'.out.rd.cell 2); have x3 : w2.cell? ⟨w.heap.size + 3, 3, none⟩ = some (.int .i64 kn) := (HT'.out.op.cell 3).trans rfl; clear HB' hk' x0 f0)
      have HT := HT'
      clear HT' x3
      have HT9 := Lib.hid (HT.out.fresh (Kept.refl _ _).drew)
      clear y0 y1 y2
      refine wp_region_held_drew (S := fun Wz => Box Wz w.heap.size 52 (rdV A b c a1 0)) (by kernel_rfl) HT9.out.rd fun hS => ?_
      generalize w2.drew = W9 at HT9 hS ⊢
      refine held_takeTo 32 (i := 1) (v := .agg (rdV A b c a1 0)) rfl rfl (by kernel_rfl) (by kernel_rfl) (by kernel_rfl) (fun _ _ _ h => h) rfl hS (fun Wz hW => by (have h0 : Wz.cell? ⟨w.heap.size, 0, none⟩ = some (.slice A b.length c) := (hW.cell 0).trans rfl; have h1 : Wz.cell? ⟨w.heap.size, 1, none⟩ = some (.int .i64 a1) := (hW.cell 1).trans rfl; have h2 : Wz.cell? ⟨w.heap.size, 2, none⟩ = some (.int .i64 0) := (hW.cell 2).trans rfl; go_simp; rfl)) ?_
      simp only [List.setIfInBounds_toArray, List.set_cons_zero, List.set_cons_succ]
      refine held_takeTo 31 (i := 0) (v := .agg zeroC) rfl rfl (by kernel_rfl) (by kernel_rfl) (by kernel_rfl) (fun _ _ _ h => h) rfl hS (fun Wz hW => by (go_simp; rfl)) ?_
      simp only [List.setIfInBounds_toArray, List.set_cons_zero, List.set_cons_succ]
      refine held_one (i := 2) (by kernel_rfl) rfl fun K hK => ?_
      refine wpList_store_box rfl 30 (.tmp 2) (.tmp 31) rfl (w.heap.size + 1) (zeroC) rfl rfl 30 (zeroC) HT9.out.r2 (size_op.trans rfl) rfl (by simp [zeroC, Value.oneCell']) ?_
      intro w10 HBw10 hkw10
      have HT10 := Lib.hid (HT9.out.zero HBw10.out hkw10)
      go_wp2_with (fail)
      refine hK.out _ _ HT10.out.rd fun _ => ?_
      clear hK K
      refine held_one (i := 3) (by kernel_rfl) rfl fun K hK => ?_
      refine wpList_store_box rfl 52 (.tmp 3) (.tmp 32) rfl (w.heap.size + 2) (rdV A b c a1 0) rfl rfl 52 (rdV none [] 0 0 0) HT10.out.r3 (size_RR.trans rfl) rfl (rdV_one _ _ _ _ _) ?_
      intro w11 HBw11 hkw11
      go_wp2_with (fail)
      refine hK.out _ _ (HT10.out.rd.kept hkw11 (by omega)) fun _ => ?_
      clear hK K
      refine held_one (i := 4) (by kernel_rfl) rfl fun K hK => ?_
      go_wp2_with (fail)
      refine hK.out _ _ (HT10.out.rd.kept hkw11 (by omega)) fun _ => ?_
      clear hK K
      refine wpAnyH_done (by kernel_rfl) ?_ _
      go_wp2_with (fail)
      exact RT8Post.ret (o := zeroO) (dA := none) (dc := 0) (gA := none) (gc := 0) HXA.out HEE.out (HT10.out.r2.kept hkw11 (by omega)) HBw11.out ha_a1 HL.out (World.ownsRow_nil _ _ _ _) (World.ownsRow_nil _ _ _ _) (HT10.out.k.trans hkw11 fun k hk e => by omega) rfl rfl rfl rfl
  have HX3 := Lib.hid (HX3'.out hv)
  have HX4 := Lib.hid (HX4'.out hv)
  have HX5 := Lib.hid (HX5'.out hv)
  have hk1 : 1 ≤ kn := by have := HKN.out; omega
  have hk4 : kn ≤ 4 := by have := HKN.out; omega
  rw [HKN.out] at HX5
  have HS := Lib.hid (show (⟨b.drop a1, 0⟩ : Rd) = s0.nx by rw [HL.out, ← HEE.out])
  clear HX2' HX3' HX4' HX5' hv HKN HL HEE
  generalize s0.nx = s1 at HX3 HX4 HX5 HS
  go_wp2_with (refine wpList_store_box rfl 52 (.tmp 1) (.tmp 14) rfl w.heap.size (rdV A b c a1 0) rfl rfl 52 (rdV A b c 0 0) HT2.out.rd (size_RR.trans rfl) rfl (rdV_one _ _ _ _ _) ?_; intro w2 HB' hk'; have HT' := Lib.hid (HT2.out.reader HB'.out hk'); have y0 : w2.cell? ⟨w.heap.size, 0, none⟩ = some (.slice A b.length c) := (by simpa [rdV] using HT'.out.rd.cell 0); have y1 : w2.cell? ⟨w.heap.size, 1, none⟩ = some (.int .i64 a1) := (by simpa [rdV] using HT'.out.rd.cell 1); have y2 : w2.cell? ⟨w.heap.size, 2, none⟩ = some (.int .i64 0) := (by simpa [rdV] using HT'.out.rd.cell 2); have x3 : w2.cell? ⟨w.heap.size + 3, 3, none⟩ = some (.int .i64 kn) := (HT'.out.op.cell 3).trans rfl; clear HB' hk' x0 f0 HT2)
  have HT := HT'
  clear HT' x3
  refine (RTNum_any A b c a1 0 _ HT.out.bytes HBY.out ha_a1 hlen).mono ?_
  rw [HS.out]
  rintro r w1 ⟨a2, rfl, ha_a2, hl, hk⟩
  have HL := Lib.hid hl
  have HT1 := Lib.hid (HT.out.fresh hk)
  have x0 : w1.cell? ⟨w.heap.size + 3, 0, none⟩ = some (.int .i64 0) := (HT1.out.op.cell 0).trans rfl
  have f0 : w1.frozen? ⟨w.heap.size + 3, 0, none⟩ = false := HT1.out.op.frozen 0
  have HT2 := Lib.hid (HT1.out.field 0 (.int .i64 (s1.val : Int)) (o' := o8 kn (s1.val : Int) 0 []) (dA' := none) (dc' := 0) (gA' := none) (gc' := 0) rfl (World.ownsRow_nil _ _ _ _) (World.ownsRow_nil _ _ _ _))
  have HS' := Lib.hid (show (⟨b.drop a2, s1.nx.e⟩ : Rd) = s1.nx by rw [hl])
  clear hl hk HT HT1 HS HL y0 y1 y2
  have HS := HS'
  clear HS'
  obtain ⟨st, hst⟩ : ∃ st : Int, (s1.val : Int) = st := ⟨_, rfl⟩
  rw [hst] at HT2 HX5 ⊢
  clear hst
  generalize s1.nx = s2 at HX3 HX4 HX5 HS ⊢
  go_wp2_with (refine wpList_store_box rfl 52 (.tmp 1) (.tmp 37) rfl w.heap.size (rdV A b c a2 s2.e) rfl rfl 52 (rdV A b c a1 0) HT2.out.rd (size_RR.trans rfl) rfl (rdV_one _ _ _ _ _) ?_; intro w2 HB' hk'; have HT' := Lib.hid (HT2.out.reader HB'.out hk'); have y0 : w2.cell? ⟨w.heap.size, 0, none⟩ = some (.slice A b.length c) := (by simpa [rdV] using HT'.out.rd.cell 0); have y1 : w2.cell? ⟨w.heap.size, 1, none⟩ = some (.int .i64 a2) := (by simpa [rdV] using HT'.out.rd.cell 1); have y2 : w2.cell? ⟨w.heap.size, 2, none⟩ = some (.int .i64 s2.e) := (by simpa [rdV] using HT'.out.rd.cell 2); clear HB' hk' x0 f0 HT2)
  have HT := HT'
  clear HT'
  refine (RTNum_any A b c a2 s2.e _ HT.out.bytes HBY.out ha_a2 hlen).mono ?_
  rw [HS.out]
  rintro r w1 ⟨a3, rfl, ha_a3, hl, hk⟩
  have HL := Lib.hid hl
  have HT1 := Lib.hid (HT.out.fresh hk)
  have x0 : w1.cell? ⟨w.heap.size + 3, 1, none⟩ = some (.int .i64 0) := (HT1.out.op.cell 1).trans rfl
  have f0 : w1.frozen? ⟨w.heap.size + 3, 1, none⟩ = false := HT1.out.op.frozen 1
  have HT2 := Lib.hid (HT1.out.field 1 (.int .i64 (s2.val : Int)) (o' := o8 kn st (s2.val : Int) []) (dA' := none) (dc' := 0) (gA' := none) (gc' := 0) rfl (World.ownsRow_nil _ _ _ _) (World.ownsRow_nil _ _ _ _))
  clear hl hk HT HT1 HS y0 y1 y2
  obtain ⟨sq, hsq⟩ : ∃ sq : Int, (s2.val : Int) = sq := ⟨_, rfl⟩
  rw [hsq] at HT2 HX5 ⊢
  clear hsq
  generalize s2.nx = s3 at HX3 HX4 HX5 HL ⊢
  by_cases he : s3.e = 0
  case' neg =>
    as_aux_lemma =>
    have HXA := Lib.hid (HX3.out he)
    have e1 : (s3.e != 0) = true := by simp [he]
    obtain ⟨ee, hee⟩ : ∃ ee, s3.e = ee := ⟨_, rfl⟩
    rw [hee] at e1 ⊢
    have HEE := Lib.hid hee
    clear HX3 HX4 HX5 he hee
    go_wp2_with (refine wpList_store_box rfl 52 (.tmp 1) (.tmp 44) rfl w.heap.size (rdV A b c a3 ee) rfl rfl 52 (rdV A b c a2 s2.e) HT2.out.rd (size_RR.trans rfl) rfl (rdV_one _ _ _ _ _) ?_; intro w2 HB' hk'; have HT' := Lib.hid (HT2.out.reader HB'.out hk'); have y0 : w2.cell? ⟨w.heap.size, 0, none⟩ = some (.slice A b.length c) := (by simpa [rdV] using HT'.out.rd.cell 0); have y1 : w2.cell? ⟨w.heap.size, 1, none⟩ = some (.int .i64 a3) := (by simpa [rdV] using HT'.out.rd.cell 1); have y2 : w2.cell? ⟨w.heap.size, 2, none⟩ = some (.int .i64 ee) := (by simpa [rdV] using HT'.out.rd.cell 2); clear HB' hk' x0 f0)
    have HT := HT'
    clear HT'
    have HT9 := Lib.hid (HT.out.fresh (Kept.refl _ _).drew)
    clear y0 y1 y2
    refine wp_region_held_drew (S := fun Wz => Box Wz w.heap.size 52 (rdV A b c a3 ee)) (by kernel_rfl) HT9.out.rd fun hS => ?_
    generalize w2.drew = W9 at HT9 hS ⊢
    refine held_takeTo 51 (i := 1) (v := .agg (rdV A b c a3 ee)) rfl rfl (by kernel_rfl) (by kernel_rfl) (by kernel_rfl) (fun _ _ _ h => h) rfl hS (fun Wz hW => by (have h0 : Wz.cell? ⟨w.heap.size, 0, none⟩ = some (.slice A b.length c) := (hW.cell 0).trans rfl; have h1 : Wz.cell? ⟨w.heap.size, 1, none⟩ = some (.int .i64 a3) := (hW.cell 1).trans rfl; have h2 : Wz.cell? ⟨w.heap.size, 2, none⟩ = some (.int .i64 ee) := (hW.cell 2).trans rfl; go_simp; rfl)) ?_
    simp only [List.setIfInBounds_toArray, List.set_cons_zero, List.set_cons_succ]
    refine held_takeTo 50 (i := 0) (v := .agg zeroC) rfl rfl (by kernel_rfl) (by kernel_rfl) (by kernel_rfl) (fun _ _ _ h => h) rfl hS (fun Wz hW => by (go_simp; rfl)) ?_
    simp only [List.setIfInBounds_toArray, List.set_cons_zero, List.set_cons_succ]
    refine held_takeTo 52 (i := 2) (v := .pointer (some ⟨w.heap.size, 2, none⟩)) rfl rfl (by kernel_rfl) (by kernel_rfl) (by kernel_rfl) (fun _ _ _ h => h) rfl hS (fun Wz hW => by go_simp) ?_
    simp only [List.setIfInBounds_toArray, List.set_cons_zero, List.set_cons_succ]
    refine held_takeTo 53 (i := 3) (v := .int .i64 ee) rfl rfl (by kernel_rfl) (by kernel_rfl) (by kernel_rfl) (fun _ _ _ h => h) rfl hS (fun Wz hW => by (have h2 : Wz.cell? ⟨w.heap.size, 2, none⟩ = some (.int .i64 ee) := (hW.cell 2).trans rfl; go_simp)) ?_
    simp only [List.setIfInBounds_toArray, List.set_cons_zero, List.set_cons_succ]
    refine held_one (i := 4) (by kernel_rfl) rfl fun K hK => ?_
    refine wpList_store_box rfl 30 (.tmp 2) (.tmp 50) rfl (w.heap.size + 1) (zeroC) rfl rfl 30 (zeroC) HT9.out.r2 (size_op.trans rfl) rfl (by simp [zeroC, Value.oneCell']) ?_
    intro w10 HBw10 hkw10
    have HT10 := Lib.hid (HT9.out.zero HBw10.out hkw10)
    go_wp2_with (fail)
    refine hK.out _ _ HT10.out.rd fun _ => ?_
    clear hK K
    refine held_one (i := 5) (by kernel_rfl) rfl fun K hK => ?_
    refine wpList_store_box rfl 52 (.tmp 3) (.tmp 51) rfl (w.heap.size + 2) (rdV A b c a3 ee) rfl rfl 52 (rdV none [] 0 0 0) HT10.out.r3 (size_RR.trans rfl) rfl (rdV_one _ _ _ _ _) ?_
    intro w11 HBw11 hkw11
    go_wp2_with (fail)
    refine hK.out _ _ (HT10.out.rd.kept hkw11 (by omega)) fun _ => ?_
    clear hK K
    refine held_one (i := 6) (by kernel_rfl) rfl fun K hK => ?_
    go_wp2_with (fail)
    refine hK.out _ _ (HT10.out.rd.kept hkw11 (by omega)) fun _ => ?_
    clear hK K
    refine wpAnyH_done (by kernel_rfl) ?_ _
    go_wp2_with (fail)
    exact RT8Post.ret (o := zeroO) (dA := none) (dc := 0) (gA := none) (gc := 0) (HXA.out.trans (by rw [HEE.out])) HEE.out (HT10.out.r2.kept hkw11 (by omega)) HBw11.out ha_a3 HL.out (World.ownsRow_nil _ _ _ _) (World.ownsRow_nil _ _ _ _) (HT10.out.k.trans hkw11 fun k hk e => by omega) rfl rfl rfl rfl
  have HX4' := Lib.hid (HX4.out he)
  have HX5' := Lib.hid (HX5.out he)
  have HEE := Lib.hid he
  rw [he]
  clear HX3 HX4 HX5 he
  have HX4 := HX4'
  have HX5 := HX5'
  clear HX4' HX5'
  have HS := Lib.hid (show (⟨b.drop a3, 0⟩ : Rd) = s3 by rw [HL.out, ← HEE.out])
  clear HL HEE
  go_wp2_with (refine wpList_store_box rfl 52 (.tmp 1) (.tmp 44) rfl w.heap.size (rdV A b c a3 0) rfl rfl 52 (rdV A b c a2 s2.e) HT2.out.rd (size_RR.trans rfl) rfl (rdV_one _ _ _ _ _) ?_; intro w2 HB' hk'; have HT' := Lib.hid (HT2.out.reader HB'.out hk'); have y0 : w2.cell? ⟨w.heap.size, 0, none⟩ = some (.slice A b.length c) := (by simpa [rdV] using HT'.out.rd.cell 0); have y1 : w2.cell? ⟨w.heap.size, 1, none⟩ = some (.int .i64 a3) := (by simpa [rdV] using HT'.out.rd.cell 1); have y2 : w2.cell? ⟨w.heap.size, 2, none⟩ = some (.int .i64 0) := (by simpa [rdV] using HT'.out.rd.cell 2); clear HB' hk' x0 f0 HT2)
  have HT := HT'
  clear HT'
  refine (RTakeG_any A b c a3 ha_a3 _ HT.out.bytes HBY.out hlen (fun h a e => Nat.lt_of_lt_of_le (HT.out.off h a e) HT.out.k.size)).mono ?_
  rw [HS.out]
  have HV := Lib.hid (HV0.out s3)
  generalize takeV s3 = V at HX4 HX5 HV ⊢
  obtain ⟨ve, deps, s4⟩ := V
  simp only at HX4 HX5 HV ⊢
  rintro r w1 ⟨dA, dc, a4, rfl, ha_a4, hl, ho, hk⟩
  simp only at hl ho ⊢
  have HL := Lib.hid hl
  have HT1 := Lib.hid (HT.out.fresh hk)
  have HT2 := Lib.hid (HT1.out.field 2 (.slice dA deps.length dc) (o' := o8 kn st sq deps) (dA' := dA) (dc' := dc) (gA' := none) (gc' := 0) rfl (own_base ho (by have := HT.out.lt; omega)) (World.ownsRow_nil _ _ _ _))
  have x0 : w1.cell? ⟨w.heap.size + 3, 2, none⟩ = some (.slice none 0 0) := (HT1.out.op.cell 2).trans rfl
  have f0 : w1.frozen? ⟨w.heap.size + 3, 2, none⟩ = false := HT1.out.op.frozen 2
  clear hl ho hk HT HT1 HS y0 y1 y2 HV0
  by_cases hve : ve = 0
  case' neg =>
    as_aux_lemma =>
    have HXA := Lib.hid (HX4.out hve)
    have e1 : (ve != 0) = true := by simp [hve]
    clear HX4 HX5 hve
    go_wp2_with (refine wpList_store_box rfl 52 (.tmp 1) (.tmp 58) rfl w.heap.size (rdV A b c a4 s4.e) rfl rfl 52 (rdV A b c a3 0) HT2.out.rd (size_RR.trans rfl) rfl (rdV_one _ _ _ _ _) ?_; intro w2 HB' hk'; have HT' := Lib.hid (HT2.out.reader HB'.out hk'); have y0 : w2.cell? ⟨w.heap.size, 0, none⟩ = some (.slice A b.length c) := (by simpa [rdV] using HT'.out.rd.cell 0); have y1 : w2.cell? ⟨w.heap.size, 1, none⟩ = some (.int .i64 a4) := (by simpa [rdV] using HT'.out.rd.cell 1); have y2 : w2.cell? ⟨w.heap.size, 2, none⟩ = some (.int .i64 s4.e) := (by simpa [rdV] using HT'.out.rd.cell 2); clear HB' hk' x0 f0)
    have HT := HT'
    clear HT'
    have HT9 := Lib.hid (HT.out.fresh (Kept.refl _ _).drew)
    clear y0 y1 y2
    refine wp_region_held_drew (S := fun Wz => Box Wz w.heap.size 52 (rdV A b c a4 s4.e)) (by kernel_rfl) HT9.out.rd fun hS => ?_
    generalize w2.drew = W9 at HT9 hS ⊢
    refine held_takeTo 64 (i := 1) (v := .agg (rdV A b c a4 s4.e)) rfl rfl (by kernel_rfl) (by kernel_rfl) (by kernel_rfl) (fun _ _ _ h => h) rfl hS (fun Wz hW => by (have h0 : Wz.cell? ⟨w.heap.size, 0, none⟩ = some (.slice A b.length c) := (hW.cell 0).trans rfl; have h1 : Wz.cell? ⟨w.heap.size, 1, none⟩ = some (.int .i64 a4) := (hW.cell 1).trans rfl; have h2 : Wz.cell? ⟨w.heap.size, 2, none⟩ = some (.int .i64 s4.e) := (hW.cell 2).trans rfl; go_simp; rfl)) ?_
    simp only [List.setIfInBounds_toArray, List.set_cons_zero, List.set_cons_succ]
    refine held_takeTo 63 (i := 0) (v := .agg zeroC) rfl rfl (by kernel_rfl) (by kernel_rfl) (by kernel_rfl) (fun _ _ _ h => h) rfl hS (fun Wz hW => by (go_simp; rfl)) ?_
    simp only [List.setIfInBounds_toArray, List.set_cons_zero, List.set_cons_succ]
    refine held_takeTo 65 (i := 2) (v := .int .i64 ve) rfl rfl (by kernel_rfl) (by kernel_rfl) (by kernel_rfl) (fun _ _ _ h => h) rfl hS (fun Wz hW => by go_simp) ?_
    simp only [List.setIfInBounds_toArray, List.set_cons_zero, List.set_cons_succ]
    refine held_one (i := 3) (by kernel_rfl) rfl fun K hK => ?_
    refine wpList_store_box rfl 30 (.tmp 2) (.tmp 63) rfl (w.heap.size + 1) (zeroC) rfl rfl 30 (zeroC) HT9.out.r2 (size_op.trans rfl) rfl (by simp [zeroC, Value.oneCell']) ?_
    intro w10 HBw10 hkw10
    have HT10 := Lib.hid (HT9.out.zero HBw10.out hkw10)
    go_wp2_with (fail)
    refine hK.out _ _ HT10.out.rd fun _ => ?_
    clear hK K
    refine held_one (i := 4) (by kernel_rfl) rfl fun K hK => ?_
    refine wpList_store_box rfl 52 (.tmp 3) (.tmp 64) rfl (w.heap.size + 2) (rdV A b c a4 s4.e) rfl rfl 52 (rdV none [] 0 0 0) HT10.out.r3 (size_RR.trans rfl) rfl (rdV_one _ _ _ _ _) ?_
    intro w11 HBw11 hkw11
    go_wp2_with (fail)
    refine hK.out _ _ (HT10.out.rd.kept hkw11 (by omega)) fun _ => ?_
    clear hK K
    refine held_one (i := 5) (by kernel_rfl) rfl fun K hK => ?_
    go_wp2_with (fail)
    refine hK.out _ _ (HT10.out.rd.kept hkw11 (by omega)) fun _ => ?_
    clear hK K
    refine wpAnyH_done (by kernel_rfl) ?_ _
    go_wp2_with (fail)
    exact RT8Post.ret (o := zeroO) (dA := none) (dc := 0) (gA := none) (gc := 0) HXA.out rfl (HT10.out.r2.kept hkw11 (by omega)) HBw11.out ha_a4 HL.out (World.ownsRow_nil _ _ _ _) (World.ownsRow_nil _ _ _ _) (HT10.out.k.trans hkw11 fun k hk e => by omega) rfl rfl rfl rfl
  subst hve
  have HXR := Lib.hid (HX5.out rfl)
  have HEE := Lib.hid (HV.out rfl)
  have HS := Lib.hid (show (⟨b.drop a4, 0⟩ : Rd) = s4 by rw [HL.out, ← HEE.out])
  rw [show s4.e = 0 from HEE.out]
  clear HX4 HX5 HV HL HEE
  rw [HXR.out] at HSM
  have hkk : kn = 1 ∨ kn = 2 ∨ kn = 3 ∨ kn = 4 := by omega
  clear hk1 hk4
  rcases hkk with hkk | hkk | hkk | hkk
  all_goals subst hkk
  · as_aux_lemma =>
    rw [show intoV (o8 1 st sq deps) s4 = (s4.nx.nx.nx.nt.e, (⟨⟨st, sq⟩, deps, 1, ⟨s4.val, st⟩, ⟨s4.nx.val, s4.nx.nx.val⟩, s4.nx.nx.nx.txt, [], 0⟩ : Opr), s4.nx.nx.nx.nt) from rfl] at HXR HSM
    have HL := Lib.hid (show True from trivial)
    go_upto_region 17 with (refine wpList_store_box rfl 52 (.tmp 1) (.tmp 58) rfl w.heap.size (rdV A b c a4 0) rfl rfl 52 (rdV A b c a3 0) HT2.out.rd (size_RR.trans rfl) rfl (rdV_one _ _ _ _ _) ?_; intro w2 HB' hk'; have HT' := Lib.hid (HT2.out.reader HB'.out hk'); have y0 : w2.cell? ⟨w.heap.size, 0, none⟩ = some (.slice A b.length c) := (by simpa [rdV] using HT'.out.rd.cell 0); have y1 : w2.cell? ⟨w.heap.size, 1, none⟩ = some (.int .i64 a4) := (by simpa [rdV] using HT'.out.rd.cell 1); have y2 : w2.cell? ⟨w.heap.size, 2, none⟩ = some (.int .i64 0) := (by simpa [rdV] using HT'.out.rd.cell 2); have x3 : w2.cell? ⟨w.heap.size + 3, 3, none⟩ = some (.int .i64 1) := (HT'.out.op.cell 3).trans rfl; clear HB' hk' x0 f0 HT2)
    have HT := HT'
    clear HT' x3
    have x9 : w2.cell? ⟨w.heap.size + 3, 0, none⟩ = some (.int .i64 st) := (HT.out.op.cell 0).trans rfl
    have x8 : w2.cell? ⟨w.heap.size + 3, 5, none⟩ = some (.int .i64 0) := (HT.out.op.cell 5).trans rfl
    have f8 : w2.frozen? ⟨w.heap.size + 3, 5, none⟩ = false := HT.out.op.frozen 5
    have HT' := Lib.hid (HT.out.field 5 (.int .i64 st) (o' := ⟨⟨st, sq⟩, deps, 1, ⟨0, st⟩, noId, ⟨#[]⟩, [], 0⟩) rfl HT.out.d HT.out.g)
    clear HT y0 y1 y2
    have HT := HT'
    clear HT'
    go_upto_region 18 with (fail)
    clear x9 x8 f8
    generalize w2.setCell ⟨w.heap.size + 3, 5, none⟩ (.int .i64 st) = W5 at HT ⊢
    have y0 : W5.cell? ⟨w.heap.size, 0, none⟩ = some (.slice A b.length c) := by simpa [rdV] using HT.out.rd.cell 0
    have y1 : W5.cell? ⟨w.heap.size, 1, none⟩ = some (.int .i64 a4) := by simpa [rdV] using HT.out.rd.cell 1
    have y2 : W5.cell? ⟨w.heap.size, 2, none⟩ = some (.int .i64 0) := by simpa [rdV] using HT.out.rd.cell 2
    go_wp2_with (fail)
    refine (RTNum_any A b c a4 0 _ HT.out.bytes HBY.out ha_a4 hlen).mono ?_
    rw [HS.out]
    rintro r w1 ⟨a5, rfl, ha_a5, hl, hk⟩
    have HL := Lib.hid hl
    have HT1 := Lib.hid (HT.out.fresh hk)
    have x0 : w1.cell? ⟨w.heap.size + 3, 4, none⟩ = some (.int .i64 0) := (HT1.out.op.cell 4).trans rfl
    have f0 : w1.frozen? ⟨w.heap.size + 3, 4, none⟩ = false := HT1.out.op.frozen 4
    have HT2 := Lib.hid (HT1.out.field 4 (.int .i64 (s4.val : Int)) (o' := ⟨⟨st, sq⟩, deps, 1, ⟨(s4.val : Int), st⟩, noId, ⟨#[]⟩, [], 0⟩) rfl HT1.out.d HT1.out.g)
    have HS' := Lib.hid (show (⟨b.drop a5, s4.nx.e⟩ : Rd) = s4.nx by rw [hl])
    clear hl hk HT HT1 HS y0 y1 y2
    have HS := HS'
    clear HS'
    obtain ⟨v1, hsv⟩ : ∃ v1 : Int, (s4.val : Int) = v1 := ⟨_, rfl⟩
    rw [hsv] at HT2 HXR HSM ⊢
    clear hsv
    generalize s4.nx = s5 at HXR HSM HS HL ⊢
    go_wp2_with (refine wpList_store_box rfl 52 (.tmp 1) (.tmp 79) rfl w.heap.size (rdV A b c a5 s5.e) rfl rfl 52 (rdV A b c a4 0) HT2.out.rd (size_RR.trans rfl) rfl (rdV_one _ _ _ _ _) ?_; intro w2 HB' hk'; have HT' := Lib.hid (HT2.out.reader HB'.out hk'); have y0 : w2.cell? ⟨w.heap.size, 0, none⟩ = some (.slice A b.length c) := (by simpa [rdV] using HT'.out.rd.cell 0); have y1 : w2.cell? ⟨w.heap.size, 1, none⟩ = some (.int .i64 a5) := (by simpa [rdV] using HT'.out.rd.cell 1); have y2 : w2.cell? ⟨w.heap.size, 2, none⟩ = some (.int .i64 s5.e) := (by simpa [rdV] using HT'.out.rd.cell 2); clear HB' hk' x0 f0 HT2)
    have HT := HT'
    clear HT'
    refine (RTNum_any A b c a5 s5.e _ HT.out.bytes HBY.out ha_a5 hlen).mono ?_
    rw [HS.out]
    rintro r w1 ⟨a6, rfl, ha_a6, hl, hk⟩
    have HL := Lib.hid hl
    have HT1 := Lib.hid (HT.out.fresh hk)
    have x0 : w1.cell? ⟨w.heap.size + 3, 6, none⟩ = some (.int .i64 0) := (HT1.out.op.cell 6).trans rfl
    have f0 : w1.frozen? ⟨w.heap.size + 3, 6, none⟩ = false := HT1.out.op.frozen 6
    have HT2 := Lib.hid (HT1.out.field 6 (.int .i64 (s5.val : Int)) (o' := ⟨⟨st, sq⟩, deps, 1, ⟨v1, st⟩, ⟨(s5.val : Int), 0⟩, ⟨#[]⟩, [], 0⟩) rfl HT1.out.d HT1.out.g)
    have HS' := Lib.hid (show (⟨b.drop a6, s5.nx.e⟩ : Rd) = s5.nx by rw [hl])
    clear hl hk HT HT1 HS y0 y1 y2
    have HS := HS'
    clear HS'
    obtain ⟨v2, hsv⟩ : ∃ v2 : Int, (s5.val : Int) = v2 := ⟨_, rfl⟩
    rw [hsv] at HT2 HXR HSM ⊢
    clear hsv
    generalize s5.nx = s6 at HXR HSM HS HL ⊢
    go_wp2_with (refine wpList_store_box rfl 52 (.tmp 1) (.tmp 86) rfl w.heap.size (rdV A b c a6 s6.e) rfl rfl 52 (rdV A b c a5 s5.e) HT2.out.rd (size_RR.trans rfl) rfl (rdV_one _ _ _ _ _) ?_; intro w2 HB' hk'; have HT' := Lib.hid (HT2.out.reader HB'.out hk'); have y0 : w2.cell? ⟨w.heap.size, 0, none⟩ = some (.slice A b.length c) := (by simpa [rdV] using HT'.out.rd.cell 0); have y1 : w2.cell? ⟨w.heap.size, 1, none⟩ = some (.int .i64 a6) := (by simpa [rdV] using HT'.out.rd.cell 1); have y2 : w2.cell? ⟨w.heap.size, 2, none⟩ = some (.int .i64 s6.e) := (by simpa [rdV] using HT'.out.rd.cell 2); clear HB' hk' x0 f0 HT2)
    have HT := HT'
    clear HT'
    refine (RTNum_any A b c a6 s6.e _ HT.out.bytes HBY.out ha_a6 hlen).mono ?_
    rw [HS.out]
    rintro r w1 ⟨a7, rfl, ha_a7, hl, hk⟩
    have HL := Lib.hid hl
    have HT1 := Lib.hid (HT.out.fresh hk)
    have x0 : w1.cell? ⟨w.heap.size + 3, 7, none⟩ = some (.int .i64 0) := (HT1.out.op.cell 7).trans rfl
    have f0 : w1.frozen? ⟨w.heap.size + 3, 7, none⟩ = false := HT1.out.op.frozen 7
    have HT2 := Lib.hid (HT1.out.field 7 (.int .i64 (s6.val : Int)) (o' := ⟨⟨st, sq⟩, deps, 1, ⟨v1, st⟩, ⟨v2, (s6.val : Int)⟩, ⟨#[]⟩, [], 0⟩) rfl HT1.out.d HT1.out.g)
    have HS' := Lib.hid (show (⟨b.drop a7, s6.nx.e⟩ : Rd) = s6.nx by rw [hl])
    clear hl hk HT HT1 HS y0 y1 y2
    have HS := HS'
    clear HS'
    obtain ⟨v3, hsv⟩ : ∃ v3 : Int, (s6.val : Int) = v3 := ⟨_, rfl⟩
    rw [hsv] at HT2 HXR HSM ⊢
    clear hsv
    generalize s6.nx = s7 at HXR HSM HS HL ⊢
    go_wp2_with (refine wpList_store_box rfl 52 (.tmp 1) (.tmp 93) rfl w.heap.size (rdV A b c a7 s7.e) rfl rfl 52 (rdV A b c a6 s6.e) HT2.out.rd (size_RR.trans rfl) rfl (rdV_one _ _ _ _ _) ?_; intro w2 HB' hk'; have HT' := Lib.hid (HT2.out.reader HB'.out hk'); have y0 : w2.cell? ⟨w.heap.size, 0, none⟩ = some (.slice A b.length c) := (by simpa [rdV] using HT'.out.rd.cell 0); have y1 : w2.cell? ⟨w.heap.size, 1, none⟩ = some (.int .i64 a7) := (by simpa [rdV] using HT'.out.rd.cell 1); have y2 : w2.cell? ⟨w.heap.size, 2, none⟩ = some (.int .i64 s7.e) := (by simpa [rdV] using HT'.out.rd.cell 2); clear HB' hk' x0 f0 HT2)
    have HT := HT'
    clear HT'
    refine (RTText_any A b c a7 s7.e _ HT.out.bytes HBY.out ha_a7 hlen HCC.out (fun h a e => Nat.lt_of_lt_of_le (HT.out.off h a e) HT.out.k.size)).mono ?_
    rw [HS.out]
    rintro r w1 ⟨a8, rfl, ha_a8, hl, hk⟩
    clear HL
    have HL := Lib.hid hl
    have HT1 := Lib.hid (HT.out.fresh hk)
    have x0 : w1.cell? ⟨w.heap.size + 3, 8, none⟩ = some (.string ⟨#[]⟩) := (HT1.out.op.cell 8).trans rfl
    have f0 : w1.frozen? ⟨w.heap.size + 3, 8, none⟩ = false := HT1.out.op.frozen 8
    have HT2 := Lib.hid (HT1.out.field 8 (.string s7.txt) (o' := ⟨⟨st, sq⟩, deps, 1, ⟨v1, st⟩, ⟨v2, v3⟩, s7.txt, [], 0⟩) rfl HT1.out.d HT1.out.g)
    clear hl hk HT HT1 HS y0 y1 y2
    generalize s7.txt = tx at HXR HSM HT2 ⊢
    generalize s7.nt = s8 at HXR HSM HL ⊢
    obtain ⟨o, ho⟩ : ∃ o : Opr, ⟨⟨st, sq⟩, deps, 1, ⟨v1, st⟩, ⟨v2, v3⟩, tx, [], 0⟩ = o := ⟨_, rfl⟩
    rw [ho] at HXR HSM HT2
    clear ho
    by_cases he : s8.e = 0
    case' neg =>
      as_aux_lemma =>
      have HXA := Lib.hid (show X = (s8.e, zeroO, s8) from by rw [← HXX.out, takeO, HXR.out]; exact if_pos he)
      have e1 : (s8.e != 0) = true := by simp [he]
      obtain ⟨ee, hee⟩ : ∃ ee, s8.e = ee := ⟨_, rfl⟩
      rw [hee] at e1 ⊢
      have HEE := Lib.hid hee
      clear HSM HXR HXX he hee
      go_wp2_with (refine wpList_store_box rfl 52 (.tmp 1) (.tmp 100) rfl w.heap.size (rdV A b c a8 ee) rfl rfl 52 (rdV A b c a7 s7.e) HT2.out.rd (size_RR.trans rfl) rfl (rdV_one _ _ _ _ _) ?_; intro w2 HB' hk'; have HT' := Lib.hid (HT2.out.reader HB'.out hk'); have y0 : w2.cell? ⟨w.heap.size, 0, none⟩ = some (.slice A b.length c) := (by simpa [rdV] using HT'.out.rd.cell 0); have y1 : w2.cell? ⟨w.heap.size, 1, none⟩ = some (.int .i64 a8) := (by simpa [rdV] using HT'.out.rd.cell 1); have y2 : w2.cell? ⟨w.heap.size, 2, none⟩ = some (.int .i64 ee) := (by simpa [rdV] using HT'.out.rd.cell 2); clear HB' hk' x0 f0)
      have HT := HT'
      clear HT'
      have HT9 := Lib.hid (HT.out.fresh (Kept.refl _ _).drew)
      clear y0 y1 y2
      refine wp_region_held_drew (S := fun Wz => Box Wz w.heap.size 52 (rdV A b c a8 ee)) (by kernel_rfl) HT9.out.rd fun hS => ?_
      generalize w2.drew = W9 at HT9 hS ⊢
      refine held_takeTo 166 (i := 1) (v := .agg (rdV A b c a8 ee)) rfl rfl (by kernel_rfl) (by kernel_rfl) (by kernel_rfl) (fun _ _ _ h => h) rfl hS (fun Wz hW => by (have h0 : Wz.cell? ⟨w.heap.size, 0, none⟩ = some (.slice A b.length c) := (hW.cell 0).trans rfl; have h1 : Wz.cell? ⟨w.heap.size, 1, none⟩ = some (.int .i64 a8) := (hW.cell 1).trans rfl; have h2 : Wz.cell? ⟨w.heap.size, 2, none⟩ = some (.int .i64 ee) := (hW.cell 2).trans rfl; go_simp; rfl)) ?_
      simp only [List.setIfInBounds_toArray, List.set_cons_zero, List.set_cons_succ]
      refine held_takeTo 165 (i := 0) (v := .agg zeroC) rfl rfl (by kernel_rfl) (by kernel_rfl) (by kernel_rfl) (fun _ _ _ h => h) rfl hS (fun Wz hW => by (go_simp; rfl)) ?_
      simp only [List.setIfInBounds_toArray, List.set_cons_zero, List.set_cons_succ]
      refine held_takeTo 167 (i := 2) (v := .pointer (some ⟨w.heap.size, 2, none⟩)) rfl rfl (by kernel_rfl) (by kernel_rfl) (by kernel_rfl) (fun _ _ _ h => h) rfl hS (fun Wz hW => by go_simp) ?_
      simp only [List.setIfInBounds_toArray, List.set_cons_zero, List.set_cons_succ]
      refine held_takeTo 168 (i := 3) (v := .int .i64 ee) rfl rfl (by kernel_rfl) (by kernel_rfl) (by kernel_rfl) (fun _ _ _ h => h) rfl hS (fun Wz hW => by (have h2 : Wz.cell? ⟨w.heap.size, 2, none⟩ = some (.int .i64 ee) := (hW.cell 2).trans rfl; go_simp)) ?_
      simp only [List.setIfInBounds_toArray, List.set_cons_zero, List.set_cons_succ]
      refine held_one (i := 4) (by kernel_rfl) rfl fun K hK => ?_
      refine wpList_store_box rfl 30 (.tmp 2) (.tmp 165) rfl (w.heap.size + 1) (zeroC) rfl rfl 30 (zeroC) HT9.out.r2 (size_op.trans rfl) rfl (by simp [zeroC, Value.oneCell']) ?_
      intro w10 HBw10 hkw10
      have HT10 := Lib.hid (HT9.out.zero HBw10.out hkw10)
      go_wp2_with (fail)
      refine hK.out _ _ HT10.out.rd fun _ => ?_
      clear hK K
      refine held_one (i := 5) (by kernel_rfl) rfl fun K hK => ?_
      refine wpList_store_box rfl 52 (.tmp 3) (.tmp 166) rfl (w.heap.size + 2) (rdV A b c a8 ee) rfl rfl 52 (rdV none [] 0 0 0) HT10.out.r3 (size_RR.trans rfl) rfl (rdV_one _ _ _ _ _) ?_
      intro w11 HBw11 hkw11
      go_wp2_with (fail)
      refine hK.out _ _ (HT10.out.rd.kept hkw11 (by omega)) fun _ => ?_
      clear hK K
      refine held_one (i := 6) (by kernel_rfl) rfl fun K hK => ?_
      go_wp2_with (fail)
      refine hK.out _ _ (HT10.out.rd.kept hkw11 (by omega)) fun _ => ?_
      clear hK K
      refine wpAnyH_done (by kernel_rfl) ?_ _
      go_wp2_with (fail)
      exact RT8Post.ret (o := zeroO) (dA := none) (dc := 0) (gA := none) (gc := 0) (HXA.out.trans (by rw [HEE.out])) HEE.out (HT10.out.r2.kept hkw11 (by omega)) HBw11.out ha_a8 HL.out (World.ownsRow_nil _ _ _ _) (World.ownsRow_nil _ _ _ _) (HT10.out.k.trans hkw11 fun k hk e => by omega) rfl rfl rfl rfl
    have HTO := Lib.hid (show X = if okOp o = true then (0, o, s8) else (10, zeroO, s8) from by rw [← HXX.out, takeO, HXR.out, he]; exact if_neg (fun h => h rfl))
    have HSO := Lib.hid (HSM.out he)
    have HSE := Lib.hid he
    rw [he]
    clear HSM HXR HXX he
    go_wp2_with (first | refine wpList_load_op rfl _ rfl (w.heap.size + 3) rfl _ cs HSZ.out HOP.out ?_ | (refine wpList_store_box rfl 52 (.tmp 1) (.tmp 100) rfl w.heap.size (rdV A b c a8 0) rfl rfl 52 (rdV A b c a7 s7.e) HT2.out.rd (size_RR.trans rfl) rfl (rdV_one _ _ _ _ _) ?_; intro w2 HB' hk'; have HT' := Lib.hid (HT2.out.reader HB'.out hk'); have y0 : w2.cell? ⟨w.heap.size, 0, none⟩ = some (.slice A b.length c) := (by simpa [rdV] using HT'.out.rd.cell 0); have y1 : w2.cell? ⟨w.heap.size, 1, none⟩ = some (.int .i64 a8) := (by simpa [rdV] using HT'.out.rd.cell 1); have y2 : w2.cell? ⟨w.heap.size, 2, none⟩ = some (.int .i64 0) := (by simpa [rdV] using HT'.out.rd.cell 2); obtain ⟨cs, hcs⟩ : ∃ cs, o.cells dA dc none 0 = cs := ⟨_, rfl⟩; have HOP := Lib.hid HT'.out.op; have HSZ := Lib.hid (show cs.size = 11 by rw [← hcs]; rfl); rw [hcs] at HOP; have HCS := Lib.hid hcs; clear hcs; clear HB' hk' x0 f0 HT2))
    have HT := HT'
    clear HT'
    rw [← HCS.out]
    refine (RefCheck_any o dA none dc 0 w2 ⟨DotsAt.of_own HT.out.d, RunsAt.of_own HT.out.g, HSO.out.counts, HSO.out.dl, HSO.out.gl, HSO.out.tl⟩).mono ?_
    unfold IntPost
    rintro r w9 ⟨rfl, hk⟩
    have HT' := Lib.hid (HT.out.fresh hk)
    clear hk HT y0 y1 y2 HOP HSZ HCS
    have HT := HT'
    clear HT'
    have y0 : w9.cell? ⟨w.heap.size, 0, none⟩ = some (.slice A b.length c) := by simpa [rdV] using HT.out.rd.cell 0
    have y1 : w9.cell? ⟨w.heap.size, 1, none⟩ = some (.int .i64 a8) := by simpa [rdV] using HT.out.rd.cell 1
    have y2 : w9.cell? ⟨w.heap.size, 2, none⟩ = some (.int .i64 0) := by simpa [rdV] using HT.out.rd.cell 2
    cases hok : okOp o with
    | false =>
      as_aux_lemma =>
      have hop : opE o = 10 := by unfold opE; rw [hok]; rfl
      have HXA := Lib.hid (show X = (10, zeroO, s8) from by rw [HTO.out, hok, if_neg (by decide)])
      rw [hop]
      clear hop hok HTO HSO
      go_wp2_with (fail)
      have HT9 := Lib.hid (HT.out.fresh (Kept.refl _ _).drew)
      clear y0 y1 y2
      refine wp_region_held_drew (S := fun Wz => Box Wz w.heap.size 52 (rdV A b c a8 0)) (by kernel_rfl) HT9.out.rd fun hS => ?_
      generalize w9.drew = W9 at HT9 hS ⊢
      refine held_takeTo 173 (i := 1) (v := .agg (rdV A b c a8 0)) rfl rfl (by kernel_rfl) (by kernel_rfl) (by kernel_rfl) (fun _ _ _ h => h) rfl hS (fun Wz hW => by (have h0 : Wz.cell? ⟨w.heap.size, 0, none⟩ = some (.slice A b.length c) := (hW.cell 0).trans rfl; have h1 : Wz.cell? ⟨w.heap.size, 1, none⟩ = some (.int .i64 a8) := (hW.cell 1).trans rfl; have h2 : Wz.cell? ⟨w.heap.size, 2, none⟩ = some (.int .i64 0) := (hW.cell 2).trans rfl; go_simp; rfl)) ?_
      simp only [List.setIfInBounds_toArray, List.set_cons_zero, List.set_cons_succ]
      refine held_takeTo 172 (i := 0) (v := .agg zeroC) rfl rfl (by kernel_rfl) (by kernel_rfl) (by kernel_rfl) (fun _ _ _ h => h) rfl hS (fun Wz hW => by (go_simp; rfl)) ?_
      simp only [List.setIfInBounds_toArray, List.set_cons_zero, List.set_cons_succ]
      refine held_one (i := 2) (by kernel_rfl) rfl fun K hK => ?_
      refine wpList_store_box rfl 30 (.tmp 2) (.tmp 172) rfl (w.heap.size + 1) (zeroC) rfl rfl 30 (zeroC) HT9.out.r2 (size_op.trans rfl) rfl (by simp [zeroC, Value.oneCell']) ?_
      intro w10 HBw10 hkw10
      have HT10 := Lib.hid (HT9.out.zero HBw10.out hkw10)
      go_wp2_with (fail)
      refine hK.out _ _ HT10.out.rd fun _ => ?_
      clear hK K
      refine held_one (i := 3) (by kernel_rfl) rfl fun K hK => ?_
      refine wpList_store_box rfl 52 (.tmp 3) (.tmp 173) rfl (w.heap.size + 2) (rdV A b c a8 0) rfl rfl 52 (rdV none [] 0 0 0) HT10.out.r3 (size_RR.trans rfl) rfl (rdV_one _ _ _ _ _) ?_
      intro w11 HBw11 hkw11
      go_wp2_with (fail)
      refine hK.out _ _ (HT10.out.rd.kept hkw11 (by omega)) fun _ => ?_
      clear hK K
      refine held_one (i := 4) (by kernel_rfl) rfl fun K hK => ?_
      go_wp2_with (fail)
      refine hK.out _ _ (HT10.out.rd.kept hkw11 (by omega)) fun _ => ?_
      clear hK K
      refine wpAnyH_done (by kernel_rfl) ?_ _
      go_wp2_with (fail)
      exact RT8Post.ret (o := zeroO) (dA := none) (dc := 0) (gA := none) (gc := 0) HXA.out HSE.out (HT10.out.r2.kept hkw11 (by omega)) HBw11.out ha_a8 HL.out (World.ownsRow_nil _ _ _ _) (World.ownsRow_nil _ _ _ _) (HT10.out.k.trans hkw11 fun k hk e => by omega) rfl rfl rfl rfl
    | true =>
      as_aux_lemma =>
      have hop : opE o = 0 := by unfold opE; rw [hok]; rfl
      have HXA := Lib.hid (show X = (0, o, s8) from by rw [HTO.out, hok, if_pos rfl])
      rw [hop]
      clear hop hok HTO HSO
      go_wp2_with (fail)
      have HT9 := Lib.hid (HT.out.fresh (Kept.refl _ _).drew)
      clear y0 y1 y2
      refine wp_region_held_drew (S := fun Wz => Box Wz w.heap.size 52 (rdV A b c a8 0) ∧ Box Wz (w.heap.size + 3) 30 (o.cells dA dc none 0)) (by kernel_rfl) ⟨HT9.out.rd, HT9.out.op⟩ fun hS => ?_
      generalize w9.drew = W9 at HT9 hS ⊢
      refine held_takeTo 175 (i := 1) (v := .agg (rdV A b c a8 0)) rfl rfl (by kernel_rfl) (by kernel_rfl) (by kernel_rfl) (fun _ _ _ h => h) rfl hS (fun Wz hW => by (have h0 : Wz.cell? ⟨w.heap.size, 0, none⟩ = some (.slice A b.length c) := (hW.1.cell 0).trans rfl; have h1 : Wz.cell? ⟨w.heap.size, 1, none⟩ = some (.int .i64 a8) := (hW.1.cell 1).trans rfl; have h2 : Wz.cell? ⟨w.heap.size, 2, none⟩ = some (.int .i64 0) := (hW.1.cell 2).trans rfl; go_simp; rfl)) ?_
      simp only [List.setIfInBounds_toArray, List.set_cons_zero, List.set_cons_succ]
      refine held_takeTo 174 (i := 0) (v := .agg (o.cells dA dc none 0)) rfl rfl (by kernel_rfl) (by kernel_rfl) (by kernel_rfl) (fun _ _ _ h => h) rfl hS (fun Wz hW => run_load_op _ _ rfl (w.heap.size + 3) rfl 30 (o.cells dA dc none 0) rfl hW.2) ?_
      simp only [List.setIfInBounds_toArray, List.set_cons_zero, List.set_cons_succ]
      refine held_one (i := 2) (by kernel_rfl) rfl fun K hK => ?_
      refine wpList_store_box rfl 30 (.tmp 2) (.tmp 174) rfl (w.heap.size + 1) (o.cells dA dc none 0) rfl rfl 30 (zeroC) HT9.out.r2 (size_op.trans rfl) rfl (Opr.cells_one _ _ _ _ _) ?_
      intro w10 HBw10 hkw10
      have HR10 := Lib.hid (HT9.out.rd.kept hkw10 (by omega))
      have HO10 := Lib.hid (HT9.out.op.kept hkw10 (by omega))
      have HR3 := Lib.hid (HT9.out.r3.kept hkw10 (by omega))
      go_wp2_with (fail)
      refine hK.out _ _ ⟨HR10.out, HO10.out⟩ fun _ => ?_
      clear hK K
      refine held_one (i := 3) (by kernel_rfl) rfl fun K hK => ?_
      refine wpList_store_box rfl 52 (.tmp 3) (.tmp 175) rfl (w.heap.size + 2) (rdV A b c a8 0) rfl rfl 52 (rdV none [] 0 0 0) HR3.out (size_RR.trans rfl) rfl (rdV_one _ _ _ _ _) ?_
      intro w11 HBw11 hkw11
      go_wp2_with (fail)
      refine hK.out _ _ ⟨HR10.out.kept hkw11 (by omega), HO10.out.kept hkw11 (by omega)⟩ fun _ => ?_
      clear hK K
      refine held_one (i := 4) (by kernel_rfl) rfl fun K hK => ?_
      go_wp2_with (fail)
      refine hK.out _ _ ⟨HR10.out.kept hkw11 (by omega), HO10.out.kept hkw11 (by omega)⟩ fun _ => ?_
      clear hK K
      refine wpAnyH_done (by kernel_rfl) ?_ _
      go_wp2_with (fail)
      exact RT8Post.ret HXA.out HSE.out (HBw10.out.kept hkw11 (by omega)) HBw11.out ha_a8 HL.out (own_base (hkw11.own (hkw10.own HT9.out.d (HT9.out.ownd 1 (by omega))) (HT9.out.ownd 2 (by omega))) (by omega)) (own_base (hkw11.own (hkw10.own HT9.out.g (HT9.out.owng 1 (by omega))) (HT9.out.owng 2 (by omega))) (by omega)) ((HT9.out.k.trans hkw10 fun k hk e => by omega).trans hkw11 fun k hk e => by omega) rfl rfl rfl rfl
  · as_aux_lemma =>
    have HL := Lib.hid (show True from trivial)
    have HW1 := Lib.hid (show s4.nx.e ≠ 0 → X = (s4.nx.e, zeroO, s4.nx) from fun h => by
      have hr : takeR s0 = (s4.nx.e, { o8 2 st sq deps with gone := [] }, s4.nx) := by rw [HXR.out]; show (((intoR s4).1, { o8 2 st sq deps with gone := (intoR s4).2.1 }, (intoR s4).2.2) : Int × Opr × Rd) = _; rw [intoR, if_pos h]
      rw [← HXX.out, takeO, hr]; exact if_pos h)
    have HW2 := Lib.hid (show s4.nx.e = 0 → 1024 < s4.val → X = (10, zeroO, s4.nx) from fun h h' => by
      have hr : takeR s0 = (10, { o8 2 st sq deps with gone := [] }, s4.nx) := by rw [HXR.out]; show (((intoR s4).1, { o8 2 st sq deps with gone := (intoR s4).2.1 }, (intoR s4).2.2) : Int × Opr × Rd) = _; rw [intoR, if_neg (fun e => e h), if_pos h']
      rw [← HXX.out, takeO, hr]; exact if_pos (show (10 : Int) ≠ 0 by decide))
    have HW3 := Lib.hid (show s4.nx.e = 0 → ¬ 1024 < s4.val → ∀ acc s', takeRuns s4.val [] s4.nx = (acc, s') → (s'.e ≠ 0 → X = (s'.e, zeroO, s')) ∧ (s'.e = 0 → (⟨⟨st, sq⟩, deps, 2, noId, noId, ⟨#[]⟩, acc, 0⟩ : Opr).Small ∧ X = if okOp ⟨⟨st, sq⟩, deps, 2, noId, noId, ⟨#[]⟩, acc, 0⟩ = true then (0, ⟨⟨st, sq⟩, deps, 2, noId, noId, ⟨#[]⟩, acc, 0⟩, s') else (10, zeroO, s')) from fun h h' acc s' ht => by
      have hi : intoV (o8 2 st sq deps) s4 = (s'.e, (⟨⟨st, sq⟩, deps, 2, noId, noId, ⟨#[]⟩, acc, 0⟩ : Opr), s') := by show (((intoR s4).1, { o8 2 st sq deps with gone := (intoR s4).2.1 }, (intoR s4).2.2) : Int × Opr × Rd) = _; rw [intoR, if_neg (fun e => e h), if_neg h', ht]; rfl
      have hr := HXR.out
      rw [hi] at hr
      have hm := HSM.out
      rw [hi] at hm
      refine ⟨fun he => by rw [← HXX.out, takeO, hr]; exact if_pos he, fun he => ⟨hm he, ?_⟩⟩
      rw [← HXX.out, takeO, hr, he]
      exact if_neg (fun h => h rfl))
    clear HXR HXX HSM
    go_upto_region 23 with (refine wpList_store_box rfl 52 (.tmp 1) (.tmp 58) rfl w.heap.size (rdV A b c a4 0) rfl rfl 52 (rdV A b c a3 0) HT2.out.rd (size_RR.trans rfl) rfl (rdV_one _ _ _ _ _) ?_; intro w2 HB' hk'; have HT' := Lib.hid (HT2.out.reader HB'.out hk'); have y0 : w2.cell? ⟨w.heap.size, 0, none⟩ = some (.slice A b.length c) := (by simpa [rdV] using HT'.out.rd.cell 0); have y1 : w2.cell? ⟨w.heap.size, 1, none⟩ = some (.int .i64 a4) := (by simpa [rdV] using HT'.out.rd.cell 1); have y2 : w2.cell? ⟨w.heap.size, 2, none⟩ = some (.int .i64 0) := (by simpa [rdV] using HT'.out.rd.cell 2); have x3 : w2.cell? ⟨w.heap.size + 3, 3, none⟩ = some (.int .i64 2) := (HT'.out.op.cell 3).trans rfl; clear HB' hk' x0 f0 HT2)
    have HT := HT'
    clear HT' x3
    go_wp2_with (fail)
    refine (RTNum_any A b c a4 0 _ HT.out.bytes HBY.out ha_a4 hlen).mono ?_
    rw [HS.out]
    rintro r w1 ⟨a5, rfl, ha_a5, hl, hk⟩
    have HL := Lib.hid hl
    have HT1 := Lib.hid (HT.out.fresh hk)
    have HE := Lib.hid hl
    clear HL
    have HL := HE
    clear HE hl hk HT HS y0 y1 y2
    generalize s4.val = n at HW2 HW3 ⊢
    generalize s4.nx = s5 at HW1 HW2 HW3 HL ⊢
    have HT2 := HT1
    clear HT1
    by_cases he : s5.e = 0
    case' neg =>
      as_aux_lemma =>
      have HXA := Lib.hid (HW1.out he)
      have e1 : (s5.e != 0) = true := by simp [he]
      have e2 : (s5.e == 0) = false := by simp [he]
      obtain ⟨ee, hee⟩ : ∃ ee, s5.e = ee := ⟨_, rfl⟩
      rw [hee] at e1 e2 ⊢
      have HEE := Lib.hid hee
      clear HW1 HW2 HW3 he hee
      go_wp2_with (refine wpList_store_box rfl 52 (.tmp 1) (.tmp 108) rfl w.heap.size (rdV A b c a5 ee) rfl rfl 52 (rdV A b c a4 0) HT2.out.rd (size_RR.trans rfl) rfl (rdV_one _ _ _ _ _) ?_; intro w2 HB' hk'; have HT' := Lib.hid (HT2.out.reader HB'.out hk'); have y0 : w2.cell? ⟨w.heap.size, 0, none⟩ = some (.slice A b.length c) := (by simpa [rdV] using HT'.out.rd.cell 0); have y1 : w2.cell? ⟨w.heap.size, 1, none⟩ = some (.int .i64 a5) := (by simpa [rdV] using HT'.out.rd.cell 1); have y2 : w2.cell? ⟨w.heap.size, 2, none⟩ = some (.int .i64 ee) := (by simpa [rdV] using HT'.out.rd.cell 2); clear HB' hk' )
      have HT := HT'
      clear HT' HT2
      go_loopw [8] (fun i wr => i = .int .i64 0 ∧ wr = w2) (fun _ _ => 0)
      case atStart => exact ⟨rfl, rfl⟩
      case round =>
        obtain ⟨rfl, rfl⟩ := hrel
        by_cases hn : 0 < n
        · have hn' : ((0 : Int) < (n : Int)) := by omega
          clear hn
          go_wp2_with (fail)
          have HT9 := Lib.hid (HT.out.fresh (Kept.refl _ _).drew)
          clear y0 y1 y2
          refine wp_region_held_drew (S := fun Wz => Box Wz w.heap.size 52 (rdV A b c a5 ee)) (by kernel_rfl) HT9.out.rd fun hS => ?_
          generalize wr.drew = W9 at HT9 hS ⊢
          refine held_takeTo 166 (i := 1) (v := .agg (rdV A b c a5 ee)) rfl rfl (by kernel_rfl) (by kernel_rfl) (by kernel_rfl) (fun _ _ _ h => h) rfl hS (fun Wz hW => by (have h0 : Wz.cell? ⟨w.heap.size, 0, none⟩ = some (.slice A b.length c) := (hW.cell 0).trans rfl; have h1 : Wz.cell? ⟨w.heap.size, 1, none⟩ = some (.int .i64 a5) := (hW.cell 1).trans rfl; have h2 : Wz.cell? ⟨w.heap.size, 2, none⟩ = some (.int .i64 ee) := (hW.cell 2).trans rfl; go_simp; rfl)) ?_
          simp only [List.setIfInBounds_toArray, List.set_cons_zero, List.set_cons_succ]
          refine held_takeTo 165 (i := 0) (v := .agg zeroC) rfl rfl (by kernel_rfl) (by kernel_rfl) (by kernel_rfl) (fun _ _ _ h => h) rfl hS (fun Wz hW => by (go_simp; rfl)) ?_
          simp only [List.setIfInBounds_toArray, List.set_cons_zero, List.set_cons_succ]
          refine held_takeTo 167 (i := 2) (v := .pointer (some ⟨w.heap.size, 2, none⟩)) rfl rfl (by kernel_rfl) (by kernel_rfl) (by kernel_rfl) (fun _ _ _ h => h) rfl hS (fun Wz hW => by go_simp) ?_
          simp only [List.setIfInBounds_toArray, List.set_cons_zero, List.set_cons_succ]
          refine held_takeTo 168 (i := 3) (v := .int .i64 ee) rfl rfl (by kernel_rfl) (by kernel_rfl) (by kernel_rfl) (fun _ _ _ h => h) rfl hS (fun Wz hW => by (have h2 : Wz.cell? ⟨w.heap.size, 2, none⟩ = some (.int .i64 ee) := (hW.cell 2).trans rfl; go_simp)) ?_
          simp only [List.setIfInBounds_toArray, List.set_cons_zero, List.set_cons_succ]
          refine held_one (i := 4) (by kernel_rfl) rfl fun K hK => ?_
          refine wpList_store_box rfl 30 (.tmp 2) (.tmp 165) rfl (w.heap.size + 1) (zeroC) rfl rfl 30 (zeroC) HT9.out.r2 (size_op.trans rfl) rfl (by simp [zeroC, Value.oneCell']) ?_
          intro w10 HBw10 hkw10
          have HT10 := Lib.hid (HT9.out.zero HBw10.out hkw10)
          go_wp2_with (fail)
          refine hK.out _ _ HT10.out.rd fun _ => ?_
          clear hK K
          refine held_one (i := 5) (by kernel_rfl) rfl fun K hK => ?_
          refine wpList_store_box rfl 52 (.tmp 3) (.tmp 166) rfl (w.heap.size + 2) (rdV A b c a5 ee) rfl rfl 52 (rdV none [] 0 0 0) HT10.out.r3 (size_RR.trans rfl) rfl (rdV_one _ _ _ _ _) ?_
          intro w11 HBw11 hkw11
          go_wp2_with (fail)
          refine hK.out _ _ (HT10.out.rd.kept hkw11 (by omega)) fun _ => ?_
          clear hK K
          refine held_one (i := 6) (by kernel_rfl) rfl fun K hK => ?_
          go_wp2_with (fail)
          refine hK.out _ _ (HT10.out.rd.kept hkw11 (by omega)) fun _ => ?_
          clear hK K
          refine wpAnyH_done (by kernel_rfl) ?_ _
          go_wp2_with (fail)
          exact RT8Post.ret (o := zeroO) (dA := none) (dc := 0) (gA := none) (gc := 0) (HXA.out.trans (by rw [HEE.out])) HEE.out (HT10.out.r2.kept hkw11 (by omega)) HBw11.out ha_a5 HL.out (World.ownsRow_nil _ _ _ _) (World.ownsRow_nil _ _ _ _) (HT10.out.k.trans hkw11 fun k hk e => by omega) rfl rfl rfl rfl
        · have hn' : ¬ ((0 : Int) < (n : Int)) := by omega
          clear hn
          go_wp2_with (fail)
          have HT9 := Lib.hid (HT.out.fresh (Kept.refl _ _).drew)
          clear y0 y1 y2
          refine wp_region_held_drew (S := fun Wz => Box Wz w.heap.size 52 (rdV A b c a5 ee)) (by kernel_rfl) HT9.out.rd fun hS => ?_
          generalize wr.drew = W9 at HT9 hS ⊢
          refine held_takeTo 166 (i := 1) (v := .agg (rdV A b c a5 ee)) rfl rfl (by kernel_rfl) (by kernel_rfl) (by kernel_rfl) (fun _ _ _ h => h) rfl hS (fun Wz hW => by (have h0 : Wz.cell? ⟨w.heap.size, 0, none⟩ = some (.slice A b.length c) := (hW.cell 0).trans rfl; have h1 : Wz.cell? ⟨w.heap.size, 1, none⟩ = some (.int .i64 a5) := (hW.cell 1).trans rfl; have h2 : Wz.cell? ⟨w.heap.size, 2, none⟩ = some (.int .i64 ee) := (hW.cell 2).trans rfl; go_simp; rfl)) ?_
          simp only [List.setIfInBounds_toArray, List.set_cons_zero, List.set_cons_succ]
          refine held_takeTo 165 (i := 0) (v := .agg zeroC) rfl rfl (by kernel_rfl) (by kernel_rfl) (by kernel_rfl) (fun _ _ _ h => h) rfl hS (fun Wz hW => by (go_simp; rfl)) ?_
          simp only [List.setIfInBounds_toArray, List.set_cons_zero, List.set_cons_succ]
          refine held_takeTo 167 (i := 2) (v := .pointer (some ⟨w.heap.size, 2, none⟩)) rfl rfl (by kernel_rfl) (by kernel_rfl) (by kernel_rfl) (fun _ _ _ h => h) rfl hS (fun Wz hW => by go_simp) ?_
          simp only [List.setIfInBounds_toArray, List.set_cons_zero, List.set_cons_succ]
          refine held_takeTo 168 (i := 3) (v := .int .i64 ee) rfl rfl (by kernel_rfl) (by kernel_rfl) (by kernel_rfl) (fun _ _ _ h => h) rfl hS (fun Wz hW => by (have h2 : Wz.cell? ⟨w.heap.size, 2, none⟩ = some (.int .i64 ee) := (hW.cell 2).trans rfl; go_simp)) ?_
          simp only [List.setIfInBounds_toArray, List.set_cons_zero, List.set_cons_succ]
          refine held_one (i := 4) (by kernel_rfl) rfl fun K hK => ?_
          refine wpList_store_box rfl 30 (.tmp 2) (.tmp 165) rfl (w.heap.size + 1) (zeroC) rfl rfl 30 (zeroC) HT9.out.r2 (size_op.trans rfl) rfl (by simp [zeroC, Value.oneCell']) ?_
          intro w10 HBw10 hkw10
          have HT10 := Lib.hid (HT9.out.zero HBw10.out hkw10)
          go_wp2_with (fail)
          refine hK.out _ _ HT10.out.rd fun _ => ?_
          clear hK K
          refine held_one (i := 5) (by kernel_rfl) rfl fun K hK => ?_
          refine wpList_store_box rfl 52 (.tmp 3) (.tmp 166) rfl (w.heap.size + 2) (rdV A b c a5 ee) rfl rfl 52 (rdV none [] 0 0 0) HT10.out.r3 (size_RR.trans rfl) rfl (rdV_one _ _ _ _ _) ?_
          intro w11 HBw11 hkw11
          go_wp2_with (fail)
          refine hK.out _ _ (HT10.out.rd.kept hkw11 (by omega)) fun _ => ?_
          clear hK K
          refine held_one (i := 6) (by kernel_rfl) rfl fun K hK => ?_
          go_wp2_with (fail)
          refine hK.out _ _ (HT10.out.rd.kept hkw11 (by omega)) fun _ => ?_
          clear hK K
          refine wpAnyH_done (by kernel_rfl) ?_ _
          go_wp2_with (fail)
          exact RT8Post.ret (o := zeroO) (dA := none) (dc := 0) (gA := none) (gc := 0) (HXA.out.trans (by rw [HEE.out])) HEE.out (HT10.out.r2.kept hkw11 (by omega)) HBw11.out ha_a5 HL.out (World.ownsRow_nil _ _ _ _) (World.ownsRow_nil _ _ _ _) (HT10.out.k.trans hkw11 fun k hk e => by omega) rfl rfl rfl rfl
    have HW2' := Lib.hid (HW2.out he)
    have HW3' := Lib.hid (HW3.out he)
    have HEE := Lib.hid he
    rw [he]
    clear HW1 HW2 HW3 he
    by_cases hn : 1024 < n
    · as_aux_lemma =>
      have HXA := Lib.hid (HW2'.out hn)
      have hn' : (1024 : Int) < (n : Int) := by omega
      clear HW2' HW3' hn
      go_wp2_with (refine wpList_store_box rfl 52 (.tmp 1) (.tmp 108) rfl w.heap.size (rdV A b c a5 0) rfl rfl 52 (rdV A b c a4 0) HT2.out.rd (size_RR.trans rfl) rfl (rdV_one _ _ _ _ _) ?_; intro w2 HB' hk'; have HT' := Lib.hid (HT2.out.reader HB'.out hk'); have y0 : w2.cell? ⟨w.heap.size, 0, none⟩ = some (.slice A b.length c) := (by simpa [rdV] using HT'.out.rd.cell 0); have y1 : w2.cell? ⟨w.heap.size, 1, none⟩ = some (.int .i64 a5) := (by simpa [rdV] using HT'.out.rd.cell 1); have y2 : w2.cell? ⟨w.heap.size, 2, none⟩ = some (.int .i64 0) := (by simpa [rdV] using HT'.out.rd.cell 2); clear HB' hk' )
      have HT := HT'
      clear HT' HT2
      have HT9 := Lib.hid (HT.out.fresh (Kept.refl _ _).drew)
      clear y0 y1 y2
      refine wp_region_held_drew (S := fun Wz => Box Wz w.heap.size 52 (rdV A b c a5 0)) (by kernel_rfl) HT9.out.rd fun hS => ?_
      generalize w2.drew = W9 at HT9 hS ⊢
      refine held_takeTo 117 (i := 1) (v := .agg (rdV A b c a5 0)) rfl rfl (by kernel_rfl) (by kernel_rfl) (by kernel_rfl) (fun _ _ _ h => h) rfl hS (fun Wz hW => by (have h0 : Wz.cell? ⟨w.heap.size, 0, none⟩ = some (.slice A b.length c) := (hW.cell 0).trans rfl; have h1 : Wz.cell? ⟨w.heap.size, 1, none⟩ = some (.int .i64 a5) := (hW.cell 1).trans rfl; have h2 : Wz.cell? ⟨w.heap.size, 2, none⟩ = some (.int .i64 0) := (hW.cell 2).trans rfl; go_simp; rfl)) ?_
      simp only [List.setIfInBounds_toArray, List.set_cons_zero, List.set_cons_succ]
      refine held_takeTo 116 (i := 0) (v := .agg zeroC) rfl rfl (by kernel_rfl) (by kernel_rfl) (by kernel_rfl) (fun _ _ _ h => h) rfl hS (fun Wz hW => by (go_simp; rfl)) ?_
      simp only [List.setIfInBounds_toArray, List.set_cons_zero, List.set_cons_succ]
      refine held_one (i := 2) (by kernel_rfl) rfl fun K hK => ?_
      refine wpList_store_box rfl 30 (.tmp 2) (.tmp 116) rfl (w.heap.size + 1) (zeroC) rfl rfl 30 (zeroC) HT9.out.r2 (size_op.trans rfl) rfl (by simp [zeroC, Value.oneCell']) ?_
      intro w10 HBw10 hkw10
      have HT10 := Lib.hid (HT9.out.zero HBw10.out hkw10)
      go_wp2_with (fail)
      refine hK.out _ _ HT10.out.rd fun _ => ?_
      clear hK K
      refine held_one (i := 3) (by kernel_rfl) rfl fun K hK => ?_
      refine wpList_store_box rfl 52 (.tmp 3) (.tmp 117) rfl (w.heap.size + 2) (rdV A b c a5 0) rfl rfl 52 (rdV none [] 0 0 0) HT10.out.r3 (size_RR.trans rfl) rfl (rdV_one _ _ _ _ _) ?_
      intro w11 HBw11 hkw11
      go_wp2_with (fail)
      refine hK.out _ _ (HT10.out.rd.kept hkw11 (by omega)) fun _ => ?_
      clear hK K
      refine held_one (i := 4) (by kernel_rfl) rfl fun K hK => ?_
      go_wp2_with (fail)
      refine hK.out _ _ (HT10.out.rd.kept hkw11 (by omega)) fun _ => ?_
      clear hK K
      refine wpAnyH_done (by kernel_rfl) ?_ _
      go_wp2_with (fail)
      exact RT8Post.ret (o := zeroO) (dA := none) (dc := 0) (gA := none) (gc := 0) HXA.out HEE.out (HT10.out.r2.kept hkw11 (by omega)) HBw11.out ha_a5 HL.out (World.ownsRow_nil _ _ _ _) (World.ownsRow_nil _ _ _ _) (HT10.out.k.trans hkw11 fun k hk e => by omega) rfl rfl rfl rfl
    · have HW := Lib.hid (HW3'.out hn)
      have hn' : ¬ (1024 : Int) < (n : Int) := by omega
      clear HW2' HW3'
      go_wp2_with (refine wpList_store_box rfl 52 (.tmp 1) (.tmp 108) rfl w.heap.size (rdV A b c a5 0) rfl rfl 52 (rdV A b c a4 0) HT2.out.rd (size_RR.trans rfl) rfl (rdV_one _ _ _ _ _) ?_; intro w2 HB' hk'; have HT' := Lib.hid (HT2.out.reader HB'.out hk'); have y0 : w2.cell? ⟨w.heap.size, 0, none⟩ = some (.slice A b.length c) := (by simpa [rdV] using HT'.out.rd.cell 0); have y1 : w2.cell? ⟨w.heap.size, 1, none⟩ = some (.int .i64 a5) := (by simpa [rdV] using HT'.out.rd.cell 1); have y2 : w2.cell? ⟨w.heap.size, 2, none⟩ = some (.int .i64 0) := (by simpa [rdV] using HT'.out.rd.cell 2); clear HB' hk' )
      have HT := HT'
      clear HT' HT2 y0 y1 y2
      go_loopw [8] (fun i wr => ∃ (k : Nat) (acc : List Rn) (s' : Rd) (a : Nat) (gA : Option Addr) (gc : Nat), i = .int .i64 k ∧ k ≤ n ∧ a ≤ b.length ∧ b.drop a = s'.l ∧ T8 w A b c a s'.e ⟨⟨st, sq⟩, deps, 2, noId, noId, ⟨#[]⟩, acc, 0⟩ dA dc gA gc wr ∧ ((s'.e = 0 ∧ acc.length = k ∧ takeRuns (n - k) acc s' = takeRuns n [] s5) ∨ (s'.e ≠ 0 ∧ takeRuns n [] s5 = ([], s')))) (fun i _ => n - (intOf i).toNat)
      case atStart => exact ⟨0, [], s5, a5, none, 0, rfl, Nat.zero_le _, ha_a5, HL.out, by rw [HEE.out]; exact HT.out, .inl ⟨HEE.out, rfl, rfl⟩⟩
      case round =>
        clear HT HL HEE ha_a5
        obtain ⟨k, acc, s', a, gA, gc, rfl, hk, ha_a, hl, ht, hcase⟩ := hrel
        have HT := Lib.hid ht
        have HL := Lib.hid hl
        clear ht hl
        rcases hcase with ⟨he, hac, htr⟩ | ⟨he, htr⟩
        · rw [he] at HT
          by_cases hlt : k < n
          · as_aux_lemma =>
            have HE0 := Lib.hid he
            have HTR1 := Lib.hid (show s'.nx.nx.nx.e ≠ 0 → takeRuns n [] s5 = ([], s'.nx.nx.nx) from fun h => by rw [← htr, show n - k = n - (k + 1) + 1 by omega, takeRuns, if_pos h])
            have HTR2 := Lib.hid (show s'.nx.nx.nx.e = 0 → takeRuns (n - (k + 1)) (acc ++ [⟨⟨s'.val, s'.nx.val⟩, s'.nx.nx.val⟩]) s'.nx.nx.nx = takeRuns n [] s5 from fun h => by rw [← htr, show n - k = n - (k + 1) + 1 by omega, takeRuns, if_neg (fun e => e h)])
            have HAC := Lib.hid hac
            have HS := Lib.hid (show (⟨b.drop a, 0⟩ : Rd) = s' by rw [HL.out, ← he])
            have haccl : acc.length ≤ 1024 := by omega
            clear he hac htr HL HW
            have y0 : wr.cell? ⟨w.heap.size, 0, none⟩ = some (.slice A b.length c) := by simpa [rdV] using HT.out.rd.cell 0
            have y1 : wr.cell? ⟨w.heap.size, 1, none⟩ = some (.int .i64 a) := by simpa [rdV] using HT.out.rd.cell 1
            have y2 : wr.cell? ⟨w.heap.size, 2, none⟩ = some (.int .i64 0) := by simpa [rdV] using HT.out.rd.cell 2
            go_upto_region 31 with (fail)
            have HT9 := Lib.hid (T9.make HT.out)
            clear HT y0 y1 y2
            have HT := HT9
            clear HT9
            generalize wr.alloc (.cells #[.int .i64 0, .int .i64 0, .int .i64 0] 32) = Wd at HT ⊢
            obtain ⟨Xb, hXb⟩ : ∃ Xb, wr.heap.size = Xb := ⟨_, rfl⟩
            rw [hXb] at HT ⊢
            clear hXb
            have y0 : Wd.cell? ⟨w.heap.size, 0, none⟩ = some (.slice A b.length c) := by simpa [rdV] using HT.out.t.rd.cell 0
            have y1 : Wd.cell? ⟨w.heap.size, 1, none⟩ = some (.int .i64 a) := by simpa [rdV] using HT.out.t.rd.cell 1
            have y2 : Wd.cell? ⟨w.heap.size, 2, none⟩ = some (.int .i64 0) := by simpa [rdV] using HT.out.t.rd.cell 2
            go_wp2_with (fail)
            refine (RTNum_any A b c a 0 _ HT.out.t.bytes HBY.out ha_a hlen).mono ?_
            rw [HS.out]
            rintro r w1 ⟨b1, rfl, ha_b1, hl, hk9⟩
            have HT1 := Lib.hid (HT.out.fresh hk9)
            have x0 : w1.cell? ⟨Xb, 0, none⟩ = some (.int .i64 0) := (HT1.out.x.cell 0).trans rfl
            have f0 : w1.frozen? ⟨Xb, 0, none⟩ = false := HT1.out.x.frozen 0
            have HT2 := Lib.hid (HT1.out.field 0 (.int .i64 (s'.val : Int)) (x' := (s'.val : Int)) (y' := 0) (z' := 0) rfl)
            have HS' := Lib.hid (show (⟨b.drop b1, s'.nx.e⟩ : Rd) = s'.nx by rw [hl])
            clear hl hk9 HT HT1 HS y0 y1 y2
            have HS := HS'
            clear HS'
            obtain ⟨v1, hsv⟩ : ∃ v1 : Int, (s'.val : Int) = v1 := ⟨_, rfl⟩
            rw [hsv] at HT2 HTR2 ⊢
            clear hsv
            generalize s'.nx = s6 at HTR1 HTR2 HS ⊢
            go_wp2_with (refine wpList_store_box rfl 52 (.tmp 1) (.tmp 132) rfl w.heap.size (rdV A b c b1 s6.e) rfl rfl 52 (rdV A b c a 0) HT2.out.t.rd (size_RR.trans rfl) rfl (rdV_one _ _ _ _ _) ?_; intro w2 HB' hk'; have HT' := Lib.hid (HT2.out.reader HB'.out hk'); have y0 : w2.cell? ⟨w.heap.size, 0, none⟩ = some (.slice A b.length c) := (by simpa [rdV] using HT'.out.t.rd.cell 0); have y1 : w2.cell? ⟨w.heap.size, 1, none⟩ = some (.int .i64 b1) := (by simpa [rdV] using HT'.out.t.rd.cell 1); have y2 : w2.cell? ⟨w.heap.size, 2, none⟩ = some (.int .i64 s6.e) := (by simpa [rdV] using HT'.out.t.rd.cell 2); clear HB' hk' x0 f0 HT2)
            have HT := HT'
            clear HT'
            refine (RTNum_any A b c b1 s6.e _ HT.out.t.bytes HBY.out ha_b1 hlen).mono ?_
            rw [HS.out]
            rintro r w1 ⟨b2, rfl, ha_b2, hl, hk9⟩
            have HT1 := Lib.hid (HT.out.fresh hk9)
            have x0 : w1.cell? ⟨Xb, 1, none⟩ = some (.int .i64 0) := (HT1.out.x.cell 1).trans rfl
            have f0 : w1.frozen? ⟨Xb, 1, none⟩ = false := HT1.out.x.frozen 1
            have HT2 := Lib.hid (HT1.out.field 1 (.int .i64 (s6.val : Int)) (x' := v1) (y' := (s6.val : Int)) (z' := 0) rfl)
            have HS' := Lib.hid (show (⟨b.drop b2, s6.nx.e⟩ : Rd) = s6.nx by rw [hl])
            clear hl hk9 HT HT1 HS y0 y1 y2
            have HS := HS'
            clear HS'
            obtain ⟨v2, hsv⟩ : ∃ v2 : Int, (s6.val : Int) = v2 := ⟨_, rfl⟩
            rw [hsv] at HT2 HTR2 ⊢
            clear hsv
            generalize s6.nx = s7 at HTR1 HTR2 HS ⊢
            go_wp2_with (refine wpList_store_box rfl 52 (.tmp 1) (.tmp 139) rfl w.heap.size (rdV A b c b2 s7.e) rfl rfl 52 (rdV A b c b1 s6.e) HT2.out.t.rd (size_RR.trans rfl) rfl (rdV_one _ _ _ _ _) ?_; intro w2 HB' hk'; have HT' := Lib.hid (HT2.out.reader HB'.out hk'); have y0 : w2.cell? ⟨w.heap.size, 0, none⟩ = some (.slice A b.length c) := (by simpa [rdV] using HT'.out.t.rd.cell 0); have y1 : w2.cell? ⟨w.heap.size, 1, none⟩ = some (.int .i64 b2) := (by simpa [rdV] using HT'.out.t.rd.cell 1); have y2 : w2.cell? ⟨w.heap.size, 2, none⟩ = some (.int .i64 s7.e) := (by simpa [rdV] using HT'.out.t.rd.cell 2); clear HB' hk' x0 f0 HT2)
            have HT := HT'
            clear HT'
            refine (RTNum_any A b c b2 s7.e _ HT.out.t.bytes HBY.out ha_b2 hlen).mono ?_
            rw [HS.out]
            rintro r w1 ⟨b3, rfl, ha_b3, hl, hk9⟩
            have HT1 := Lib.hid (HT.out.fresh hk9)
            have x0 : w1.cell? ⟨Xb, 2, none⟩ = some (.int .i64 0) := (HT1.out.x.cell 2).trans rfl
            have f0 : w1.frozen? ⟨Xb, 2, none⟩ = false := HT1.out.x.frozen 2
            have HT2 := Lib.hid (HT1.out.field 2 (.int .i64 (s7.val : Int)) (x' := v1) (y' := v2) (z' := (s7.val : Int)) rfl)
            have HS' := Lib.hid (show (⟨b.drop b3, s7.nx.e⟩ : Rd) = s7.nx by rw [hl])
            clear hl hk9 HT HT1 HS y0 y1 y2
            have HS := HS'
            clear HS'
            obtain ⟨v3, hsv⟩ : ∃ v3 : Int, (s7.val : Int) = v3 := ⟨_, rfl⟩
            rw [hsv] at HT2 HTR2 ⊢
            clear hsv
            generalize s7.nx = s8 at HTR1 HTR2 HS ⊢
            go_upto_region 34 with (refine wpList_store_box rfl 52 (.tmp 1) (.tmp 146) rfl w.heap.size (rdV A b c b3 s8.e) rfl rfl 52 (rdV A b c b2 s7.e) HT2.out.t.rd (size_RR.trans rfl) rfl (rdV_one _ _ _ _ _) ?_; intro w2 HB' hk'; have HT' := Lib.hid (HT2.out.reader HB'.out hk'); clear HB' hk' x0 f0 HT2)
            have HT := HT'
            clear HT'
            have x9 : w2.cell? ⟨w.heap.size + 3, 9, none⟩ = some (.slice gA acc.length gc) := (HT.out.t.op.cell 9).trans rfl
            have q0 : w2.cell? ⟨Xb, 0, none⟩ = some (.int .i64 v1) := (HT.out.x.cell 0).trans rfl
            have q1 : w2.cell? ⟨Xb, 1, none⟩ = some (.int .i64 v2) := (HT.out.x.cell 1).trans rfl
            have q2 : w2.cell? ⟨Xb, 2, none⟩ = some (.int .i64 v3) := (HT.out.x.cell 2).trans rfl
            have HSN := Lib.hid (runs_snoc acc v1 v2 v3)
            go_wp2_with (refine wpList_append_new eltRuns rfl _ _ rfl (w.heap.size + 4) _ acc.length (runs acc) rfl HT.out.t.g 1 1 rfl rfl rfl (by omega) (by have := HT.out.t.lt; omega) ?_; intro A' c' w8 HO8 HK8 HG8; have x98 : w8.cell? ⟨w.heap.size + 3, 9, none⟩ = some (.slice gA acc.length gc) := ((HT.out.t.op.kept HK8.out (fun e => HT.out.t.owng 3 (by omega) _ e rfl)).cell 9).trans rfl; have f98 : w8.frozen? ⟨w.heap.size + 3, 9, none⟩ = false := (HT.out.t.op.kept HK8.out (fun e => HT.out.t.owng 3 (by omega) _ e rfl)).frozen 9)
            have HT8 := Lib.hid (HT.out.t.added (w2 := w8) HK8.out (o' := ⟨⟨st, sq⟩, deps, 2, noId, noId, ⟨#[]⟩, acc ++ [⟨⟨v1, v2⟩, v3⟩], 0⟩) (gA' := A') (gc' := c') (by simp [Opr.cells]) rfl (by rw [HSN.out, List.length_append]; exact HO8.out))
            clear HSN
            go_roundw
            case rel =>
              have hs8 : b.drop b3 = s8.l := congrArg Rd.l HS.out
              by_cases he : s8.e = 0
              · exact ⟨k + 1, acc ++ [⟨⟨v1, v2⟩, v3⟩], s8, b3, A', c', by go_num, by omega, ha_b3, hs8, by rw [List.length_append] at HT8; exact HT8.out, .inl ⟨he, by rw [List.length_append, HAC.out]; rfl, HTR2.out he⟩⟩
              · exact ⟨k + 1, acc ++ [⟨⟨v1, v2⟩, v3⟩], s8, b3, A', c', by go_num, by omega, ha_b3, hs8, by rw [List.length_append] at HT8; exact HT8.out, .inr ⟨he, HTR1.out he⟩⟩
            case measure => simp [intOf]; omega
          · as_aux_lemma =>
            obtain rfl : k = n := by omega
            have hz := (HW.out acc s' (by rw [← htr, Nat.sub_self]; rfl)).2 he
            have HSO := Lib.hid hz.1
            have HTO := Lib.hid hz.2
            have HSE := Lib.hid he
            clear hz HW he htr hac hlt hn hn' hk
            obtain ⟨o, ho⟩ : ∃ o : Opr, ⟨⟨st, sq⟩, deps, 2, noId, noId, ⟨#[]⟩, acc, 0⟩ = o := ⟨_, rfl⟩
            rw [ho] at HT HSO HTO
            clear ho
            obtain ⟨cs, hcs⟩ : ∃ cs, o.cells dA dc gA gc = cs := ⟨_, rfl⟩
            have HOP := Lib.hid HT.out.op
            have HSZ := Lib.hid (show cs.size = 11 by rw [← hcs]; rfl)
            rw [hcs] at HOP
            have HCS := Lib.hid hcs
            clear hcs
            have y0 : wr.cell? ⟨w.heap.size, 0, none⟩ = some (.slice A b.length c) := by simpa [rdV] using HT.out.rd.cell 0
            have y1 : wr.cell? ⟨w.heap.size, 1, none⟩ = some (.int .i64 a) := by simpa [rdV] using HT.out.rd.cell 1
            have y2 : wr.cell? ⟨w.heap.size, 2, none⟩ = some (.int .i64 0) := by simpa [rdV] using HT.out.rd.cell 2
            go_wp2_with (refine wpList_load_op rfl _ rfl (w.heap.size + 3) rfl _ cs HSZ.out HOP.out ?_)
            rw [← HCS.out]
            refine (RefCheck_any o dA gA dc gc wr ⟨DotsAt.of_own HT.out.d, RunsAt.of_own HT.out.g, HSO.out.counts, HSO.out.dl, HSO.out.gl, HSO.out.tl⟩).mono ?_
            unfold IntPost
            rintro r w9 ⟨rfl, hk⟩
            have HT' := Lib.hid (HT.out.fresh hk)
            clear hk HT y0 y1 y2 HOP HSZ HCS
            have HT := HT'
            clear HT'
            have y0 : w9.cell? ⟨w.heap.size, 0, none⟩ = some (.slice A b.length c) := by simpa [rdV] using HT.out.rd.cell 0
            have y1 : w9.cell? ⟨w.heap.size, 1, none⟩ = some (.int .i64 a) := by simpa [rdV] using HT.out.rd.cell 1
            have y2 : w9.cell? ⟨w.heap.size, 2, none⟩ = some (.int .i64 0) := by simpa [rdV] using HT.out.rd.cell 2
            cases hok : okOp o with
            | false =>
              as_aux_lemma =>
              have hop : opE o = 10 := by unfold opE; rw [hok]; rfl
              have HXA := Lib.hid (show X = (10, zeroO, s') from by rw [HTO.out, hok, if_neg (by decide)])
              rw [hop]
              clear hop hok HTO HSO
              go_wp2_with (fail)
              have HT9 := Lib.hid (HT.out.fresh (Kept.refl _ _).drew)
              clear y0 y1 y2
              refine wp_region_held_drew (S := fun Wz => Box Wz w.heap.size 52 (rdV A b c a 0)) (by kernel_rfl) HT9.out.rd fun hS => ?_
              generalize w9.drew = W9 at HT9 hS ⊢
              refine held_takeTo 173 (i := 1) (v := .agg (rdV A b c a 0)) rfl rfl (by kernel_rfl) (by kernel_rfl) (by kernel_rfl) (fun _ _ _ h => h) rfl hS (fun Wz hW => by (have h0 : Wz.cell? ⟨w.heap.size, 0, none⟩ = some (.slice A b.length c) := (hW.cell 0).trans rfl; have h1 : Wz.cell? ⟨w.heap.size, 1, none⟩ = some (.int .i64 a) := (hW.cell 1).trans rfl; have h2 : Wz.cell? ⟨w.heap.size, 2, none⟩ = some (.int .i64 0) := (hW.cell 2).trans rfl; go_simp; rfl)) ?_
              simp only [List.setIfInBounds_toArray, List.set_cons_zero, List.set_cons_succ]
              refine held_takeTo 172 (i := 0) (v := .agg zeroC) rfl rfl (by kernel_rfl) (by kernel_rfl) (by kernel_rfl) (fun _ _ _ h => h) rfl hS (fun Wz hW => by (go_simp; rfl)) ?_
              simp only [List.setIfInBounds_toArray, List.set_cons_zero, List.set_cons_succ]
              refine held_one (i := 2) (by kernel_rfl) rfl fun K hK => ?_
              refine wpList_store_box rfl 30 (.tmp 2) (.tmp 172) rfl (w.heap.size + 1) (zeroC) rfl rfl 30 (zeroC) HT9.out.r2 (size_op.trans rfl) rfl (by simp [zeroC, Value.oneCell']) ?_
              intro w10 HBw10 hkw10
              have HT10 := Lib.hid (HT9.out.zero HBw10.out hkw10)
              go_wp2_with (fail)
              refine hK.out _ _ HT10.out.rd fun _ => ?_
              clear hK K
              refine held_one (i := 3) (by kernel_rfl) rfl fun K hK => ?_
              refine wpList_store_box rfl 52 (.tmp 3) (.tmp 173) rfl (w.heap.size + 2) (rdV A b c a 0) rfl rfl 52 (rdV none [] 0 0 0) HT10.out.r3 (size_RR.trans rfl) rfl (rdV_one _ _ _ _ _) ?_
              intro w11 HBw11 hkw11
              go_wp2_with (fail)
              refine hK.out _ _ (HT10.out.rd.kept hkw11 (by omega)) fun _ => ?_
              clear hK K
              refine held_one (i := 4) (by kernel_rfl) rfl fun K hK => ?_
              go_wp2_with (fail)
              refine hK.out _ _ (HT10.out.rd.kept hkw11 (by omega)) fun _ => ?_
              clear hK K
              refine wpAnyH_done (by kernel_rfl) ?_ _
              go_wp2_with (fail)
              exact RT8Post.ret (o := zeroO) (dA := none) (dc := 0) (gA := none) (gc := 0) HXA.out HSE.out (HT10.out.r2.kept hkw11 (by omega)) HBw11.out ha_a HL.out (World.ownsRow_nil _ _ _ _) (World.ownsRow_nil _ _ _ _) (HT10.out.k.trans hkw11 fun k hk e => by omega) rfl rfl rfl rfl
            | true =>
              as_aux_lemma =>
              have hop : opE o = 0 := by unfold opE; rw [hok]; rfl
              have HXA := Lib.hid (show X = (0, o, s') from by rw [HTO.out, hok, if_pos rfl])
              rw [hop]
              clear hop hok HTO HSO
              go_wp2_with (fail)
              have HT9 := Lib.hid (HT.out.fresh (Kept.refl _ _).drew)
              clear y0 y1 y2
              refine wp_region_held_drew (S := fun Wz => Box Wz w.heap.size 52 (rdV A b c a 0) ∧ Box Wz (w.heap.size + 3) 30 (o.cells dA dc gA gc)) (by kernel_rfl) ⟨HT9.out.rd, HT9.out.op⟩ fun hS => ?_
              generalize w9.drew = W9 at HT9 hS ⊢
              refine held_takeTo 175 (i := 1) (v := .agg (rdV A b c a 0)) rfl rfl (by kernel_rfl) (by kernel_rfl) (by kernel_rfl) (fun _ _ _ h => h) rfl hS (fun Wz hW => by (have h0 : Wz.cell? ⟨w.heap.size, 0, none⟩ = some (.slice A b.length c) := (hW.1.cell 0).trans rfl; have h1 : Wz.cell? ⟨w.heap.size, 1, none⟩ = some (.int .i64 a) := (hW.1.cell 1).trans rfl; have h2 : Wz.cell? ⟨w.heap.size, 2, none⟩ = some (.int .i64 0) := (hW.1.cell 2).trans rfl; go_simp; rfl)) ?_
              simp only [List.setIfInBounds_toArray, List.set_cons_zero, List.set_cons_succ]
              refine held_takeTo 174 (i := 0) (v := .agg (o.cells dA dc gA gc)) rfl rfl (by kernel_rfl) (by kernel_rfl) (by kernel_rfl) (fun _ _ _ h => h) rfl hS (fun Wz hW => run_load_op _ _ rfl (w.heap.size + 3) rfl 30 (o.cells dA dc gA gc) rfl hW.2) ?_
              simp only [List.setIfInBounds_toArray, List.set_cons_zero, List.set_cons_succ]
              refine held_one (i := 2) (by kernel_rfl) rfl fun K hK => ?_
              refine wpList_store_box rfl 30 (.tmp 2) (.tmp 174) rfl (w.heap.size + 1) (o.cells dA dc gA gc) rfl rfl 30 (zeroC) HT9.out.r2 (size_op.trans rfl) rfl (Opr.cells_one _ _ _ _ _) ?_
              intro w10 HBw10 hkw10
              have HR10 := Lib.hid (HT9.out.rd.kept hkw10 (by omega))
              have HO10 := Lib.hid (HT9.out.op.kept hkw10 (by omega))
              have HR3 := Lib.hid (HT9.out.r3.kept hkw10 (by omega))
              go_wp2_with (fail)
              refine hK.out _ _ ⟨HR10.out, HO10.out⟩ fun _ => ?_
              clear hK K
              refine held_one (i := 3) (by kernel_rfl) rfl fun K hK => ?_
              refine wpList_store_box rfl 52 (.tmp 3) (.tmp 175) rfl (w.heap.size + 2) (rdV A b c a 0) rfl rfl 52 (rdV none [] 0 0 0) HR3.out (size_RR.trans rfl) rfl (rdV_one _ _ _ _ _) ?_
              intro w11 HBw11 hkw11
              go_wp2_with (fail)
              refine hK.out _ _ ⟨HR10.out.kept hkw11 (by omega), HO10.out.kept hkw11 (by omega)⟩ fun _ => ?_
              clear hK K
              refine held_one (i := 4) (by kernel_rfl) rfl fun K hK => ?_
              go_wp2_with (fail)
              refine hK.out _ _ ⟨HR10.out.kept hkw11 (by omega), HO10.out.kept hkw11 (by omega)⟩ fun _ => ?_
              clear hK K
              refine wpAnyH_done (by kernel_rfl) ?_ _
              go_wp2_with (fail)
              exact RT8Post.ret HXA.out HSE.out (HBw10.out.kept hkw11 (by omega)) HBw11.out ha_a HL.out (own_base (hkw11.own (hkw10.own HT9.out.d (HT9.out.ownd 1 (by omega))) (HT9.out.ownd 2 (by omega))) (by omega)) (own_base (hkw11.own (hkw10.own HT9.out.g (HT9.out.owng 1 (by omega))) (HT9.out.owng 2 (by omega))) (by omega)) ((HT9.out.k.trans hkw10 fun k hk e => by omega).trans hkw11 fun k hk e => by omega) rfl rfl rfl rfl
        · as_aux_lemma =>
          have HXA := Lib.hid ((HW.out [] s' htr).1 he)
          have e1 : (s'.e != 0) = true := by simp [he]
          have e2 : (s'.e == 0) = false := by simp [he]
          obtain ⟨ee, hee⟩ : ∃ ee, s'.e = ee := ⟨_, rfl⟩
          rw [hee] at e1 e2 HT
          have HEE := Lib.hid hee
          clear HW htr he hee hn hn'
          have y0 : wr.cell? ⟨w.heap.size, 0, none⟩ = some (.slice A b.length c) := by simpa [rdV] using HT.out.rd.cell 0
          have y1 : wr.cell? ⟨w.heap.size, 1, none⟩ = some (.int .i64 a) := by simpa [rdV] using HT.out.rd.cell 1
          have y2 : wr.cell? ⟨w.heap.size, 2, none⟩ = some (.int .i64 ee) := by simpa [rdV] using HT.out.rd.cell 2
          by_cases hlt : k < n
          · have hn' : ((k : Int) < (n : Int)) := by omega
            go_wp2_with (fail)
            have HT9 := Lib.hid (HT.out.fresh (Kept.refl _ _).drew)
            clear y0 y1 y2
            refine wp_region_held_drew (S := fun Wz => Box Wz w.heap.size 52 (rdV A b c a ee)) (by kernel_rfl) HT9.out.rd fun hS => ?_
            generalize wr.drew = W9 at HT9 hS ⊢
            refine held_takeTo 166 (i := 1) (v := .agg (rdV A b c a ee)) rfl rfl (by kernel_rfl) (by kernel_rfl) (by kernel_rfl) (fun _ _ _ h => h) rfl hS (fun Wz hW => by (have h0 : Wz.cell? ⟨w.heap.size, 0, none⟩ = some (.slice A b.length c) := (hW.cell 0).trans rfl; have h1 : Wz.cell? ⟨w.heap.size, 1, none⟩ = some (.int .i64 a) := (hW.cell 1).trans rfl; have h2 : Wz.cell? ⟨w.heap.size, 2, none⟩ = some (.int .i64 ee) := (hW.cell 2).trans rfl; go_simp; rfl)) ?_
            simp only [List.setIfInBounds_toArray, List.set_cons_zero, List.set_cons_succ]
            refine held_takeTo 165 (i := 0) (v := .agg zeroC) rfl rfl (by kernel_rfl) (by kernel_rfl) (by kernel_rfl) (fun _ _ _ h => h) rfl hS (fun Wz hW => by (go_simp; rfl)) ?_
            simp only [List.setIfInBounds_toArray, List.set_cons_zero, List.set_cons_succ]
            refine held_takeTo 167 (i := 2) (v := .pointer (some ⟨w.heap.size, 2, none⟩)) rfl rfl (by kernel_rfl) (by kernel_rfl) (by kernel_rfl) (fun _ _ _ h => h) rfl hS (fun Wz hW => by go_simp) ?_
            simp only [List.setIfInBounds_toArray, List.set_cons_zero, List.set_cons_succ]
            refine held_takeTo 168 (i := 3) (v := .int .i64 ee) rfl rfl (by kernel_rfl) (by kernel_rfl) (by kernel_rfl) (fun _ _ _ h => h) rfl hS (fun Wz hW => by (have h2 : Wz.cell? ⟨w.heap.size, 2, none⟩ = some (.int .i64 ee) := (hW.cell 2).trans rfl; go_simp)) ?_
            simp only [List.setIfInBounds_toArray, List.set_cons_zero, List.set_cons_succ]
            refine held_one (i := 4) (by kernel_rfl) rfl fun K hK => ?_
            refine wpList_store_box rfl 30 (.tmp 2) (.tmp 165) rfl (w.heap.size + 1) (zeroC) rfl rfl 30 (zeroC) HT9.out.r2 (size_op.trans rfl) rfl (by simp [zeroC, Value.oneCell']) ?_
            intro w10 HBw10 hkw10
            have HT10 := Lib.hid (HT9.out.zero HBw10.out hkw10)
            go_wp2_with (fail)
            refine hK.out _ _ HT10.out.rd fun _ => ?_
            clear hK K
            refine held_one (i := 5) (by kernel_rfl) rfl fun K hK => ?_
            refine wpList_store_box rfl 52 (.tmp 3) (.tmp 166) rfl (w.heap.size + 2) (rdV A b c a ee) rfl rfl 52 (rdV none [] 0 0 0) HT10.out.r3 (size_RR.trans rfl) rfl (rdV_one _ _ _ _ _) ?_
            intro w11 HBw11 hkw11
            go_wp2_with (fail)
            refine hK.out _ _ (HT10.out.rd.kept hkw11 (by omega)) fun _ => ?_
            clear hK K
            refine held_one (i := 6) (by kernel_rfl) rfl fun K hK => ?_
            go_wp2_with (fail)
            refine hK.out _ _ (HT10.out.rd.kept hkw11 (by omega)) fun _ => ?_
            clear hK K
            refine wpAnyH_done (by kernel_rfl) ?_ _
            go_wp2_with (fail)
            exact RT8Post.ret (o := zeroO) (dA := none) (dc := 0) (gA := none) (gc := 0) (HXA.out.trans (by rw [HEE.out])) HEE.out (HT10.out.r2.kept hkw11 (by omega)) HBw11.out ha_a HL.out (World.ownsRow_nil _ _ _ _) (World.ownsRow_nil _ _ _ _) (HT10.out.k.trans hkw11 fun k hk e => by omega) rfl rfl rfl rfl
          · have hn' : ¬ ((k : Int) < (n : Int)) := by omega
            go_wp2_with (fail)
            have HT9 := Lib.hid (HT.out.fresh (Kept.refl _ _).drew)
            clear y0 y1 y2
            refine wp_region_held_drew (S := fun Wz => Box Wz w.heap.size 52 (rdV A b c a ee)) (by kernel_rfl) HT9.out.rd fun hS => ?_
            generalize wr.drew = W9 at HT9 hS ⊢
            refine held_takeTo 166 (i := 1) (v := .agg (rdV A b c a ee)) rfl rfl (by kernel_rfl) (by kernel_rfl) (by kernel_rfl) (fun _ _ _ h => h) rfl hS (fun Wz hW => by (have h0 : Wz.cell? ⟨w.heap.size, 0, none⟩ = some (.slice A b.length c) := (hW.cell 0).trans rfl; have h1 : Wz.cell? ⟨w.heap.size, 1, none⟩ = some (.int .i64 a) := (hW.cell 1).trans rfl; have h2 : Wz.cell? ⟨w.heap.size, 2, none⟩ = some (.int .i64 ee) := (hW.cell 2).trans rfl; go_simp; rfl)) ?_
            simp only [List.setIfInBounds_toArray, List.set_cons_zero, List.set_cons_succ]
            refine held_takeTo 165 (i := 0) (v := .agg zeroC) rfl rfl (by kernel_rfl) (by kernel_rfl) (by kernel_rfl) (fun _ _ _ h => h) rfl hS (fun Wz hW => by (go_simp; rfl)) ?_
            simp only [List.setIfInBounds_toArray, List.set_cons_zero, List.set_cons_succ]
            refine held_takeTo 167 (i := 2) (v := .pointer (some ⟨w.heap.size, 2, none⟩)) rfl rfl (by kernel_rfl) (by kernel_rfl) (by kernel_rfl) (fun _ _ _ h => h) rfl hS (fun Wz hW => by go_simp) ?_
            simp only [List.setIfInBounds_toArray, List.set_cons_zero, List.set_cons_succ]
            refine held_takeTo 168 (i := 3) (v := .int .i64 ee) rfl rfl (by kernel_rfl) (by kernel_rfl) (by kernel_rfl) (fun _ _ _ h => h) rfl hS (fun Wz hW => by (have h2 : Wz.cell? ⟨w.heap.size, 2, none⟩ = some (.int .i64 ee) := (hW.cell 2).trans rfl; go_simp)) ?_
            simp only [List.setIfInBounds_toArray, List.set_cons_zero, List.set_cons_succ]
            refine held_one (i := 4) (by kernel_rfl) rfl fun K hK => ?_
            refine wpList_store_box rfl 30 (.tmp 2) (.tmp 165) rfl (w.heap.size + 1) (zeroC) rfl rfl 30 (zeroC) HT9.out.r2 (size_op.trans rfl) rfl (by simp [zeroC, Value.oneCell']) ?_
            intro w10 HBw10 hkw10
            have HT10 := Lib.hid (HT9.out.zero HBw10.out hkw10)
            go_wp2_with (fail)
            refine hK.out _ _ HT10.out.rd fun _ => ?_
            clear hK K
            refine held_one (i := 5) (by kernel_rfl) rfl fun K hK => ?_
            refine wpList_store_box rfl 52 (.tmp 3) (.tmp 166) rfl (w.heap.size + 2) (rdV A b c a ee) rfl rfl 52 (rdV none [] 0 0 0) HT10.out.r3 (size_RR.trans rfl) rfl (rdV_one _ _ _ _ _) ?_
            intro w11 HBw11 hkw11
            go_wp2_with (fail)
            refine hK.out _ _ (HT10.out.rd.kept hkw11 (by omega)) fun _ => ?_
            clear hK K
            refine held_one (i := 6) (by kernel_rfl) rfl fun K hK => ?_
            go_wp2_with (fail)
            refine hK.out _ _ (HT10.out.rd.kept hkw11 (by omega)) fun _ => ?_
            clear hK K
            refine wpAnyH_done (by kernel_rfl) ?_ _
            go_wp2_with (fail)
            exact RT8Post.ret (o := zeroO) (dA := none) (dc := 0) (gA := none) (gc := 0) (HXA.out.trans (by rw [HEE.out])) HEE.out (HT10.out.r2.kept hkw11 (by omega)) HBw11.out ha_a HL.out (World.ownsRow_nil _ _ _ _) (World.ownsRow_nil _ _ _ _) (HT10.out.k.trans hkw11 fun k hk e => by omega) rfl rfl rfl rfl
  · as_aux_lemma =>
    rw [show intoV (o8 3 st sq deps) s4 = (s4.nx.e, (⟨⟨st, sq⟩, deps, 3, noId, noId, ⟨#[]⟩, [], s4.val⟩ : Opr), s4.nx) from rfl] at HXR HSM
    have HL := Lib.hid (show True from trivial)
    go_upto_region 36 with (refine wpList_store_box rfl 52 (.tmp 1) (.tmp 58) rfl w.heap.size (rdV A b c a4 0) rfl rfl 52 (rdV A b c a3 0) HT2.out.rd (size_RR.trans rfl) rfl (rdV_one _ _ _ _ _) ?_; intro w2 HB' hk'; have HT' := Lib.hid (HT2.out.reader HB'.out hk'); have y0 : w2.cell? ⟨w.heap.size, 0, none⟩ = some (.slice A b.length c) := (by simpa [rdV] using HT'.out.rd.cell 0); have y1 : w2.cell? ⟨w.heap.size, 1, none⟩ = some (.int .i64 a4) := (by simpa [rdV] using HT'.out.rd.cell 1); have y2 : w2.cell? ⟨w.heap.size, 2, none⟩ = some (.int .i64 0) := (by simpa [rdV] using HT'.out.rd.cell 2); have x3 : w2.cell? ⟨w.heap.size + 3, 3, none⟩ = some (.int .i64 3) := (HT'.out.op.cell 3).trans rfl; clear HB' hk' x0 f0 HT2)
    have HT := HT'
    clear HT' x3
    go_wp2_with (fail)
    refine (RTNum_any A b c a4 0 _ HT.out.bytes HBY.out ha_a4 hlen).mono ?_
    rw [HS.out]
    rintro r w1 ⟨a5, rfl, ha_a5, hl, hk⟩
    have HL := Lib.hid hl
    have HT1 := Lib.hid (HT.out.fresh hk)
    have x0 : w1.cell? ⟨w.heap.size + 3, 10, none⟩ = some (.int .i64 0) := (HT1.out.op.cell 10).trans rfl
    have f0 : w1.frozen? ⟨w.heap.size + 3, 10, none⟩ = false := HT1.out.op.frozen 10
    have HT2 := Lib.hid (HT1.out.field 10 (.int .i64 (s4.val : Int)) (o' := ⟨⟨st, sq⟩, deps, 3, noId, noId, ⟨#[]⟩, [], s4.val⟩) rfl HT1.out.d HT1.out.g)
    clear HL
    have HL := Lib.hid hl
    clear hl hk HT HT1 HS y0 y1 y2
    generalize (s4.val : Int) = v1 at HXR HSM HT2 ⊢
    generalize s4.nx = s5 at HXR HSM HL ⊢
    obtain ⟨o, ho⟩ : ∃ o : Opr, ⟨⟨st, sq⟩, deps, 3, noId, noId, ⟨#[]⟩, [], v1⟩ = o := ⟨_, rfl⟩
    rw [ho] at HXR HSM HT2
    clear ho
    by_cases he : s5.e = 0
    case' neg =>
      as_aux_lemma =>
      have HXA := Lib.hid (show X = (s5.e, zeroO, s5) from by rw [← HXX.out, takeO, HXR.out]; exact if_pos he)
      have e1 : (s5.e != 0) = true := by simp [he]
      obtain ⟨ee, hee⟩ : ∃ ee, s5.e = ee := ⟨_, rfl⟩
      rw [hee] at e1 ⊢
      have HEE := Lib.hid hee
      clear HSM HXR HXX he hee
      go_wp2_with (refine wpList_store_box rfl 52 (.tmp 1) (.tmp 160) rfl w.heap.size (rdV A b c a5 ee) rfl rfl 52 (rdV A b c a4 0) HT2.out.rd (size_RR.trans rfl) rfl (rdV_one _ _ _ _ _) ?_; intro w2 HB' hk'; have HT' := Lib.hid (HT2.out.reader HB'.out hk'); have y0 : w2.cell? ⟨w.heap.size, 0, none⟩ = some (.slice A b.length c) := (by simpa [rdV] using HT'.out.rd.cell 0); have y1 : w2.cell? ⟨w.heap.size, 1, none⟩ = some (.int .i64 a5) := (by simpa [rdV] using HT'.out.rd.cell 1); have y2 : w2.cell? ⟨w.heap.size, 2, none⟩ = some (.int .i64 ee) := (by simpa [rdV] using HT'.out.rd.cell 2); clear HB' hk' x0 f0)
      have HT := HT'
      clear HT'
      have HT9 := Lib.hid (HT.out.fresh (Kept.refl _ _).drew)
      clear y0 y1 y2
      refine wp_region_held_drew (S := fun Wz => Box Wz w.heap.size 52 (rdV A b c a5 ee)) (by kernel_rfl) HT9.out.rd fun hS => ?_
      generalize w2.drew = W9 at HT9 hS ⊢
      refine held_takeTo 166 (i := 1) (v := .agg (rdV A b c a5 ee)) rfl rfl (by kernel_rfl) (by kernel_rfl) (by kernel_rfl) (fun _ _ _ h => h) rfl hS (fun Wz hW => by (have h0 : Wz.cell? ⟨w.heap.size, 0, none⟩ = some (.slice A b.length c) := (hW.cell 0).trans rfl; have h1 : Wz.cell? ⟨w.heap.size, 1, none⟩ = some (.int .i64 a5) := (hW.cell 1).trans rfl; have h2 : Wz.cell? ⟨w.heap.size, 2, none⟩ = some (.int .i64 ee) := (hW.cell 2).trans rfl; go_simp; rfl)) ?_
      simp only [List.setIfInBounds_toArray, List.set_cons_zero, List.set_cons_succ]
      refine held_takeTo 165 (i := 0) (v := .agg zeroC) rfl rfl (by kernel_rfl) (by kernel_rfl) (by kernel_rfl) (fun _ _ _ h => h) rfl hS (fun Wz hW => by (go_simp; rfl)) ?_
      simp only [List.setIfInBounds_toArray, List.set_cons_zero, List.set_cons_succ]
      refine held_takeTo 167 (i := 2) (v := .pointer (some ⟨w.heap.size, 2, none⟩)) rfl rfl (by kernel_rfl) (by kernel_rfl) (by kernel_rfl) (fun _ _ _ h => h) rfl hS (fun Wz hW => by go_simp) ?_
      simp only [List.setIfInBounds_toArray, List.set_cons_zero, List.set_cons_succ]
      refine held_takeTo 168 (i := 3) (v := .int .i64 ee) rfl rfl (by kernel_rfl) (by kernel_rfl) (by kernel_rfl) (fun _ _ _ h => h) rfl hS (fun Wz hW => by (have h2 : Wz.cell? ⟨w.heap.size, 2, none⟩ = some (.int .i64 ee) := (hW.cell 2).trans rfl; go_simp)) ?_
      simp only [List.setIfInBounds_toArray, List.set_cons_zero, List.set_cons_succ]
      refine held_one (i := 4) (by kernel_rfl) rfl fun K hK => ?_
      refine wpList_store_box rfl 30 (.tmp 2) (.tmp 165) rfl (w.heap.size + 1) (zeroC) rfl rfl 30 (zeroC) HT9.out.r2 (size_op.trans rfl) rfl (by simp [zeroC, Value.oneCell']) ?_
      intro w10 HBw10 hkw10
      have HT10 := Lib.hid (HT9.out.zero HBw10.out hkw10)
      go_wp2_with (fail)
      refine hK.out _ _ HT10.out.rd fun _ => ?_
      clear hK K
      refine held_one (i := 5) (by kernel_rfl) rfl fun K hK => ?_
      refine wpList_store_box rfl 52 (.tmp 3) (.tmp 166) rfl (w.heap.size + 2) (rdV A b c a5 ee) rfl rfl 52 (rdV none [] 0 0 0) HT10.out.r3 (size_RR.trans rfl) rfl (rdV_one _ _ _ _ _) ?_
      intro w11 HBw11 hkw11
      go_wp2_with (fail)
      refine hK.out _ _ (HT10.out.rd.kept hkw11 (by omega)) fun _ => ?_
      clear hK K
      refine held_one (i := 6) (by kernel_rfl) rfl fun K hK => ?_
      go_wp2_with (fail)
      refine hK.out _ _ (HT10.out.rd.kept hkw11 (by omega)) fun _ => ?_
      clear hK K
      refine wpAnyH_done (by kernel_rfl) ?_ _
      go_wp2_with (fail)
      exact RT8Post.ret (o := zeroO) (dA := none) (dc := 0) (gA := none) (gc := 0) (HXA.out.trans (by rw [HEE.out])) HEE.out (HT10.out.r2.kept hkw11 (by omega)) HBw11.out ha_a5 HL.out (World.ownsRow_nil _ _ _ _) (World.ownsRow_nil _ _ _ _) (HT10.out.k.trans hkw11 fun k hk e => by omega) rfl rfl rfl rfl
    have HTO := Lib.hid (show X = if okOp o = true then (0, o, s5) else (10, zeroO, s5) from by rw [← HXX.out, takeO, HXR.out, he]; exact if_neg (fun h => h rfl))
    have HSO := Lib.hid (HSM.out he)
    have HSE := Lib.hid he
    rw [he]
    clear HSM HXR HXX he
    go_wp2_with (first | refine wpList_load_op rfl _ rfl (w.heap.size + 3) rfl _ cs HSZ.out HOP.out ?_ | (refine wpList_store_box rfl 52 (.tmp 1) (.tmp 160) rfl w.heap.size (rdV A b c a5 0) rfl rfl 52 (rdV A b c a4 0) HT2.out.rd (size_RR.trans rfl) rfl (rdV_one _ _ _ _ _) ?_; intro w2 HB' hk'; have HT' := Lib.hid (HT2.out.reader HB'.out hk'); have y0 : w2.cell? ⟨w.heap.size, 0, none⟩ = some (.slice A b.length c) := (by simpa [rdV] using HT'.out.rd.cell 0); have y1 : w2.cell? ⟨w.heap.size, 1, none⟩ = some (.int .i64 a5) := (by simpa [rdV] using HT'.out.rd.cell 1); have y2 : w2.cell? ⟨w.heap.size, 2, none⟩ = some (.int .i64 0) := (by simpa [rdV] using HT'.out.rd.cell 2); obtain ⟨cs, hcs⟩ : ∃ cs, o.cells dA dc none 0 = cs := ⟨_, rfl⟩; have HOP := Lib.hid HT'.out.op; have HSZ := Lib.hid (show cs.size = 11 by rw [← hcs]; rfl); rw [hcs] at HOP; have HCS := Lib.hid hcs; clear hcs; clear HB' hk' x0 f0 HT2))
    have HT := HT'
    clear HT'
    rw [← HCS.out]
    refine (RefCheck_any o dA none dc 0 w2 ⟨DotsAt.of_own HT.out.d, RunsAt.of_own HT.out.g, HSO.out.counts, HSO.out.dl, HSO.out.gl, HSO.out.tl⟩).mono ?_
    unfold IntPost
    rintro r w9 ⟨rfl, hk⟩
    have HT' := Lib.hid (HT.out.fresh hk)
    clear hk HT y0 y1 y2 HOP HSZ HCS
    have HT := HT'
    clear HT'
    have y0 : w9.cell? ⟨w.heap.size, 0, none⟩ = some (.slice A b.length c) := by simpa [rdV] using HT.out.rd.cell 0
    have y1 : w9.cell? ⟨w.heap.size, 1, none⟩ = some (.int .i64 a5) := by simpa [rdV] using HT.out.rd.cell 1
    have y2 : w9.cell? ⟨w.heap.size, 2, none⟩ = some (.int .i64 0) := by simpa [rdV] using HT.out.rd.cell 2
    cases hok : okOp o with
    | false =>
      as_aux_lemma =>
      have hop : opE o = 10 := by unfold opE; rw [hok]; rfl
      have HXA := Lib.hid (show X = (10, zeroO, s5) from by rw [HTO.out, hok, if_neg (by decide)])
      rw [hop]
      clear hop hok HTO HSO
      go_wp2_with (fail)
      have HT9 := Lib.hid (HT.out.fresh (Kept.refl _ _).drew)
      clear y0 y1 y2
      refine wp_region_held_drew (S := fun Wz => Box Wz w.heap.size 52 (rdV A b c a5 0)) (by kernel_rfl) HT9.out.rd fun hS => ?_
      generalize w9.drew = W9 at HT9 hS ⊢
      refine held_takeTo 173 (i := 1) (v := .agg (rdV A b c a5 0)) rfl rfl (by kernel_rfl) (by kernel_rfl) (by kernel_rfl) (fun _ _ _ h => h) rfl hS (fun Wz hW => by (have h0 : Wz.cell? ⟨w.heap.size, 0, none⟩ = some (.slice A b.length c) := (hW.cell 0).trans rfl; have h1 : Wz.cell? ⟨w.heap.size, 1, none⟩ = some (.int .i64 a5) := (hW.cell 1).trans rfl; have h2 : Wz.cell? ⟨w.heap.size, 2, none⟩ = some (.int .i64 0) := (hW.cell 2).trans rfl; go_simp; rfl)) ?_
      simp only [List.setIfInBounds_toArray, List.set_cons_zero, List.set_cons_succ]
      refine held_takeTo 172 (i := 0) (v := .agg zeroC) rfl rfl (by kernel_rfl) (by kernel_rfl) (by kernel_rfl) (fun _ _ _ h => h) rfl hS (fun Wz hW => by (go_simp; rfl)) ?_
      simp only [List.setIfInBounds_toArray, List.set_cons_zero, List.set_cons_succ]
      refine held_one (i := 2) (by kernel_rfl) rfl fun K hK => ?_
      refine wpList_store_box rfl 30 (.tmp 2) (.tmp 172) rfl (w.heap.size + 1) (zeroC) rfl rfl 30 (zeroC) HT9.out.r2 (size_op.trans rfl) rfl (by simp [zeroC, Value.oneCell']) ?_
      intro w10 HBw10 hkw10
      have HT10 := Lib.hid (HT9.out.zero HBw10.out hkw10)
      go_wp2_with (fail)
      refine hK.out _ _ HT10.out.rd fun _ => ?_
      clear hK K
      refine held_one (i := 3) (by kernel_rfl) rfl fun K hK => ?_
      refine wpList_store_box rfl 52 (.tmp 3) (.tmp 173) rfl (w.heap.size + 2) (rdV A b c a5 0) rfl rfl 52 (rdV none [] 0 0 0) HT10.out.r3 (size_RR.trans rfl) rfl (rdV_one _ _ _ _ _) ?_
      intro w11 HBw11 hkw11
      go_wp2_with (fail)
      refine hK.out _ _ (HT10.out.rd.kept hkw11 (by omega)) fun _ => ?_
      clear hK K
      refine held_one (i := 4) (by kernel_rfl) rfl fun K hK => ?_
      go_wp2_with (fail)
      refine hK.out _ _ (HT10.out.rd.kept hkw11 (by omega)) fun _ => ?_
      clear hK K
      refine wpAnyH_done (by kernel_rfl) ?_ _
      go_wp2_with (fail)
      exact RT8Post.ret (o := zeroO) (dA := none) (dc := 0) (gA := none) (gc := 0) HXA.out HSE.out (HT10.out.r2.kept hkw11 (by omega)) HBw11.out ha_a5 HL.out (World.ownsRow_nil _ _ _ _) (World.ownsRow_nil _ _ _ _) (HT10.out.k.trans hkw11 fun k hk e => by omega) rfl rfl rfl rfl
    | true =>
      as_aux_lemma =>
      have hop : opE o = 0 := by unfold opE; rw [hok]; rfl
      have HXA := Lib.hid (show X = (0, o, s5) from by rw [HTO.out, hok, if_pos rfl])
      rw [hop]
      clear hop hok HTO HSO
      go_wp2_with (fail)
      have HT9 := Lib.hid (HT.out.fresh (Kept.refl _ _).drew)
      clear y0 y1 y2
      refine wp_region_held_drew (S := fun Wz => Box Wz w.heap.size 52 (rdV A b c a5 0) ∧ Box Wz (w.heap.size + 3) 30 (o.cells dA dc none 0)) (by kernel_rfl) ⟨HT9.out.rd, HT9.out.op⟩ fun hS => ?_
      generalize w9.drew = W9 at HT9 hS ⊢
      refine held_takeTo 175 (i := 1) (v := .agg (rdV A b c a5 0)) rfl rfl (by kernel_rfl) (by kernel_rfl) (by kernel_rfl) (fun _ _ _ h => h) rfl hS (fun Wz hW => by (have h0 : Wz.cell? ⟨w.heap.size, 0, none⟩ = some (.slice A b.length c) := (hW.1.cell 0).trans rfl; have h1 : Wz.cell? ⟨w.heap.size, 1, none⟩ = some (.int .i64 a5) := (hW.1.cell 1).trans rfl; have h2 : Wz.cell? ⟨w.heap.size, 2, none⟩ = some (.int .i64 0) := (hW.1.cell 2).trans rfl; go_simp; rfl)) ?_
      simp only [List.setIfInBounds_toArray, List.set_cons_zero, List.set_cons_succ]
      refine held_takeTo 174 (i := 0) (v := .agg (o.cells dA dc none 0)) rfl rfl (by kernel_rfl) (by kernel_rfl) (by kernel_rfl) (fun _ _ _ h => h) rfl hS (fun Wz hW => run_load_op _ _ rfl (w.heap.size + 3) rfl 30 (o.cells dA dc none 0) rfl hW.2) ?_
      simp only [List.setIfInBounds_toArray, List.set_cons_zero, List.set_cons_succ]
      refine held_one (i := 2) (by kernel_rfl) rfl fun K hK => ?_
      refine wpList_store_box rfl 30 (.tmp 2) (.tmp 174) rfl (w.heap.size + 1) (o.cells dA dc none 0) rfl rfl 30 (zeroC) HT9.out.r2 (size_op.trans rfl) rfl (Opr.cells_one _ _ _ _ _) ?_
      intro w10 HBw10 hkw10
      have HR10 := Lib.hid (HT9.out.rd.kept hkw10 (by omega))
      have HO10 := Lib.hid (HT9.out.op.kept hkw10 (by omega))
      have HR3 := Lib.hid (HT9.out.r3.kept hkw10 (by omega))
      go_wp2_with (fail)
      refine hK.out _ _ ⟨HR10.out, HO10.out⟩ fun _ => ?_
      clear hK K
      refine held_one (i := 3) (by kernel_rfl) rfl fun K hK => ?_
      refine wpList_store_box rfl 52 (.tmp 3) (.tmp 175) rfl (w.heap.size + 2) (rdV A b c a5 0) rfl rfl 52 (rdV none [] 0 0 0) HR3.out (size_RR.trans rfl) rfl (rdV_one _ _ _ _ _) ?_
      intro w11 HBw11 hkw11
      go_wp2_with (fail)
      refine hK.out _ _ ⟨HR10.out.kept hkw11 (by omega), HO10.out.kept hkw11 (by omega)⟩ fun _ => ?_
      clear hK K
      refine held_one (i := 4) (by kernel_rfl) rfl fun K hK => ?_
      go_wp2_with (fail)
      refine hK.out _ _ ⟨HR10.out.kept hkw11 (by omega), HO10.out.kept hkw11 (by omega)⟩ fun _ => ?_
      clear hK K
      refine wpAnyH_done (by kernel_rfl) ?_ _
      go_wp2_with (fail)
      exact RT8Post.ret HXA.out HSE.out (HBw10.out.kept hkw11 (by omega)) HBw11.out ha_a5 HL.out (own_base (hkw11.own (hkw10.own HT9.out.d (HT9.out.ownd 1 (by omega))) (HT9.out.ownd 2 (by omega))) (by omega)) (own_base (hkw11.own (hkw10.own HT9.out.g (HT9.out.owng 1 (by omega))) (HT9.out.owng 2 (by omega))) (by omega)) ((HT9.out.k.trans hkw10 fun k hk e => by omega).trans hkw11 fun k hk e => by omega) rfl rfl rfl rfl
  · as_aux_lemma =>
    rw [show intoV (o8 4 st sq deps) s4 = (0, o8 4 st sq deps, s4) from rfl] at HXR HSM
    have HL := Lib.hid (show b.drop a4 = s4.l from congrArg Rd.l HS.out)
    have HSE := Lib.hid (show s4.e = 0 from (congrArg Rd.e HS.out).symm)
    clear HS
    obtain ⟨o, ho⟩ : ∃ o : Opr, o8 4 st sq deps = o := ⟨_, rfl⟩
    have hkd : o.kind = 4 := by rw [← ho]; rfl
    have HKD := Lib.hid hkd
    clear hkd
    rw [ho] at HXR HSM HT2
    clear ho
    have HTO := Lib.hid (show X = if okOp o = true then (0, o, s4) else (10, zeroO, s4) from by rw [← HXX.out, takeO, HXR.out]; exact if_neg (fun h => h rfl))
    have HSO := Lib.hid (HSM.out rfl)
    clear HSM HXR HXX
    go_wp2_with (first | refine wpList_load_op rfl _ rfl (w.heap.size + 3) rfl _ cs HSZ.out HOP.out ?_ | (refine wpList_store_box rfl 52 (.tmp 1) (.tmp 58) rfl w.heap.size (rdV A b c a4 0) rfl rfl 52 (rdV A b c a3 0) HT2.out.rd (size_RR.trans rfl) rfl (rdV_one _ _ _ _ _) ?_; intro w2 HB' hk'; have HT' := Lib.hid (HT2.out.reader HB'.out hk'); have y0 : w2.cell? ⟨w.heap.size, 0, none⟩ = some (.slice A b.length c) := (by simpa [rdV] using HT'.out.rd.cell 0); have y1 : w2.cell? ⟨w.heap.size, 1, none⟩ = some (.int .i64 a4) := (by simpa [rdV] using HT'.out.rd.cell 1); have y2 : w2.cell? ⟨w.heap.size, 2, none⟩ = some (.int .i64 0) := (by simpa [rdV] using HT'.out.rd.cell 2); have x3 : w2.cell? ⟨w.heap.size + 3, 3, none⟩ = some (.int .i64 4) := (HT'.out.op.cell 3).trans (by rw [← HKD.out]; rfl); obtain ⟨cs, hcs⟩ : ∃ cs, o.cells dA dc none 0 = cs := ⟨_, rfl⟩; have HOP := Lib.hid HT'.out.op; have HSZ := Lib.hid (show cs.size = 11 by rw [← hcs]; rfl); rw [hcs] at HOP; have HCS := Lib.hid hcs; clear hcs; clear HB' hk' x0 f0 HT2))
    have HT := HT'
    clear HT' x3
    rw [← HCS.out]
    refine (RefCheck_any o dA none dc 0 w2 ⟨DotsAt.of_own HT.out.d, RunsAt.of_own HT.out.g, HSO.out.counts, HSO.out.dl, HSO.out.gl, HSO.out.tl⟩).mono ?_
    unfold IntPost
    rintro r w9 ⟨rfl, hk⟩
    have HT' := Lib.hid (HT.out.fresh hk)
    clear hk HT y0 y1 y2 HOP HSZ HCS
    have HT := HT'
    clear HT'
    have y0 : w9.cell? ⟨w.heap.size, 0, none⟩ = some (.slice A b.length c) := by simpa [rdV] using HT.out.rd.cell 0
    have y1 : w9.cell? ⟨w.heap.size, 1, none⟩ = some (.int .i64 a4) := by simpa [rdV] using HT.out.rd.cell 1
    have y2 : w9.cell? ⟨w.heap.size, 2, none⟩ = some (.int .i64 0) := by simpa [rdV] using HT.out.rd.cell 2
    cases hok : okOp o with
    | false =>
      as_aux_lemma =>
      have hop : opE o = 10 := by unfold opE; rw [hok]; rfl
      have HXA := Lib.hid (show X = (10, zeroO, s4) from by rw [HTO.out, hok, if_neg (by decide)])
      rw [hop]
      clear hop hok HTO HSO
      go_wp2_with (fail)
      have HT9 := Lib.hid (HT.out.fresh (Kept.refl _ _).drew)
      clear y0 y1 y2
      refine wp_region_held_drew (S := fun Wz => Box Wz w.heap.size 52 (rdV A b c a4 0)) (by kernel_rfl) HT9.out.rd fun hS => ?_
      generalize w9.drew = W9 at HT9 hS ⊢
      refine held_takeTo 173 (i := 1) (v := .agg (rdV A b c a4 0)) rfl rfl (by kernel_rfl) (by kernel_rfl) (by kernel_rfl) (fun _ _ _ h => h) rfl hS (fun Wz hW => by (have h0 : Wz.cell? ⟨w.heap.size, 0, none⟩ = some (.slice A b.length c) := (hW.cell 0).trans rfl; have h1 : Wz.cell? ⟨w.heap.size, 1, none⟩ = some (.int .i64 a4) := (hW.cell 1).trans rfl; have h2 : Wz.cell? ⟨w.heap.size, 2, none⟩ = some (.int .i64 0) := (hW.cell 2).trans rfl; go_simp; rfl)) ?_
      simp only [List.setIfInBounds_toArray, List.set_cons_zero, List.set_cons_succ]
      refine held_takeTo 172 (i := 0) (v := .agg zeroC) rfl rfl (by kernel_rfl) (by kernel_rfl) (by kernel_rfl) (fun _ _ _ h => h) rfl hS (fun Wz hW => by (go_simp; rfl)) ?_
      simp only [List.setIfInBounds_toArray, List.set_cons_zero, List.set_cons_succ]
      refine held_one (i := 2) (by kernel_rfl) rfl fun K hK => ?_
      refine wpList_store_box rfl 30 (.tmp 2) (.tmp 172) rfl (w.heap.size + 1) (zeroC) rfl rfl 30 (zeroC) HT9.out.r2 (size_op.trans rfl) rfl (by simp [zeroC, Value.oneCell']) ?_
      intro w10 HBw10 hkw10
      have HT10 := Lib.hid (HT9.out.zero HBw10.out hkw10)
      go_wp2_with (fail)
      refine hK.out _ _ HT10.out.rd fun _ => ?_
      clear hK K
      refine held_one (i := 3) (by kernel_rfl) rfl fun K hK => ?_
      refine wpList_store_box rfl 52 (.tmp 3) (.tmp 173) rfl (w.heap.size + 2) (rdV A b c a4 0) rfl rfl 52 (rdV none [] 0 0 0) HT10.out.r3 (size_RR.trans rfl) rfl (rdV_one _ _ _ _ _) ?_
      intro w11 HBw11 hkw11
      go_wp2_with (fail)
      refine hK.out _ _ (HT10.out.rd.kept hkw11 (by omega)) fun _ => ?_
      clear hK K
      refine held_one (i := 4) (by kernel_rfl) rfl fun K hK => ?_
      go_wp2_with (fail)
      refine hK.out _ _ (HT10.out.rd.kept hkw11 (by omega)) fun _ => ?_
      clear hK K
      refine wpAnyH_done (by kernel_rfl) ?_ _
      go_wp2_with (fail)
      exact RT8Post.ret (o := zeroO) (dA := none) (dc := 0) (gA := none) (gc := 0) HXA.out HSE.out (HT10.out.r2.kept hkw11 (by omega)) HBw11.out ha_a4 HL.out (World.ownsRow_nil _ _ _ _) (World.ownsRow_nil _ _ _ _) (HT10.out.k.trans hkw11 fun k hk e => by omega) rfl rfl rfl rfl
    | true =>
      as_aux_lemma =>
      have hop : opE o = 0 := by unfold opE; rw [hok]; rfl
      have HXA := Lib.hid (show X = (0, o, s4) from by rw [HTO.out, hok, if_pos rfl])
      rw [hop]
      clear hop hok HTO HSO
      go_wp2_with (fail)
      have HT9 := Lib.hid (HT.out.fresh (Kept.refl _ _).drew)
      clear y0 y1 y2
      refine wp_region_held_drew (S := fun Wz => Box Wz w.heap.size 52 (rdV A b c a4 0) ∧ Box Wz (w.heap.size + 3) 30 (o.cells dA dc none 0)) (by kernel_rfl) ⟨HT9.out.rd, HT9.out.op⟩ fun hS => ?_
      generalize w9.drew = W9 at HT9 hS ⊢
      refine held_takeTo 175 (i := 1) (v := .agg (rdV A b c a4 0)) rfl rfl (by kernel_rfl) (by kernel_rfl) (by kernel_rfl) (fun _ _ _ h => h) rfl hS (fun Wz hW => by (have h0 : Wz.cell? ⟨w.heap.size, 0, none⟩ = some (.slice A b.length c) := (hW.1.cell 0).trans rfl; have h1 : Wz.cell? ⟨w.heap.size, 1, none⟩ = some (.int .i64 a4) := (hW.1.cell 1).trans rfl; have h2 : Wz.cell? ⟨w.heap.size, 2, none⟩ = some (.int .i64 0) := (hW.1.cell 2).trans rfl; go_simp; rfl)) ?_
      simp only [List.setIfInBounds_toArray, List.set_cons_zero, List.set_cons_succ]
      refine held_takeTo 174 (i := 0) (v := .agg (o.cells dA dc none 0)) rfl rfl (by kernel_rfl) (by kernel_rfl) (by kernel_rfl) (fun _ _ _ h => h) rfl hS (fun Wz hW => run_load_op _ _ rfl (w.heap.size + 3) rfl 30 (o.cells dA dc none 0) rfl hW.2) ?_
      simp only [List.setIfInBounds_toArray, List.set_cons_zero, List.set_cons_succ]
      refine held_one (i := 2) (by kernel_rfl) rfl fun K hK => ?_
      refine wpList_store_box rfl 30 (.tmp 2) (.tmp 174) rfl (w.heap.size + 1) (o.cells dA dc none 0) rfl rfl 30 (zeroC) HT9.out.r2 (size_op.trans rfl) rfl (Opr.cells_one _ _ _ _ _) ?_
      intro w10 HBw10 hkw10
      have HR10 := Lib.hid (HT9.out.rd.kept hkw10 (by omega))
      have HO10 := Lib.hid (HT9.out.op.kept hkw10 (by omega))
      have HR3 := Lib.hid (HT9.out.r3.kept hkw10 (by omega))
      go_wp2_with (fail)
      refine hK.out _ _ ⟨HR10.out, HO10.out⟩ fun _ => ?_
      clear hK K
      refine held_one (i := 3) (by kernel_rfl) rfl fun K hK => ?_
      refine wpList_store_box rfl 52 (.tmp 3) (.tmp 175) rfl (w.heap.size + 2) (rdV A b c a4 0) rfl rfl 52 (rdV none [] 0 0 0) HR3.out (size_RR.trans rfl) rfl (rdV_one _ _ _ _ _) ?_
      intro w11 HBw11 hkw11
      go_wp2_with (fail)
      refine hK.out _ _ ⟨HR10.out.kept hkw11 (by omega), HO10.out.kept hkw11 (by omega)⟩ fun _ => ?_
      clear hK K
      refine held_one (i := 4) (by kernel_rfl) rfl fun K hK => ?_
      go_wp2_with (fail)
      refine hK.out _ _ ⟨HR10.out.kept hkw11 (by omega), HO10.out.kept hkw11 (by omega)⟩ fun _ => ?_
      clear hK K
      refine wpAnyH_done (by kernel_rfl) ?_ _
      go_wp2_with (fail)
      exact RT8Post.ret HXA.out HSE.out (HBw10.out.kept hkw11 (by omega)) HBw11.out ha_a4 HL.out (own_base (hkw11.own (hkw10.own HT9.out.d (HT9.out.ownd 1 (by omega))) (HT9.out.ownd 2 (by omega))) (by omega)) (own_base (hkw11.own (hkw10.own HT9.out.g (HT9.out.owng 1 (by omega))) (HT9.out.owng 2 (by omega))) (by omega)) ((HT9.out.k.trans hkw10 fun k hk e => by omega).trans hkw11 fun k hk e => by omega) rfl rfl rfl rfl
end Go.Proofs.Ytnlklhlnnoihiaa

namespace Go.Proofs.Ytnlklhlnnoihiaa
open Go Go.RowKit

theorem takeR_e (s : Rd) : (takeR s).1 = 0 → (takeR s).2.2.e = 0 := by
  unfold takeR
  split
  · exact id
  split
  · intro h; exact absurd (show (10 : Int) = 0 from h) (by decide)
  split
  · exact id
  split
  · exact takeV_e _
  · rename_i h4
    have h5 := takeV_e s.nx.nx.nx (by simpa using h4)
    unfold intoV
    split
    · exact id
    split
    · show (intoR _).1 = 0 → (intoR _).2.2.e = 0
      unfold intoR
      split
      · exact id
      split
      · intro h; exact absurd (show (10 : Int) = 0 from h) (by decide)
      · exact id
    split
    · exact id
    · intro _; exact h5
theorem takeO_e (s : Rd) : (takeO s).1 = 0 → (takeO s).2.2.e = 0 := by
  unfold takeO
  split
  · rename_i h; intro h'; exact absurd h' h
  split
  · exact takeR_e s
  · intro h; exact absurd (show (10 : Int) = 0 from h) (by decide)
theorem noKind_box {w : World} {g : Nat} {t T : TypeId} {cs : Array Value} (h : Box w g t cs) (hne : T ≠ t) : NoKind w (fun k => k = g) T := fun k hk cs' c hc => by
  subst hk
  rw [show w.heap[k]? = some (.cells cs t (0, 0)) from h] at hc
  injection hc with e1
  injection e1 with _ e2
  exact hne e2.symm
def RDec8Post (w : World) (x : Int × Opr) (r : Ending) (w' : World) : Prop := ∃ y : Lop, r = .returned (.tuple #[.agg y.c, .int .i64 x.1]) ∧ y.o = x.2 ∧ y.At w' ∧ Kept (fun _ => False) w w'
theorem rdec8_ret {R : Ending → World → Prop} {w : World} {a : Act} {N : Nat} {cs : Array Value} {e : Int} (hb : Box w N 30 cs) (hs : cs.size = 11) (h2 : a.tmps.getD 2 undef = .pointer (some ⟨N, 0, none⟩)) (h3 : a.tmps.getD 3 undef = .int .i64 e) (hd : a.defers = [])
    (hR : R (.returned (.tuple #[.agg cs, .int .i64 e])) w) : bodyPost Try.prog Try.f21 R Exit.ret a w :=
  bodyPost_ret (results_cell_slot (show Try.f21.results = #[.cell 2 30, .tmp 3] by kernel_rfl) _ _ _ _ N h2 (load_OP hb hs) h3) hd hR
set_option maxRecDepth 100000 in
set_option maxHeartbeats 3200000 in
theorem RDecode8_any (A : Option Addr) (b : List Int) (c : Nat) (w : World) (hb : BytesAt w A b) (hby : isByte b) (hlen : b.length ≤ 1000000) (hc : b.length ≤ c ∧ c ≤ maxLen) (hA : b ≠ [] → ∀ a, A = some a → a.block < w.heap.size)
    (hsm : (takeR ⟨b, 0⟩).1 = 0 → (takeR ⟨b, 0⟩).2.1.Small) :
    Calls Try.prog 21 #[.slice A b.length c] w (RDec8Post w (decO b)) := by
  have hk0 : Kept (fun _ => False) w (w.alloc (.cells zeroC 30)) := (Kept.refl _ _).alloc _
  have HK := Lib.hid hk0
  have HB := Lib.hid (Box.new w 30 zeroC)
  have HY := Lib.hid (hb.fresh hk0)
  have HA := Lib.hid hA
  have HBY := Lib.hid hby
  have HCC := Lib.hid hc
  have HSM := Lib.hid hsm
  have HD1 := Lib.hid (show (takeO ⟨b, 0⟩).1 ≠ 0 → decO b = ((takeO ⟨b, 0⟩).1, zeroO) from fun h => if_pos h)
  have HD2 := Lib.hid (show (takeO ⟨b, 0⟩).1 = 0 → 0 < (takeO ⟨b, 0⟩).2.2.l.length → decO b = (6, zeroO) from fun h h' => by unfold decO; rw [if_neg (fun e => e h), if_pos h'])
  have HD3 := Lib.hid (show (takeO ⟨b, 0⟩).1 = 0 → ¬ 0 < (takeO ⟨b, 0⟩).2.2.l.length → decO b = (0, (takeO ⟨b, 0⟩).2.1) from fun h h' => by unfold decO; rw [if_neg (fun e => e h), if_neg h'])
  have HE0 := Lib.hid (takeO_e ⟨b, 0⟩)
  obtain ⟨D, hD⟩ : ∃ D, decO b = D := ⟨_, rfl⟩
  rw [hD] at HD1 HD2 HD3 ⊢
  clear hk0 hb hA hby hc hsm hD
  go_enter Try.func21, Try.ntmps21
  go_upto_region 1 with (fail)
  have hzz : (w.alloc (.cells #[.int .i64 0, .int .i64 0, .slice none 0 0, .int .i64 0, .int .i64 0, .int .i64 0, .int .i64 0, .int .i64 0, .string ⟨#[]⟩, .slice none 0 0, .int .i64 0] 30)) = w.alloc (.cells zeroC 30) := rfl
  rw [hzz]
  clear hzz
  generalize w.alloc (.cells zeroC 30) = w0 at HK HB HY ⊢
  go_wp2_with (fail)
  refine (RRead_at A b c w0).mono ?_
  rintro r w1 ⟨rfl, hk⟩
  have HB1 := Lib.hid (HB.out.kept hk id)
  have HK1 := Lib.hid (HK.out.trans hk fun _ _ e => e)
  have HY1 := Lib.hid (HY.out.fresh hk)
  clear hk HB HK HY
  go_wp2_with (fail)
  refine (RTake8_any A b c w1 HY1.out HBY.out hlen HCC.out (fun h a e => Nat.lt_of_lt_of_le (HA.out h a e) HK1.out.size) HSM.out).mono ?_
  generalize takeO ⟨b, 0⟩ = X at HD1 HD2 HD3 HE0 ⊢
  rintro r w2 ⟨y, a, rfl, ho, ha, hl, hy, hk⟩
  obtain ⟨e, o, s'⟩ := X
  simp only at HD1 HD2 HD3 HE0 ho hl ⊢
  subst ho
  have HL := Lib.hid hl
  have HO := Lib.hid (hy.mono HK1.out.size)
  have HB2 := Lib.hid (HB1.out.kept hk id)
  have HK2 := Lib.hid (HK1.out.trans hk fun _ _ e => e)
  obtain ⟨cs, hcs⟩ : ∃ cs, y.c = cs := ⟨_, rfl⟩
  have HCS := Lib.hid hcs
  have HSZ := Lib.hid (show cs.size = 11 by rw [← hcs]; rfl)
  have HON2 := Lib.hid (show cs.all (·.oneCell') = true by rw [← hcs]; exact Opr.cells_one _ _ _ _ _)
  rw [hcs]
  clear hl hy hk HB1 HK1 HY1 hcs
  have hka : Kept (fun _ => False) w2 ((w2.alloc (.cells zeroC 30)).alloc (.cells (rdV none [] 0 0 0) 52)) := ((Kept.refl _ _).alloc _).alloc _
  have HBN := Lib.hid ((Box.new w2 30 zeroC).alloc (.cells (rdV none [] 0 0 0) 52))
  have HBR := Lib.hid ((Box.new (w2.alloc (.cells zeroC 30)) 52 (rdV none [] 0 0 0)).at_eq (show _ = w2.heap.size + 1 by simp))
  have HKA := Lib.hid hka
  have hN2 : w.heap.size < w2.heap.size := HB2.out.lt
  clear hka
  go_wp2_with (first | (refine wpList_store_box rfl 30 (.tmp 4) _ rfl w2.heap.size cs rfl rfl 30 zeroC HBN.out (by rw [HSZ.out]; exact size_op) HSZ.out.symm HON2.out ?_; intro w4 HB4 hk4) | (refine wpList_store_box rfl 52 (.tmp 5) _ rfl (w2.heap.size + 1) (rdV A b c a s'.e) rfl rfl 52 (rdV none [] 0 0 0) (HBR.out.kept hk4 (by omega)) (size_RR.trans rfl) rfl (rdV_one _ _ _ _ _) ?_; intro w5 HB5 hk5; refine Hid.out ?_))
  refine Lib.hid ?_
  have hkf : Kept (fun _ => False) w2 w5 := (HKA.out.trans hk4 fun k hk e => by omega).trans hk5 fun k hk e => by omega
  have HB6 := Lib.hid (HB2.out.kept hkf id)
  have HK6 := Lib.hid (HK2.out.trans hkf fun _ _ e => e)
  have HO6 := Lib.hid (HO.out.fresh hkf)
  have HM6 := Lib.hid (HB4.out.kept hk5 (by omega))
  clear hkf hk4 hk5 HB2 HK2 HO HKA HBN HBR HB4
  by_cases he : e ≠ 0
  · have hne : (e != 0) = true := bne_iff_ne.2 he
    have HX := Lib.hid (HD1.out he)
    go_wp2_with (refine wpList_store_box rfl 30 (.tmp 2) _ rfl w.heap.size zeroC rfl rfl 30 zeroC HB6.out (size_op.trans rfl) rfl (by simp [zeroC, Value.oneCell']) ?_; intro w7 HB7 hk7; refine Hid.out ?_)
    refine Lib.hid ?_
    have HK7 := Lib.hid (HK6.out.trans hk7 fun k hk e => by omega)
    clear hk7
    go_wp2_with (fail)
    refine rdec8_ret HB7.out rfl rfl rfl rfl ?_
    rw [HX.out]
    exact ⟨⟨zeroO, none, 0, none, 0⟩, rfl, rfl, ⟨DotsAt.nil, RunsAt.nil⟩, HK7.out⟩
  · obtain rfl : e = 0 := by omega
    have hse : s'.e = 0 := HE0.out rfl
    rw [hse] at HB5
    clear hse
    have z0 : w5.cell? ⟨w2.heap.size + 1, 0, none⟩ = some (.slice A b.length c) := (HB5.out.cell 0).trans rfl
    have z1 : w5.cell? ⟨w2.heap.size + 1, 1, none⟩ = some (.int .i64 a) := (HB5.out.cell 1).trans rfl
    have z2 : w5.cell? ⟨w2.heap.size + 1, 2, none⟩ = some (.int .i64 0) := (HB5.out.cell 2).trans rfl
    go_wp2_with (fail)
    refine (REnd_any A b c a 0 w5 ha hlen).mono ?_
    rw [if_neg (fun h => h rfl), HL.out]
    rintro r w6 ⟨rfl, hk⟩
    have HB8 := Lib.hid (HB6.out.kept hk id)
    have HM8 := Lib.hid (HM6.out.kept hk id)
    have HK8 := Lib.hid (HK6.out.trans hk fun _ _ e => e)
    have HO8 := Lib.hid (HO6.out.fresh hk)
    clear hk HB6 HM6 HK6 HO6 HB5 z0 z1 z2
    by_cases hl : 0 < s'.l.length
    · have HX := Lib.hid (HD2.out trivial hl)
      rw [if_pos hl]
      clear hl
      go_wp2_with (refine wpList_store_box rfl 30 (.tmp 2) _ rfl w.heap.size zeroC rfl rfl 30 zeroC HB8.out (size_op.trans rfl) rfl (by simp [zeroC, Value.oneCell']) ?_; intro w7 HB7 hk7; refine Hid.out ?_)
      refine Lib.hid ?_
      have HK7 := Lib.hid (HK8.out.trans hk7 fun k hk e => by omega)
      clear hk7
      go_wp2_with (fail)
      refine rdec8_ret HB7.out rfl rfl rfl rfl ?_
      rw [HX.out]
      exact ⟨⟨zeroO, none, 0, none, 0⟩, rfl, rfl, ⟨DotsAt.nil, RunsAt.nil⟩, HK7.out⟩
    · have HX := Lib.hid (HD3.out trivial hl)
      rw [if_neg hl]
      clear hl
      go_wp2_with (first | refine wpList_load_op rfl _ rfl w2.heap.size rfl _ cs HSZ.out HM8.out ?_ | (refine wpList_store_box rfl 30 (.tmp 2) _ rfl w.heap.size cs rfl rfl 30 zeroC HB8.out (by rw [HSZ.out]; exact size_op) HSZ.out.symm HON2.out ?_; intro w7 HB7 hk7; refine Hid.out ?_))
      refine Lib.hid ?_
      have HK7 := Lib.hid (HK8.out.trans hk7 fun k hk e => by omega)
      have HO7 := Lib.hid (show y.At w7 from (HO8.out.kept hk7 (noKind_box HB8.out (by decide)) (noKind_box HB8.out (by decide))).at)
      clear hk7
      go_wp2_with (fail)
      refine rdec8_ret HB7.out HSZ.out rfl rfl rfl ?_
      rw [HX.out]
      exact ⟨y, by rw [HCS.out], rfl, HO7.out, HK7.out⟩
end Go.Proofs.Ytnlklhlnnoihiaa
