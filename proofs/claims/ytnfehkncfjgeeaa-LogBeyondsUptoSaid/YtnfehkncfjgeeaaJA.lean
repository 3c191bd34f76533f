/- Operations in memory: each with its two lists, one operation behind the other in a row. No condition. · The walks of slices.Clone at Dots and at runs, and of oplog.clone: an operation in lists of its own. Conditions: the lists lie in memory; nothing is longer than a million. · The walk of the iterator that oplog.Log.Beyond answers, called with a function of the program. Conditions: the operations lie in memory; the function's contract, as told. · A log in memory; the walk of Beyond. Conditions: the log and the vector lie in memory; nothing is longer than a million. · Regions that draw their order, by hand: an operation that reads is taken first, one that may come up next is walked as a list of one. No condition. · A row of operations that is written in place: cut, copied into, cleared. No condition beyond the sizes. -/
import Derived.Test.YtnfehkncfjgeeaaOPlain
import Derived.Test.YtnfehkncfjgeeaaRChk
import Derived.Test.YtnfehkncfjgeeaaVLat
import Derived.Test.YtnfehkncfjgeeaaKit
import Derived.Deep.MidRow
import Derived.Deep.DeepAppendRoom
import Derived.Lib.OwnKind
import Derived.Laws.OwnMore
import Derived.Great.Walk
import Derived.Shelf.Abstract
import Derived.Test.YtnfehkncfjgeeaaVGet
import Derived.Test.YtnfehkncfjgeeaaBase
import Derived.Deep.RegionHeld3
import Derived.Laws.CopyRow
import Derived.Laws.CopyOwn
import Derived.Lib.SliceRun
namespace Go.Proofs.Ytnfehkncfjgeeaa
open Go Go.RowKit

theorem runs_len (l : List Rn) : (runs l).length = l.length * 3 := by
  induction l with
  | nil => rfl
  | cons d l ih => simp only [runs, List.flatMap_cons, List.length_append, List.length_cons, List.length_nil] at ih ⊢; omega
theorem runs_get (l : List Rn) (k : Nat) (hk : k < l.length) : (runs l)[k * 3]? = some (.int .i64 l[k].id.time) ∧ (runs l)[k * 3 + 1]? = some (.int .i64 l[k].id.site) ∧ (runs l)[k * 3 + 2]? = some (.int .i64 l[k].count) := by
  induction l generalizing k with
  | nil => simp at hk
  | cons d l ih =>
    cases k with
    | zero => simp [runs]
    | succ k =>
      have := ih k (by simpa using hk)
      have e1 : (k + 1) * 3 = k * 3 + 3 := by omega
      rw [e1]
      simpa [runs] using this
theorem runs_one (l : List Rn) : ∀ u ∈ runs l, u.oneCell' = true := by
  intro u hu
  simp only [runs, List.mem_flatMap] at hu
  obtain ⟨d, _, hd⟩ := hu
  simp at hd
  rcases hd with rfl | rfl | rfl <;> rfl
theorem runs_app (l : List Rn) (d : Rn) : runs (l ++ [d]) = runs l ++ [.int .i64 d.id.time, .int .i64 d.id.site, .int .i64 d.count] := by simp [runs]
theorem RunsAt.nil {w : World} {A : Option Addr} : RunsAt w A [] := fun k h => absurd h (by simp)
theorem RunsAt.of_own {w : World} {A : Option Addr} {l : List Rn} {base : Nat} {e : TypeId} {n c : Nat} (h : w.ownsRow base e 3 (.slice A n c) n (runs l)) : RunsAt w A l := fun k hlt => by
  have hz := h.1
  rw [runs_len] at hz
  rcases h.2 with ⟨_, h0⟩ | ⟨g, cap, cur, hv, _⟩
  · omega
  · injection hv with hA
    subst hA
    obtain ⟨g0, g1, g2⟩ := runs_get l k hlt
    refine ⟨_, rfl, h.cells (g := g) rfl _ _ g0, ?_, ?_⟩
    · have := h.cells (g := g) rfl _ _ g1
      rw [add_none] at this ⊢
      exact this
    · have := h.cells (g := g) rfl _ _ g2
      rw [add_none] at this ⊢
      exact this
theorem add_off (ad : Addr) (k j : Nat) (h : 0 < j) : (⟨(ad.add k).block, (ad.add k).off + j, none⟩ : Addr) = ad.add (k + j) := by
  unfold Addr.add
  rw [if_neg (show ¬ k + j = 0 by omega)]
  split
  · simp_all
  · simp [Nat.add_assoc]
theorem DotsAt.cells {w : World} {A : Option Addr} {l : List Dt} (h : DotsAt w A l) : ∀ j u, (dots l)[j]? = some u → ∃ ad, A = some ad ∧ w.cell? (ad.add j) = some u := by
  intro j u hj
  have hlt : j < (dots l).length := (List.getElem?_eq_some_iff.1 hj).1
  rw [dots_len] at hlt
  obtain ⟨ad, rfl, x0, x1⟩ := h (j / 2) (by omega)
  obtain ⟨g0, g1⟩ := dots_get l (j / 2) (by omega)
  refine ⟨ad, rfl, ?_⟩
  rw [add_off ad _ 1 (by omega)] at x1
  rcases Nat.mod_two_eq_zero_or_one j with h2 | h2
  · have e : j / 2 * 2 = j := by omega
    rw [e] at x0 g0
    rw [x0, ← g0, hj]
  · have e : j / 2 * 2 + 1 = j := by omega
    rw [e] at g1 x1
    rw [x1, ← g1, hj]
theorem RunsAt.cells {w : World} {A : Option Addr} {l : List Rn} (h : RunsAt w A l) : ∀ j u, (runs l)[j]? = some u → ∃ ad, A = some ad ∧ w.cell? (ad.add j) = some u := by
  intro j u hj
  have hlt : j < (runs l).length := (List.getElem?_eq_some_iff.1 hj).1
  rw [runs_len] at hlt
  obtain ⟨ad, rfl, x0, x1, x2⟩ := h (j / 3) (by omega)
  obtain ⟨g0, g1, g2⟩ := runs_get l (j / 3) (by omega)
  refine ⟨ad, rfl, ?_⟩
  rw [add_off ad _ 1 (by omega)] at x1
  rw [add_off ad _ 2 (by omega)] at x2
  have h3 : j % 3 = 0 ∨ j % 3 = 1 ∨ j % 3 = 2 := by omega
  rcases h3 with h2 | h2 | h2
  · have e : j / 3 * 3 = j := by omega
    rw [e] at x0 g0
    rw [x0, ← g0, hj]
  · have e : j / 3 * 3 + 1 = j := by omega
    rw [e] at g1 x1
    rw [x1, ← g1, hj]
  · have e : j / 3 * 3 + 2 = j := by omega
    rw [e] at g2 x2
    rw [x2, ← g2, hj]

/-- A row stays where a step turns no block of its type. -/
def NoKind (w : World) (S : Nat → Prop) (e : TypeId) : Prop := ∀ k, S k → ∀ cs c, w.heap[k]? ≠ some (.cells cs e c)
theorem Kept.own_kind {S : Nat → Prop} {w w' : World} {base n size : Nat} {e : TypeId} {v : Value} {xs : List Value} (hk : Kept S w w') (hS : NoKind w S e) (h : w.ownsRow base e size v n xs) : w'.ownsRow base e size v n xs :=
  hk.own h fun k hk hs => by
    rcases h.2 with ⟨rfl, _⟩ | ⟨g, cap, cur, rfl, _, hg, _⟩
    · cases hk
    · have e1 : g = k := by simpa [Value.ownBlock] using hk
      subst e1
      exact hS _ hs _ _ hg
theorem own_other {w : World} {b b' s s' n n' : Nat} {e e' : TypeId} {v v' : Value} {xs xs' : List Value} (h : w.ownsRow b e s v n xs) (h' : w.ownsRow b' e' s' v' n' xs') (hne : e ≠ e') : ∀ k, v.ownBlock = some k → v'.ownBlock ≠ some k := by
  intro k hk hk'
  rcases h.2 with ⟨rfl, _⟩ | ⟨g, cap, cur, rfl, _, hg, _⟩
  · cases hk
  · rcases h'.2 with ⟨rfl, _⟩ | ⟨g', cap', cur', rfl, _, hg', _⟩
    · cases hk'
    · simp only [Value.ownBlock, Option.some.injEq] at hk hk'
      subst hk hk'
      rw [hg] at hg'
      injection hg' with e1
      injection e1 with _ e2
      exact hne e2
theorem own_is {w : World} {b s n : Nat} {e : TypeId} {v : Value} {xs : List Value} (h : w.ownsRow b e s v n xs) {k : Nat} (hk : v.ownBlock = some k) : ∃ cs c, w.heap[k]? = some (.cells cs e c) := by
  rcases h.2 with ⟨rfl, _⟩ | ⟨g, cap, cur, rfl, _, hg, _⟩
  · cases hk
  · simp only [Value.ownBlock, Option.some.injEq] at hk
    subst hk
    exact ⟨_, _, hg⟩
theorem NoKind.none {w : World} {e : TypeId} : NoKind w (fun _ => False) e := fun _ h => h.elim

/-- An operation and where its lists lie. -/
structure Lop where
  o : Opr
  dA : Option Addr
  dc : Nat
  gA : Option Addr
  gc : Nat
def Lop.c (x : Lop) : Array Value := x.o.cells x.dA x.dc x.gA x.gc
def Lop.dV (x : Lop) : Value := .slice x.dA x.o.deps.length x.dc
def Lop.gV (x : Lop) : Value := .slice x.gA x.o.gone.length x.gc
theorem Lop.c_size (x : Lop) : x.c.size = 11 := rfl
theorem Opr.cells_one (o : Opr) (dA : Option Addr) (dc : Nat) (gA : Option Addr) (gc : Nat) : (o.cells dA dc gA gc).all (·.oneCell') = true := by simp [Opr.cells, Value.oneCell']
theorem Lop.c_one (x : Lop) : x.c.toList.all (·.oneCell') = true := rfl
def lops (l : List Lop) : List Value := l.flatMap fun x => x.c.toList
theorem lops_len (l : List Lop) : (lops l).length = l.length * 11 := by
  induction l with
  | nil => rfl
  | cons x l ih =>
    have e : lops (x :: l) = x.c.toList ++ lops l := rfl
    rw [e, List.length_append, ih, Array.length_toList, Lop.c_size, List.length_cons]
    omega
theorem lops_app (l : List Lop) (x : Lop) : lops (l ++ [x]) = lops l ++ x.c.toList := by simp [lops]
theorem lops_get (l : List Lop) (k : Nat) (hk : k < l.length) (j : Nat) (hj : j < 11) : (lops l)[k * 11 + j]? = l[k].c.toList[j]? := by
  induction l generalizing k with
  | nil => simp at hk
  | cons x l ih =>
    have e : lops (x :: l) = x.c.toList ++ lops l := rfl
    have hx : x.c.toList.length = 11 := by rw [Array.length_toList, Lop.c_size]
    rw [e]
    cases k with
    | zero => rw [List.getElem?_append_left (by omega)]; simp
    | succ k =>
      rw [List.getElem?_append_right (by omega), hx, show (k + 1) * 11 + j - 11 = k * 11 + j by omega, ih k (by simpa using hk)]
      rfl
theorem lops_one (l : List Lop) : ∀ u ∈ lops l, u.oneCell' = true := by
  intro u hu
  obtain ⟨x, _, hx⟩ := List.mem_flatMap.1 hu
  exact List.all_eq_true.1 x.c_one u hx
/-- Its lists lie there, and nothing is longer than a million. -/
structure Lop.At (w : World) (x : Lop) : Prop where
  d : DotsAt w x.dA x.o.deps
  g : RunsAt w x.gA x.o.gone
/-- Its lists are its own. -/
structure Lop.Own (w : World) (base : Nat) (x : Lop) : Prop where
  d : w.ownsRow base 28 2 x.dV x.o.deps.length (dots x.o.deps)
  g : w.ownsRow base 87 3 x.gV x.o.gone.length (runs x.o.gone)
/-- How much there is of an operation. -/
structure Opr.Small (o : Opr) : Prop where
  counts : ∀ r ∈ o.gone, inI r.count
  dl : o.deps.length ≤ 1000000
  gl : o.gone.length ≤ 1000000
  tl : o.text.size ≤ 1000000
section
variable {w w' : World} {x : Lop} {S : Nat → Prop} {base : Nat}
theorem Lop.Own.at (h : x.Own w base) : x.At w := ⟨DotsAt.of_own h.d, RunsAt.of_own h.g⟩
theorem Lop.At.fresh (h : x.At w) (hk : Kept (fun _ => False) w w') : x.At w' := ⟨h.d.fresh hk, h.g.fresh hk⟩
theorem Lop.At.kept (h : x.At w) (hk : Kept S w w') (hd : ∀ a, x.dA = some a → ¬ S a.block) (hg : ∀ a, x.gA = some a → ¬ S a.block) : x.At w' := ⟨h.d.kept hk hd, h.g.kept hk fun _ => hg⟩
theorem Lop.Own.fresh (h : x.Own w base) (hk : Kept (fun _ => False) w w') : x.Own w' base := ⟨hk.own h.d fun _ _ => id, hk.own h.g fun _ _ => id⟩
theorem Lop.Own.kept (h : x.Own w base) (hk : Kept S w w') (hd : NoKind w S 28) (hg : NoKind w S 87) : x.Own w' base := ⟨hk.own_kind hd h.d, hk.own_kind hg h.g⟩
theorem Lop.Own.mono {b : Nat} (h : x.Own w base) (hb : b ≤ base) : x.Own w b := ⟨own_base h.d hb, own_base h.g hb⟩
end
theorem info_op : (Try.prog.info? 45).map (fun i => (i.zero, i.size, i.bytes)) = some (some (.agg #[.int .i64 0, .int .i64 0, .slice none 0 0, .int .i64 0, .int .i64 0, .int .i64 0, .int .i64 0, .int .i64 0, .string ⟨#[]⟩, .slice none 0 0, .int .i64 0]), 11, 128) := by kernel_rfl
theorem size_op : (Try.prog.info? 45).map (·.size) = some 11 := by kernel_rfl
theorem eltOps : Elt Try.prog 33 45 11 128 := .of Try.underlying33 info_op rfl (by decide) (by decide)
theorem eltDots : Elt Try.prog 23 28 2 16 := .of Try.underlying23 info_dot rfl (by decide) (by decide)
theorem eltRuns : Elt Try.prog 43 87 3 24 := .of Try.underlying43 info_run rfl (by decide) (by decide)
/-- The operation at place k of a row lies there whole. -/
theorem range_of_row {w : World} {base g n c : Nat} {l : List Lop} (h : w.ownsRow base 45 11 (.slice (some ⟨g, 0, none⟩) n c) n (lops l)) (k : Nat) (hk : k < l.length) : w.rangeAt g (k * 11) l[k].c.toList := by
  intro j v hj
  have hj' : j < 11 := by
    have := (List.getElem?_eq_some_iff.1 hj).1
    rwa [Array.length_toList, Lop.c_size] at this
  have := h.cells (g := g) rfl (k * 11 + j) v (by rw [lops_get l k hk j hj']; exact hj)
  rwa [add_none] at this
section
variable {w : World} {ops : Array Oper} {rest : List Oper} {o : Oper} {a : Act} {Q : Exit → Act → World → Prop}
theorem und_op : ∃ d, Try.prog.underlying 45 = some d ∧ d.isRow = true := ⟨.struct (Try.prog.fieldsOf 45), by kernel_rfl, rfl⟩
theorem wpList_load_lop (hgd : o.guard = none) (x : Operand) (ho : o.op = .load 45 x) (g k : Nat) (hx : a.eval x = .pointer (some ⟨g, k * 11, none⟩)) {base n c : Nat} (xs : List Lop)
    (hr : w.ownsRow base 45 11 (.slice (some ⟨g, 0, none⟩) n c) n (lops xs)) (hk : k < xs.length) (cs : Array Value) (hcs : xs[k].c = cs)
    (h : wpList Try.prog ops Q rest (a.put o.dst (.agg cs)) w) : wpList Try.prog ops Q (o :: rest) a w := by
  obtain ⟨d, hu, hd⟩ := und_op
  refine wpList_load_mid hgd _ x ho g (k * 11) hx xs[k].c.toList d (range_of_row hr k hk) hu hd (by rw [Array.length_toList]; exact size_op) ?_
  rw [Array.toArray_toList, hcs]
  exact h
theorem run_load_op (op : Oper) (x : Operand) (ho : op.op = .load 45 x) (g : Nat) (hx : a.eval x = .pointer (some ⟨g, 0, none⟩)) (t : TypeId) (cs : Array Value) (hs : cs.size = 11) (hg : Box w g t cs) :
    (execOp a.eval op).run Try.prog w = .ok (.value (.agg cs)) w := by
  obtain ⟨d, hu, hd⟩ := und_op
  have hc : w.rangeAt g 0 cs.toList := fun j v hj => by rw [Nat.zero_add, hg.cell j]; simpa using hj
  have := run_loadVar_mid (P := Try.prog) w g 0 45 cs.toList d hc hu hd (by rw [Array.length_toList, hs]; exact size_op)
  rw [Array.toArray_toList] at this
  unfold execOp
  simp only [ho, hx, Instr.loadAt, Instr.sureAddr, Sem.run_bind, Sem.run_pure, Result.andThen_ok, this]
theorem wpList_load_op (hgd : o.guard = none) (x : Operand) (ho : o.op = .load 45 x) (g : Nat) (hx : a.eval x = .pointer (some ⟨g, 0, none⟩)) (t : TypeId) (cs : Array Value) (hs : cs.size = 11) (hg : Box w g t cs)
    (h : wpList Try.prog ops Q rest (a.put o.dst (.agg cs)) w) : wpList Try.prog ops Q (o :: rest) a w := by
  obtain ⟨d, hu, hd⟩ := und_op
  exact wpList_load_box hgd _ x ho g hx t cs d hg hu (by cases d <;> simp_all) (by rw [hs]; exact size_op) h
end
def opZ : Array Value := #[.int .i64 0, .int .i64 0, .slice none 0 0, .int .i64 0, .int .i64 0, .int .i64 0, .int .i64 0, .int .i64 0, .string ⟨#[]⟩, .slice none 0 0, .int .i64 0]

theorem built_op (o : Opr) (dA : Option Addr) (dc : Nat) (gA : Option Addr) (gc : Nat) : Try.prog.builtSlice 45 1 [(0, .agg (o.cells dA dc gA gc))] = some (o.cells dA dc gA gc) := by
  obtain ⟨i, z, hi, hz, hsz, hby, hzs⟩ := eltOps.info
  obtain ⟨i', hi', hz', _⟩ := info_parts info_op
  obtain rfl : i = i' := by rw [hi] at hi'; injection hi'
  obtain rfl := Option.some.inj (hz.symm.trans hz')
  unfold Program.builtSlice
  simp only [hi, hz, hsz]
  rw [if_neg (by decide)]
  kernel_rfl
theorem wpList_one_op {ops : Array Oper} {rest : List Oper} {o : Oper} {a : Act} {w : World} {Q : Exit → Act → World → Prop} (hg : o.guard = none) (x0 : Operand)
    (ho : o.op = .buildSlice 33 1 #[(0, x0)]) (x : Lop) (cs : Array Value) (hcs : x.c = cs) (h0 : a.eval x0 = .agg cs)
    (h : wpList Try.prog ops Q rest (a.put o.dst (.slice (some ⟨w.heap.size, 0, none⟩) 1 1)) (w.alloc (.cells cs 45))) :
    wpList Try.prog ops Q (o :: rest) a w := by
  refine Great.wpList_buildSliceTo hg _ 45 1 _ ho _ rfl _ rfl Try.underlying33 _ ?_ h
  have e : (#[(0, x0)].map fun ((i, x) : Nat × Operand) => (i, a.eval x)).toList = [(0, a.eval x0)] := by simp
  rw [e, h0, ← hcs]
  exact built_op ..
end Go.Proofs.Ytnfehkncfjgeeaa

namespace Go.Proofs.Ytnfehkncfjgeeaa
open Go Go.RowKit

def FreshRuns (w : World) (l : List Rn) (e : Ending) (w' : World) : Prop :=
  ∃ A c, e = .returned (.slice A l.length c) ∧ w'.ownsRow w.heap.size 87 3 (.slice A l.length c) l.length (runs l) ∧ Kept (fun _ => False) w w'

set_option maxRecDepth 100000 in
set_option maxHeartbeats 1600000 in
theorem CloneD_any (A : Option Addr) (l : List Dt) (c : Nat) (w : World) (hl : DotsAt w A l) (hlen : l.length ≤ 1000000) :
    Calls Try.prog 40 #[.slice A l.length c] w (FreshDots w l) := by
  have hq := fun W a n c n' c' => Lib.run_eql_slice_nil (P := Try.prog) W 23 28 a n c n' c' Try.underlying23
  have hn : A = none → l = [] := fun h => by
    subst h
    rcases Nat.eq_zero_or_pos l.length with h0 | h0
    · exact List.eq_nil_of_length_eq_zero h0
    · obtain ⟨_, e, _⟩ := hl 0 h0
      cases e
  cases A with
  | none =>
    obtain rfl := hn rfl
    clear hl hn
    go_enter Try.func40, Try.ntmps40
    go_wp2
    go_ret
    exact ⟨none, 0, rfl, World.ownsRow_nil _ _ _ _, Kept.refl _ _⟩
  | some ad =>
    have HL := Lib.hid hl
    have HLC := Lib.hid hl.cells
    have HE := Lib.hid (World.ownsRow_made (e := 28) (size := 2) (base := w.heap.size) w #[] 0 (Nat.le_refl _) (Nat.zero_le _) rfl)
    have HK := Lib.hid ((Kept.refl (fun _ => False) w).alloc (.cells #[] 28))
    clear hl hn
    go_enter Try.func40, Try.ntmps40
    go_wp2_with (at_builtin; refine wpList_append_kit eltDots rfl _ _ rfl w.heap.size _ 0 [] rfl HE.out (some ad) l.length c (dots l) rfl (fun h => by cases h) (dots_len l) (fun j u hj => by (obtain ⟨ad', e, h0⟩ := HLC.out j u hj; exact ⟨ad', e, Lib.cell?_alloc_some _ h0⟩)) (dots_one l) (by omega) (by simp) ?_; intro A' c' w1 HO HK1 HG)
    have HK2 := Lib.hid (HK.out.trans HK1.out fun k hk e => by (have e' : w.heap.size = k := by injection e); omega)
    clear HK HK1 HG HE
    go_wp2
    go_ret
    refine ⟨A', c', rfl, ?_, HK2.out⟩
    have := HO.out
    rw [Nat.zero_add, List.nil_append] at this
    exact this
set_option maxRecDepth 100000 in
set_option maxHeartbeats 1600000 in
theorem CloneR_any (A : Option Addr) (l : List Rn) (c : Nat) (w : World) (hl : RunsAt w A l) (hlen : l.length ≤ 1000000) :
    Calls Try.prog 64 #[.slice A l.length c] w (FreshRuns w l) := by
  have hq := fun W a n c n' c' => Lib.run_eql_slice_nil (P := Try.prog) W 43 87 a n c n' c' Try.underlying43
  have hn : A = none → l = [] := fun h => by
    subst h
    rcases Nat.eq_zero_or_pos l.length with h0 | h0
    · exact List.eq_nil_of_length_eq_zero h0
    · obtain ⟨_, e, _⟩ := hl 0 h0
      cases e
  cases A with
  | none =>
    obtain rfl := hn rfl
    clear hl hn
    go_enter Try.func64, Try.ntmps64
    go_wp2
    go_ret
    exact ⟨none, 0, rfl, World.ownsRow_nil _ _ _ _, Kept.refl _ _⟩
  | some ad =>
    have HL := Lib.hid hl
    have HLC := Lib.hid hl.cells
    have HE := Lib.hid (World.ownsRow_made (e := 87) (size := 3) (base := w.heap.size) w #[] 0 (Nat.le_refl _) (Nat.zero_le _) rfl)
    have HK := Lib.hid ((Kept.refl (fun _ => False) w).alloc (.cells #[] 87))
    clear hl hn
    go_enter Try.func64, Try.ntmps64
    go_wp2_with (at_builtin; refine wpList_append_kit eltRuns rfl _ _ rfl w.heap.size _ 0 [] rfl HE.out (some ad) l.length c (runs l) rfl (fun h => by cases h) (runs_len l) (fun j u hj => by (obtain ⟨ad', e, h0⟩ := HLC.out j u hj; exact ⟨ad', e, Lib.cell?_alloc_some _ h0⟩)) (runs_one l) (by omega) (by simp) ?_; intro A' c' w1 HO HK1 HG)
    have HK2 := Lib.hid (HK.out.trans HK1.out fun k hk e => by (have e' : w.heap.size = k := by injection e); omega)
    clear HK HK1 HG HE
    go_wp2
    go_ret
    refine ⟨A', c', rfl, ?_, HK2.out⟩
    have := HO.out
    rw [Nat.zero_add, List.nil_append] at this
    exact this

/-- A new operation, alike, in lists of its own. -/
def FreshOp (w : World) (o : Opr) (e : Ending) (w' : World) : Prop := ∃ y : Lop, y.o = o ∧ e = .returned (.agg y.c) ∧ y.Own w' w.heap.size ∧ Kept (fun _ => False) w w'

set_option maxRecDepth 100000 in
set_option maxHeartbeats 1600000 in
theorem clone_any (x : Lop) (w : World) (h : x.At w) (hs : x.o.Small) : Calls Try.prog 49 #[.agg x.c] w (FreshOp w x.o) := by
  obtain ⟨⟨⟨ds, dq⟩, deps, kind, ⟨it, is⟩, ⟨rt, rs⟩, text, gone, site⟩, dA, dc, gA, gc⟩ := x
  have HD := Lib.hid h.d
  have HG := Lib.hid h.g
  have hdl := hs.dl
  have hgl := hs.gl
  clear h hs
  simp only at HD HG hdl hgl ⊢
  unfold Lop.c Opr.cells
  simp only
  have HB := Lib.hid ((Box.new w 45 #[.int .i64 ds, .int .i64 dq, .slice dA deps.length dc, .int .i64 kind, .int .i64 it, .int .i64 is, .int .i64 rt, .int .i64 rs, .string text, .slice gA gone.length gc, .int .i64 site]).alloc (.cells opZ 45))
  have HR := Lib.hid (Box.new (w.alloc (.cells #[.int .i64 ds, .int .i64 dq, .slice dA deps.length dc, .int .i64 kind, .int .i64 it, .int .i64 is, .int .i64 rt, .int .i64 rs, .string text, .slice gA gone.length gc, .int .i64 site] 45)) 45 opZ)
  have HK := Lib.hid (((Kept.refl (fun _ => False) w).alloc (.cells #[.int .i64 ds, .int .i64 dq, .slice dA deps.length dc, .int .i64 kind, .int .i64 it, .int .i64 is, .int .i64 rt, .int .i64 rs, .string text, .slice gA gone.length gc, .int .i64 site] 45)).alloc (.cells opZ 45))
  have hsz : (w.alloc (.cells #[.int .i64 ds, .int .i64 dq, .slice dA deps.length dc, .int .i64 kind, .int .i64 it, .int .i64 is, .int .i64 rt, .int .i64 rs, .string text, .slice gA gone.length gc, .int .i64 site] 45)).heap.size = w.heap.size + 1 := by simp
  rw [hsz] at HR
  clear hsz
  go_enter Try.func49, Try.ntmps49
  go_wp2_with (fail)
  refine (CloneD_any dA deps dc _ (HD.out.fresh HK.out) hdl).mono ?_
  rintro e w1 ⟨A1, c1, rfl, ho1, hk1⟩
  have HB1 := Lib.hid (HB.out.kept hk1 id)
  have HR1 := Lib.hid (HR.out.kept hk1 id)
  have HK1 := Lib.hid (HK.out.trans hk1 fun _ _ e => e)
  have HO1 := Lib.hid (own_base ho1 HK.out.size)
  have b2 := HB1.out.cell 2
  have b9 := HB1.out.cell 9
  have f2 := HB1.out.frozen 2
  simp only [List.getElem?_toArray, List.getElem?_cons_succ, List.getElem?_cons_zero] at b2 b9
  clear ho1 hk1 HB HR HK
  go_wp2_with (fail)
  have HK2 := Lib.hid (HK1.out.at 2 (.slice A1 deps.length c1) (.inr (Nat.le_refl w.heap.size)))
  have hk12 : Kept (fun k => k = w.heap.size) w1 (w1.setCell ⟨w.heap.size, 2, none⟩ (.slice A1 deps.length c1)) := (Kept.refl _ _).at 2 _ (.inl rfl)
  have HO2 := Lib.hid (hk12.own HO1.out fun k hk e => own_box_ne HO1.out HB1.out (by decide) (by rw [hk, e]))
  have HB2 := Lib.hid (HB1.out.set 2 (.slice A1 deps.length c1))
  have HR2 := Lib.hid (HR1.out.kept hk12 (by omega))
  clear hk12 HO1 HB1 HR1 HK1 b2 b9 f2
  generalize w1.setCell ⟨w.heap.size, 2, none⟩ (.slice A1 deps.length c1) = w2 at HK2 HO2 HB2 HR2 ⊢
  refine (CloneR_any gA gone gc _ (HG.out.fresh HK2.out) hgl).mono ?_
  rintro e w3 ⟨A3, c3, rfl, ho3, hk3⟩
  have HB3 := Lib.hid (HB2.out.kept hk3 id)
  have HR3 := Lib.hid (HR2.out.kept hk3 id)
  have HK3 := Lib.hid (HK2.out.trans hk3 fun _ _ e => e)
  have HO3 := Lib.hid (hk3.own HO2.out fun _ _ => id)
  have HG3 := Lib.hid (own_base ho3 HK2.out.size)
  clear ho3 hk3 HB2 HR2 HK2 HO2
  have b9 := HB3.out.cell 9
  have f9 := HB3.out.frozen 9
  simp only [List.setIfInBounds_toArray, List.set_cons_zero, List.set_cons_succ, List.getElem?_toArray, List.getElem?_cons_succ, List.getElem?_cons_zero] at HB3 b9
  have HB4 := Lib.hid (HB3.out.set 9 (.slice A3 gone.length c3))
  have hk34 : Kept (fun k => k = w.heap.size) w3 (w3.setCell ⟨w.heap.size, 9, none⟩ (.slice A3 gone.length c3)) := (Kept.refl _ _).at 9 _ (.inl rfl)
  have HK4 := Lib.hid (HK3.out.at 9 (.slice A3 gone.length c3) (.inr (Nat.le_refl w.heap.size)))
  have HO4 := Lib.hid (hk34.own HO3.out fun k hk e => own_box_ne HO3.out HB3.out (by decide) (by rw [hk, e]))
  have HG4 := Lib.hid (hk34.own HG3.out fun k hk e => own_box_ne HG3.out HB3.out (by decide) (by rw [hk, e]))
  have HR4 := Lib.hid (HR3.out.kept hk34 (by omega))
  simp only [List.setIfInBounds_toArray, List.set_cons_zero, List.set_cons_succ] at HB4
  clear hk34 HB3 HK3 HO3 HG3 HR3
  go_wp2_with (first | (refine wpList_load_op rfl _ rfl w.heap.size rfl _ _ rfl HB4.out ?_) | (refine wpList_store_box rfl 45 _ _ rfl (w.heap.size + 1) (Opr.cells ⟨⟨ds, dq⟩, deps, kind, ⟨it, is⟩, ⟨rt, rs⟩, text, gone, site⟩ A1 c1 A3 c3) rfl rfl 45 opZ HR4.out (size_op.trans rfl) rfl (Opr.cells_one ..) ?_; intro w5 HR5 hk5))
  have HK5 := Lib.hid (HK4.out.trans hk5 fun k hk e => by omega)
  have HO5 := Lib.hid (hk5.own HO4.out fun k hk e => own_box_ne HO4.out HR4.out (by decide) (by rw [hk, e]))
  have HG5 := Lib.hid (hk5.own HG4.out fun k hk e => own_box_ne HG4.out HR4.out (by decide) (by rw [hk, e]))
  refine bodyPost_ret (results_cell_row rfl _ _ (w.heap.size + 1) 45 (Opr.cells ⟨⟨ds, dq⟩, deps, kind, ⟨it, is⟩, ⟨rt, rs⟩, text, gone, site⟩ A1 c1 A3 c3) (0, 0) _ rfl HR5.out Try.underlying45 rfl (size_op.trans rfl)) rfl ?_
  exact ⟨⟨⟨⟨ds, dq⟩, deps, kind, ⟨it, is⟩, ⟨rt, rs⟩, text, gone, site⟩, A1, c1, A3, c3⟩, rfl, rfl, ⟨HO5.out, HG5.out⟩, HK5.out⟩
end Go.Proofs.Ytnfehkncfjgeeaa

namespace Go.Proofs.Ytnfehkncfjgeeaa
open Go Go.RowKit

/-- What an iterator has: the operations that it goes through. -/
structure ItAt (w : World) (B : Nat) (xs : List Lop) (A : Option Addr) (c : Nat) : Prop where
  box : Box w B 33 #[.slice A xs.length c]
  row : w.ownsRow 0 45 11 (.slice A xs.length c) xs.length (lops xs)
  ats : ∀ x ∈ xs, x.At w
  small : ∀ x ∈ xs, x.o.Small
  len : xs.length ≤ 1000000
theorem ItAt.fresh {w w' : World} {B : Nat} {xs : List Lop} {A : Option Addr} {c : Nat} (h : ItAt w B xs A c) (hk : Kept (fun _ => False) w w') : ItAt w' B xs A c :=
  ⟨h.box.kept hk id, hk.own h.row fun _ _ => id, fun x hx => (h.ats x hx).fresh hk, h.small, h.len⟩

set_option maxRecDepth 100000 in
set_option maxHeartbeats 1600000 in
theorem Beyond1_any (g : Nat) (lb : Array Value) (eg : ∀ args W, (callFunc g args).run Try.prog W = .ok (.enter g args) W) (B : Nat) (xs : List Lop) (A : Option Addr) (c : Nat) (J Jx : Nat → World → Prop)
    (hI : ∀ k W, J k W → ItAt W B xs A c) (hF : ∀ k W W', J k W → Kept (fun _ => False) W W' → J k W')
    (hY : ∀ k (hk : k < xs.length) (y : Lop) W0 W, J k W0 → Kept (fun _ => False) W0 W → J k W → y.o = xs[k].o → y.Own W W0.heap.size →
      Calls Try.prog g (#[.agg y.c] ++ lb) W fun e W' => (e = .returned (.bool true) ∧ J (k + 1) W') ∨ (e = .returned (.bool false) ∧ Jx (k + 1) W'))
    (w : World) (h0 : J 0 w) :
    Calls Try.prog 51 #[.func (.func g) #[] lb, .pointer (some ⟨B, 0, none⟩)] w fun e w' => (∃ v, e = .returned v) ∧ (J xs.length w' ∨ ∃ k, k ≤ xs.length ∧ 0 < k ∧ Jx k w') := by
  have HI := Lib.hid hI
  have HF := Lib.hid hF
  have HY := Lib.hid hY
  have H0 := Lib.hid h0
  have hlen := (hI 0 w h0).len
  have x0 : w.cell? ⟨B, 0, none⟩ = some (.slice A xs.length c) := by simpa using (hI 0 w h0).box.cell 0
  clear hI hF hY h0
  go_enter Try.func51, Try.ntmps51
  go_wp2_with (fail)
  go_loopw [7] (fun i wr => ∃ k : Nat, i = .int .i64 k ∧ k ≤ xs.length ∧ J k wr) (fun i _ => xs.length - (intOf i).toNat)
  case atStart => exact ⟨0, rfl, Nat.zero_le _, H0.out⟩
  case round =>
    obtain ⟨k, rfl, hk, hj⟩ := hrel
    have HJ := Lib.hid hj
    have hit := HI.out k wr hj
    clear hj x0
    by_cases hlt : k < xs.length
    · obtain ⟨gr, cap, hv, _⟩ := World.ownsRow.form hit.row (by omega)
      injection hv with e1 _ e3
      subst e1 e3
      have HR := Lib.hid hit.row
      have HAT := Lib.hid (hit.ats _ (List.getElem_mem hlt))
      have HSM := Lib.hid (hit.small _ (List.getElem_mem hlt))
      obtain ⟨cs, hcs⟩ : ∃ cs, xs[k].c = cs := ⟨_, rfl⟩
      have hsz : cs.size = 11 := by rw [← hcs]; rfl
      have hone : cs.all (·.oneCell') = true := by rw [← hcs]; exact Opr.cells_one ..
      have HCS := Lib.hid hcs
      have HO := Lib.hid hone
      have HN := Lib.hid (Box.new wr 45 opZ)
      have HSZ := Lib.hid hsz
      clear hit hcs hone
      go_wp2_with (first | refine wpList_load_lop rfl _ rfl gr k rfl xs HR.out hlt cs HCS.out ?_ | (refine wpList_store_box rfl 45 _ _ rfl wr.heap.size cs rfl rfl 45 opZ HN.out (size_op.trans (by rw [HSZ.out])) HSZ.out.symm HO.out ?_; intro w2 HB2 hk2) | refine wpList_load_op rfl _ rfl wr.heap.size rfl _ cs HSZ.out HB2.out ?_)
      have HK2 := Lib.hid (((Kept.refl (fun _ => False) wr).alloc (.cells opZ 45)).trans hk2 fun k hk e => by omega)
      have HJ2 := Lib.hid (HF.out _ _ _ HJ.out HK2.out)
      have hcl := clone_any xs[k] w2 (HAT.out.fresh HK2.out) HSM.out
      rw [HCS.out] at hcl
      refine hcl.mono ?_
      rintro e w3 ⟨y, hyo, rfl, hyw, hk3⟩
      have HJ3 := Lib.hid (HF.out _ _ _ HJ2.out hk3)
      have hcall := HY.out k hlt y w2 w3 HJ2.out hk3 HJ3.out hyo hyw
      clear hcl hk2 hk3 HK2 HB2 HN HO HCS HR HAT HSM
      generalize y.c = yc at hcall ⊢
      go_wp2_with (go_at_fn g; refine hcall.mono ?_; rintro e w4 (⟨rfl, hj4⟩ | ⟨rfl, hj4⟩))
      · have HJ4 := Lib.hid hj4
        clear hj4
        go_wp2
        go_roundw
        case rel => exact ⟨k + 1, by go_num, by omega, HJ4.out⟩
        case measure => simp [intOf]; omega
      · have HJ4 := Lib.hid hj4
        clear hj4
        go_wp2
        refine bodyPost_ret (results_none rfl _ _ _) rfl ?_
        exact ⟨⟨_, rfl⟩, .inr ⟨k + 1, by omega, by omega, HJ4.out⟩⟩
    · obtain rfl : k = xs.length := by omega
      clear hit
      go_wp2
      go_end0
      exact ⟨⟨_, rfl⟩, .inl HJ.out⟩
end Go.Proofs.Ytnfehkncfjgeeaa

namespace Go.Proofs.Ytnfehkncfjgeeaa
open Go Go.RowKit

/-- A log: its base, its vector, what it keeps; where these lie. -/
structure Lg where
  base : List Dt
  all : List Dt
  ops : List Lop
  bA : Option Addr
  bc : Nat
  aA : Option Addr
  ac : Nat
  oA : Option Addr
  oc : Nat
def Lg.cells (L : Lg) : Array Value := #[.slice L.bA L.base.length L.bc, .slice L.aA L.all.length L.ac, .slice L.oA L.ops.length L.oc]
def Lg.oV (L : Lg) : Value := .slice L.oA L.ops.length L.oc
structure LogAt (w : World) (p : Nat) (L : Lg) : Prop where
  box : Box w p 51 L.cells
  b : w.ownsRow 0 28 2 (.slice L.bA L.base.length L.bc) L.base.length (dots L.base)
  a : w.ownsRow 0 28 2 (.slice L.aA L.all.length L.ac) L.all.length (dots L.all)
  o : w.ownsRow 0 45 11 (.slice L.oA L.ops.length L.oc) L.ops.length (lops L.ops)
  own : ∀ x ∈ L.ops, x.Own w 0
  small : ∀ x ∈ L.ops, x.o.Small
  bl : L.base.length ≤ 1000000
  al : L.all.length ≤ 1000000
  ol : L.ops.length ≤ 1000000
theorem LogAt.fresh {w w' : World} {p : Nat} {L : Lg} (h : LogAt w p L) (hk : Kept (fun _ => False) w w') : LogAt w' p L :=
  ⟨h.box.kept hk id, hk.own h.b fun _ _ => id, hk.own h.a fun _ _ => id, hk.own h.o fun _ _ => id, fun x hx => (h.own x hx).fresh hk, h.small, h.bl, h.al, h.ol⟩
/-- What a vector lacks of operations. -/
def lacks (hv : List Dt) (l : List Lop) : List Lop := if checkV hv = 0 then l.filter fun x => !hasV hv x.o.dot else []
def ItPost (w : World) (xs : List Lop) (e : Ending) (w' : World) : Prop :=
  ∃ B A c, e = .returned (.func (.func 51) #[] #[.pointer (some ⟨B, 0, none⟩)]) ∧ ItAt w' B xs A c ∧ w.heap.size ≤ B ∧ (∀ k, (Value.slice A xs.length c).ownBlock = some k → w.heap.size ≤ k) ∧ Kept (fun _ => False) w w'

set_option maxRecDepth 100000 in
set_option maxHeartbeats 1600000 in
theorem Beyond_nil (H : Option Addr) (hv : List Dt) (hc : Nat) (w : World) : Calls Try.prog 19 #[.pointer none, .slice H hv.length hc] w (ItPost w []) := by
  have HK := Lib.hid ((Kept.refl (fun _ => False) w).alloc (.cells #[.slice none 0 0] 33))
  have HB := Lib.hid (Box.new w 33 #[.slice none 0 0])
  go_enter Try.func19, Try.ntmps19
  go_wp2
  go_ret
  exact ⟨w.heap.size, none, 0, rfl, ⟨HB.out, World.ownsRow_nil _ _ _ _, fun x h => absurd h (by simp), fun x h => absurd h (by simp), by simp⟩, Nat.le_refl _, fun k h => (by cases h), HK.out⟩

/-- In the middle of Beyond's loop. -/
structure ByAt (w : World) (p : Nat) (L : Lg) (H : Option Addr) (hv : List Dt) (B : Nat) (acc : List Lop) (A : Option Addr) (c : Nat) (wr : World) : Prop where
  k : Kept (fun _ => False) w wr
  l0 : LogAt w p L
  h0 : DotsAt w H hv
  box : Box wr B 33 #[.slice A acc.length c]
  row : wr.ownsRow w.heap.size 45 11 (.slice A acc.length c) acc.length (lops acc)
  ge : w.heap.size ≤ B
section
variable {w : World} {p : Nat} {L : Lg} {H : Option Addr} {hv : List Dt} {B : Nat} {acc : List Lop} {A A' : Option Addr} {c c' : Nat} {w1 w2 : World}
theorem ByAt.fresh (h : ByAt w p L H hv B acc A c w1) (hk : Kept (fun _ => False) w1 w2) : ByAt w p L H hv B acc A c w2 :=
  ⟨h.k.trans hk fun _ _ e => e, h.l0, h.h0, h.box.kept hk id, hk.own h.row fun _ _ => id, h.ge⟩
theorem ByAt.l (h : ByAt w p L H hv B acc A c w1) : LogAt w1 p L := h.l0.fresh h.k
theorem ByAt.h (h : ByAt w p L H hv B acc A c w1) : DotsAt w1 H hv := h.h0.fresh h.k
theorem ByAt.push (h : ByAt w p L H hv B acc A c w1) (x : Lop) (hg : Kept (fun k => (Value.slice A acc.length c).ownBlock = some k) w1 w2)
    (ho : w2.ownsRow w.heap.size 45 11 (.slice A' (acc.length + 1) c') (acc.length + 1) (lops acc ++ x.c.toList)) :
    ByAt w p L H hv B (acc ++ [x]) A' c' (w2.setCell ⟨B, 0, none⟩ (.slice A' (acc.length + 1) c')) := by
  have hb : Box w2 B 33 #[.slice A acc.length c] := h.box.kept hg (own_box_ne h.row h.box (by decide))
  have hk2 : Kept (fun k => k = B) w2 (w2.setCell ⟨B, 0, none⟩ (.slice A' (acc.length + 1) c')) := (Kept.refl _ _).at 0 _ (.inl rfl)
  have e : (acc ++ [x]).length = acc.length + 1 := by simp
  refine ⟨(h.k.trans hg fun k hk e => ?_).trans hk2 fun k hk e => ?_, h.l0, h.h0, ?_, ?_, h.ge⟩
  · have := (h.row.lt k e).1; omega
  · have := h.ge; omega
  · rw [e]; exact hb.set 0 _
  · rw [e, lops_app]
    exact hk2.own ho fun k hk e => own_box_ne ho hb (by decide) (by rw [hk, e])
theorem filter_take (f : Lop → Bool) (l : List Lop) (k : Nat) (hk : k < l.length) : (l.take (k + 1)).filter f = (l.take k).filter f ++ if f l[k] = true then [l[k]] else [] := by
  rw [List.take_succ_eq_append_getElem hk, List.filter_append]
  congr 1
  by_cases h : f l[k] = true
  · simp [h]
  · simp [h]
end

set_option maxRecDepth 100000 in
set_option maxHeartbeats 1600000 in
theorem Beyond_any (p : Nat) (L : Lg) (H : Option Addr) (hv : List Dt) (hc : Nat) (w : World) (h : LogAt w p L) (hh : DotsAt w H hv) (hlen : hv.length ≤ 1000000) :
    Calls Try.prog 19 #[.pointer (some ⟨p, 0, none⟩), .slice H hv.length hc] w (ItPost w (lacks hv L.ops)) := by
  have HZ := Lib.hid (show ByAt w p L H hv w.heap.size [] none 0 (w.alloc (.cells #[.slice none 0 0] 33)) from
    ⟨(Kept.refl _ _).alloc _, h, hh, Box.new w _ _, World.ownsRow_nil _ _ _ _, Nat.le_refl _⟩)
  have HSM := Lib.hid h.small
  have hol := h.ol
  clear h hh
  go_enter Try.func19, Try.ntmps19
  go_wp2_with (fail)
  refine (Check_any H hv hc _ HZ.out.h (by omega)).mono ?_
  unfold IntPost
  rintro e w1 ⟨rfl, hk1⟩
  have HZ1 := Lib.hid (HZ.out.fresh hk1)
  clear hk1 HZ
  by_cases hch : checkV hv = 0
  · rw [hch]
    have HLK := Lib.hid (show lacks hv L.ops = L.ops.filter fun x => !hasV hv x.o.dot from if_pos hch)
    have x2 : w1.cell? ⟨p, 2, none⟩ = some (.slice L.oA L.ops.length L.oc) := by simpa [Lg.cells] using HZ1.out.l.box.cell 2
    clear hch
    go_wp2_with (fail)
    obtain ⟨B, hB⟩ : ∃ B, w.heap.size = B := ⟨_, rfl⟩
    have HBB := Lib.hid hB
    rw [hB] at HZ1 ⊢
    clear hB
    go_loopw [20] (fun i wr => ∃ (k : Nat) (A : Option Addr) (c : Nat), i = .int .i64 k ∧ k ≤ L.ops.length ∧ ByAt w p L H hv B ((L.ops.take k).filter fun x => !hasV hv x.o.dot) A c wr) (fun i _ => L.ops.length - (intOf i).toNat)
    case atStart => exact ⟨0, none, 0, rfl, Nat.zero_le _, HZ1.out⟩
    case round =>
      obtain ⟨k, A, c, rfl, hk, hz⟩ := hrel
      have HZ2 := Lib.hid hz
      clear x2 HZ1
      by_cases hlt : k < L.ops.length
      · obtain ⟨gr, cap, hv', _⟩ := World.ownsRow.form hz.l.o (by omega)
        injection hv' with e1 _ e3
        have HR := Lib.hid hz.l.o
        rw [e1] at HR ⊢
        have HFT := Lib.hid (filter_take (fun x => !hasV hv x.o.dot) L.ops k hlt)
        obtain ⟨x, hx⟩ : ∃ x, L.ops[k] = x := ⟨_, rfl⟩
        obtain ⟨cs, hcs⟩ : ∃ cs, x.c = cs := ⟨_, rfl⟩
        have HXC := Lib.hid (show L.ops[k].c = cs by rw [hx, hcs])
        rw [hx] at HFT
        obtain ⟨acc, hacc⟩ : ∃ acc, (L.ops.take k).filter (fun x => !hasV hv x.o.dot) = acc := ⟨_, rfl⟩
        have hal : acc.length ≤ 1000000 := by
          rw [← hacc]
          exact Nat.le_trans (List.length_filter_le _ _) (by rw [List.length_take]; omega)
        rw [hacc] at HZ2 HFT
        have HCS := Lib.hid hcs
        have HSZ := Lib.hid (show cs.size = 11 by rw [← hcs]; rfl)
        have HO := Lib.hid (show cs.all (·.oneCell') = true by rw [← hcs]; exact Opr.cells_one ..)
        have HO2 := Lib.hid (show cs.toList.all (·.oneCell') = true by rw [← hcs]; exact Lop.c_one _)
        have HC0 := Lib.hid (show cs[0]? = some (.int .i64 x.o.dot.site) by rw [← hcs]; rfl)
        have HC1 := Lib.hid (show cs[1]? = some (.int .i64 x.o.dot.seq) by rw [← hcs]; rfl)
        have HN := Lib.hid (Box.new wr 45 opZ)
        have HK0 := Lib.hid ((Kept.refl (fun _ => False) wr).alloc (.cells opZ 45))
        clear hz hx hcs hacc e1 e3
        go_wp2_with (first | refine wpList_load_lop rfl _ rfl gr k rfl L.ops HR.out hlt cs HXC.out ?_ | (refine wpList_store_box rfl 45 _ _ rfl wr.heap.size cs rfl rfl 45 opZ HN.out (size_op.trans (by rw [HSZ.out])) HSZ.out.symm HO.out ?_; intro w2 HB2 hk2; have HK2 := Lib.hid hk2; clear hk2; have d0 := (HB2.out.cell 0).trans HC0.out; have d1 := (HB2.out.cell 1).trans HC1.out))
        have HKK := Lib.hid (HK0.out.trans HK2.out fun k hk e => by omega)
        have HZ3 := Lib.hid (HZ2.out.fresh HKK.out)
        clear d0 d1 HN HK0 HK2 HKK HZ2
        generalize wr.heap.size = N at HB2 ⊢
        refine (Has_any H hv hc x.o.dot _ HZ3.out.h (by omega)).mono ?_
        unfold BoolPost
        rintro e w3 ⟨rfl, hk3⟩
        have HZ4 := Lib.hid (HZ3.out.fresh hk3)
        have HB3 := Lib.hid (HB2.out.kept hk3 id)
        clear hk3 HB2 HZ3
        cases hhas : hasV hv x.o.dot with
        | true =>
          have HE := Lib.hid hhas
          clear hhas
          go_wp2_with (fail)
          go_roundw
          case rel => exact ⟨k + 1, A, c, by go_num, by omega, by rw [HFT.out, if_neg (by simp [HE.out]), List.append_nil]; exact HZ4.out⟩
          case measure => simp [intOf]; omega
        | false =>
          have HE := Lib.hid hhas
          have b0 : w3.cell? ⟨B, 0, none⟩ = some (.slice A acc.length c) := by simpa using HZ4.out.box.cell 0
          have bf := HZ4.out.box.frozen 0
          clear hhas
          go_wp2_with (first | refine wpList_load_op rfl _ rfl N rfl _ cs HSZ.out HB3.out ?_ | refine wpList_one_op rfl _ rfl x cs HCS.out rfl ?_ | (at_builtin; refine Hid.out ?_))
          refine Lib.hid ?_
          refine wpList_append_new eltOps rfl _ _ rfl w.heap.size _ acc.length (lops acc) rfl HZ4.out.row 1 1 rfl HSZ.out HO2.out (by omega) HZ4.out.k.size ?_
          intro A' c' w4 HO4 HK4 HG4
          have b4 : w4.cell? ⟨B, 0, none⟩ = some (.slice A acc.length c) := by simpa using (HZ4.out.box.kept HK4.out (own_box_ne HZ4.out.row HZ4.out.box (by decide))).cell 0
          have f4 := (HZ4.out.box.kept HK4.out (own_box_ne HZ4.out.row HZ4.out.box (by decide))).frozen 0
          go_wp2
          have HZ5 := Lib.hid (HZ4.out.push x HK4.out (by rw [HCS.out]; exact HO4.out))
          go_roundw
          case rel => exact ⟨k + 1, A', c', by go_num, by omega, by rw [HFT.out, if_pos (by simp [HE.out])]; exact HZ5.out⟩
          case measure => simp [intOf]; omega
      · obtain rfl : k = L.ops.length := by omega
        rw [List.take_length] at HZ2
        clear hz
        go_wp2_with (fail)
        go_ret
        rw [HLK.out]
        refine ⟨B, A, c, rfl, ⟨HZ2.out.box, own_base HZ2.out.row (Nat.zero_le _), fun x hx => ((HZ2.out.l.own x (List.mem_filter.1 hx).1).at), fun x hx => HSM.out x (List.mem_filter.1 hx).1, Nat.le_trans (List.length_filter_le _ _) hol⟩, HZ2.out.ge, fun k h => (HZ2.out.row.lt k h).1, HZ2.out.k⟩
  · have HLK := Lib.hid (show lacks hv L.ops = [] from if_neg hch)
    have hd : decide (checkV hv = 0) = false := decide_eq_false hch
    go_wp2_with (fail)
    go_ret
    rw [HLK.out]
    exact ⟨w.heap.size, none, 0, rfl, ⟨HZ1.out.box, World.ownsRow_nil _ _ _ _, fun x h => absurd h (by simp), fun x h => absurd h (by simp), by simp⟩, Nat.le_refl _, fun k h => (by cases h), HZ1.out.k⟩
end Go.Proofs.Ytnfehkncfjgeeaa

namespace Go.Proofs.Ytnfehkncfjgeeaa
open Go Go.RowKit

def Post1 (Q : Exit → Act → World → Prop) (K : Act → World → Prop) : Exit → Act → World → Prop
  | .normal, a, w => K a w
  | e, a, w => Q e a w
section
variable {P : Program} {ops : Array Oper} {md : Region.Mode} {Q : Exit → Act → World → Prop} {S : World → Prop} {K : Act → World → Prop}
theorem upon_post1 {o : Oper} {a : Act} {r : Result Next} (h : o.upon P a K (Post1 Q K) r) : o.upon P a K Q r := by
  cases r with
  | ok n w' =>
    cases n with
    | enter f args =>
      refine Calls.mono (show Calls _ _ _ _ _ from h) fun e w'' he => ?_
      cases e with
      | returned v => exact he
      | panicked c => exact he
      | outgrown => exact he
    | _ => exact h
  | halt x w' => cases x <;> exact h
theorem wpOp_list {i : Nat} {o : Oper} {a : Act} {w : World} (ho : ops[i]? = some o) (h : wpList P ops (Post1 Q K) [o] a w) : wpOp P ops Q i K a w := by
  unfold wpOp
  rw [ho]
  unfold wpList at h
  show if Region.wanted o (yielded ops a.tmps) = true then _ else _
  split
  · rename_i hw
    rw [if_pos hw] at h
    rcases h with h | ⟨h1, h2⟩
    · exact .inl (upon_post1 h)
    · exact .inr ⟨h1, h2⟩
  · rename_i hw
    rw [if_neg hw] at h
    exact h
theorem AllReadyH.law {fuel : Nat} {listed : Array Bool} {a : Act} {w : World} {i : Nat} {o : Oper} {rs : List Nat} (ho : ops[i]? = some o)
    (h : ∀ K : Act → World → Prop, Shut (∀ a w, S w → (S w → wpAnyH P md ops Q S fuel (listed.setIfInBounds i true) a w) → K a w) → wpList P ops (Post1 Q K) [o] a w)
    (hs : AllReadyH P md ops Q S fuel listed a w rs) : AllReadyH P md ops Q S fuel listed a w (i :: rs) := fun j hj => by
  rcases List.mem_cons.1 hj with rfl | hj
  · exact wpOp_list ho (h _ (fun a w hS hW => ⟨hS, hW hS⟩))
  · exact hs j hj
/-- One alone may come up next. -/
theorem held_one {fuel : Nat} {listed : Array Bool} {a : Act} {w : World} {i : Nat} {o : Oper} (hr : Region.ready md ops listed = [i]) (ho : ops[i]? = some o)
    (h : ∀ K : Act → World → Prop, Shut (∀ a w, S w → (S w → wpAnyH P md ops Q S fuel (listed.setIfInBounds i true) a w) → K a w) → wpList P ops (Post1 Q K) [o] a w) : wpAnyH P md ops Q S (fuel + 1) listed a w :=
  wpAnyH_ready hr (by simp) (AllReadyH.law ho h AllReadyH.nil)
/-- Two may. -/
theorem held_two {fuel : Nat} {listed : Array Bool} {a : Act} {w : World} {i j : Nat} {o o' : Oper} (hr : Region.ready md ops listed = [i, j]) (ho : ops[i]? = some o) (ho' : ops[j]? = some o')
    (h : ∀ K : Act → World → Prop, Shut (∀ a w, S w → (S w → wpAnyH P md ops Q S fuel (listed.setIfInBounds i true) a w) → K a w) → wpList P ops (Post1 Q K) [o] a w)
    (h' : ∀ K : Act → World → Prop, Shut (∀ a w, S w → (S w → wpAnyH P md ops Q S fuel (listed.setIfInBounds j true) a w) → K a w) → wpList P ops (Post1 Q K) [o'] a w) : wpAnyH P md ops Q S (fuel + 1) listed a w :=
  wpAnyH_ready hr (by simp) (AllReadyH.law ho h (AllReadyH.law ho' h' AllReadyH.nil))
theorem held_take {i : Nat} {oi : Oper} {v : Value} {fuel : Nat} {listed : Array Bool} {a : Act} {w : World} (hi : ops[i]? = some oi)
    (hs : Region.noSelect ops = true) (hf : Region.free md ops listed i = true) (hr : (Region.ready md ops listed).contains i = true)
    (hQ : ∀ c a w, Q (.panic c) (a.put oi.dst v) w → Q (.panic c) a w) (hg : oi.guard = none) (hS : S w) (hy : ∀ w, S w → (execOp a.eval oi).run P w = .ok (.value v) w)
    (h : wpAnyH P md ops Q S fuel (listed.setIfInBounds i true) (a.put oi.dst v) w) : wpAnyH P md ops Q S (fuel + 1) listed a w :=
  wpAnyH_take hi hs hf hr hQ (.inl ⟨by simp [Region.wanted, hg], hy⟩) hS h
theorem held_takeTo {i : Nat} {oi : Oper} {v : Value} {fuel : Nat} {listed : Array Bool} {a : Act} {w : World} (t : Tmp) (hi : ops[i]? = some oi) (hd : oi.dst = some t)
    (hs : Region.noSelect ops = true) (hf : Region.free md ops listed i = true) (hr : (Region.ready md ops listed).contains i = true)
    (hQ : ∀ c a w, Q (.panic c) (a.put (some t) v) w → Q (.panic c) a w) (hg : oi.guard = none) (hS : S w) (hy : ∀ w, S w → (execOp a.eval oi).run P w = .ok (.value v) w)
    (h : wpAnyH P md ops Q S fuel (listed.setIfInBounds i true) { a with tmps := a.tmps.setIfInBounds t v } w) : wpAnyH P md ops Q S (fuel + 1) listed a w :=
  held_take hi hs hf hr (by rw [hd]; exact hQ) hg hS hy (by rw [hd]; exact h)
end
end Go.Proofs.Ytnfehkncfjgeeaa

namespace Go.Proofs.Ytnfehkncfjgeeaa
open Go Go.RowKit

theorem lops_set (l : List Lop) (k : Nat) (hk : k < l.length) (x : Lop) : lops (l.set k x) = (lops l).take (k * 11) ++ x.c.toList ++ (lops l).drop (k * 11 + 11) := by
  induction l generalizing k with
  | nil => simp at hk
  | cons y l ih =>
    have e : ∀ z (l : List Lop), lops (z :: l) = z.c.toList ++ lops l := fun _ _ => rfl
    have hy : y.c.toList.length = 11 := by rw [Array.length_toList, Lop.c_size]
    cases k with
    | zero => simp [e, hy]
    | succ k =>
      have h1 : (y.c.toList ++ lops l).take ((k + 1) * 11) = y.c.toList ++ (lops l).take (k * 11) := by
        rw [List.take_append, hy, List.take_of_length_le (by omega), show (k + 1) * 11 - 11 = k * 11 by omega]
      have h2 : (y.c.toList ++ lops l).drop ((k + 1) * 11 + 11) = (lops l).drop (k * 11 + 11) := by
        rw [List.drop_append, hy, List.drop_of_length_le (by omega), show (k + 1) * 11 + 11 - 11 = k * 11 + 11 by omega, List.nil_append]
      rw [List.set_cons_succ, e, ih k (by simpa using hk), e, h1, h2]
      simp
theorem lops_take (l : List Lop) (k : Nat) : (lops l).take (k * 11) = lops (l.take k) := by
  induction l generalizing k with
  | nil => simp [lops]
  | cons y l ih =>
    have e : ∀ z (l : List Lop), lops (z :: l) = z.c.toList ++ lops l := fun _ _ => rfl
    have hy : y.c.toList.length = 11 := by rw [Array.length_toList, Lop.c_size]
    cases k with
    | zero => simp [lops]
    | succ k => rw [List.take_succ_cons, e, e, List.take_append, hy, List.take_of_length_le (by omega), show (k + 1) * 11 - 11 = k * 11 by omega, ih k]
/-- A row cut short. -/
theorem own_short {w : World} {base g m c n : Nat} {l : List Lop} (h : w.ownsRow base 45 11 (.slice (some ⟨g, 0, none⟩) m c) m (lops l)) (hn : n ≤ m) : w.ownsRow base 45 11 (.slice (some ⟨g, 0, none⟩) n c) n (lops (l.take n)) := by
  have hl := h.1
  rw [lops_len] at hl
  refine ⟨by rw [lops_len, List.length_take]; omega, ?_⟩
  rcases h.2 with ⟨h', _⟩ | ⟨g', cap, cur, hv, hb, hg, hnc, hcm, hcs, htake⟩
  · cases h'
  · refine .inr ⟨g', cap, cur, ?_, hb, hg, by omega, hcm, hcs, ?_⟩
    · injection hv with e1 _ e3
      rw [e1, e3]
    · rw [← lops_take, ← htake, List.take_take, Nat.min_eq_left (by omega)]
theorem own_cap {w : World} {base n c s : Nat} {e : TypeId} {A : Option Addr} {xs : List Value} (h : w.ownsRow base e s (.slice A n c) n xs) : n ≤ c := by
  rcases h.2 with ⟨h', h0⟩ | ⟨g, cap, cur, hv, _, _, hnc, _⟩
  · omega
  · injection hv with _ _ e3
    omega
theorem setRow_heap' (w : World) (g : Nat) (cur cs : Array Value) (t : TypeId) (hg : w.heap[g]? = some (.cells cur t (0, 0))) : (w.setRow g cs).heap[g]? = some (.cells cs t (0, 0)) := setRow_heap w g cur cs t (0, 0) hg
section
variable {w : World} {ops : Array Oper} {rest : List Oper} {o : Oper} {a : Act} {Q : Exit → Act → World → Prop}
/-- One operation is copied into place n of a row. -/
theorem wpList_copy_lop (hgd : o.guard = none) (d s : Operand) (ho : o.op = .call { callee := .builtin .copy, args := #[d, s], argTypes := #[33, 33] })
    {base g m c n dLen dCap sb : Nat} {T : TypeId} (R : List Lop) (hr : w.ownsRow base 45 11 (.slice (some ⟨g, 0, none⟩) m c) m (lops R)) (hn : n < m)
    (hd : a.eval d = .slice (some ⟨g, n * 11, none⟩) dLen dCap) (hdl : 1 ≤ dLen) (x : Lop) (hs : a.eval s = .slice (some ⟨sb, 0, none⟩) 1 1) (hsb : Box w sb T x.c)
    (h : ∀ w', Hid (w'.ownsRow base 45 11 (.slice (some ⟨g, 0, none⟩) m c) m (lops (R.set n x))) → Hid (Kept (fun k => k = g) w w') → wpList Try.prog ops Q rest (a.put o.dst (goInt 1)) w') :
    wpList Try.prog ops Q (o :: rest) a w := by
  refine wpList_plain hgd fun K hK => ?_
  have hR := hr.1
  rw [lops_len] at hR
  have hRm : R.length = m := by omega
  rcases hr.2 with ⟨h', _⟩ | ⟨g', cap, cur, hv, hb, hg, hnc, hcm, hcs, htake⟩
  · cases h'
  injection hv with e1 _ e3
  injection e1 with e1
  injection e1 with e1
  subst e1 e3
  obtain ⟨i0, hi, _, hz, _⟩ := info_parts info_op
  have hc11 : x.c.toList.length = 11 := by rw [Array.length_toList, Lop.c_size]
  have hsrc : ∀ j v, x.c.toList[j]? = some v → w.cell? ((⟨sb, 0, none⟩ : Addr).add j) = some v := fun j v hj => by
    rw [add_none, hsb.cell j]
    simpa using hj
  have hl := run_loadCells_list (P := Try.prog) w ⟨sb, 0, none⟩ x.c.toList hsrc
  have hmul : n * 11 + 11 ≤ m * 11 := by omega
  have hcap : m * 11 ≤ c * 11 := Nat.mul_le_mul_right _ hnc
  have hst := run_storeCells_at Try.prog g (n * 11) 45 x.c.toList 0 cur w hg (by rw [hc11, hcs]; omega) (fun v hv => List.all_eq_true.1 x.c_one v hv)
  rw [hc11] at hl hst
  have hmin : Nat.min 1 dLen = 1 := Nat.min_eq_left hdl
  have hrun : (Builtin.copy_ #[33, 33] o.type #[.slice (some ⟨g, n * 11, none⟩) dLen dCap, .slice (some ⟨sb, 0, none⟩) 1 1]).run Try.prog w =
      .ok (goInt 1) (w.setRow g (cur.toList.take (n * 11) ++ x.c.toList ++ cur.toList.drop (n * 11 + 11)).toArray) := by
    simp only [Nat.add_zero] at hst
    simp [Builtin.copy_, run_underlying Try.underlying33, Builtin.lenOf, Builtin.firstCells, sizeOf, typeInfo, hi, hz, hmin, hl, hst]
  unfold Oper.wp
  simp [execOp, ho, resolve, invoke, builtin, hd, hs, hrun, Result.andThen]
  refine hK _ _ (h _ ?_ (setRow_kept _ _ _))
  refine ⟨by rw [lops_len, List.length_set]; omega, .inr ⟨g, c, _, rfl, hb, setRow_heap' w g cur _ _ hg, hnc, hcm, ?_, ?_⟩⟩
  · have : cur.toList.length = c * 11 := by rw [Array.length_toList, hcs]
    simp [hc11, this]
    omega
  · have hcl : cur.toList.length = c * 11 := by rw [Array.length_toList, hcs]
    rw [lops_set R n (by omega) x, ← htake]
    apply List.ext_getElem?
    intro j
    simp only [List.getElem?_take, List.getElem?_append, List.getElem?_drop, List.length_append, List.length_take, hc11, hcl]
    have e1 : min (n * 11) (c * 11) = n * 11 := Nat.min_eq_left (by omega)
    have e2 : min (n * 11) (min (m * 11) (c * 11)) = n * 11 := by omega
    rw [e1, e2]
    by_cases h2 : j < n * 11
    · have hj : j < m * 11 := by omega
      have h1 : j < n * 11 + 11 := by omega
      simp only [if_pos h2, if_pos hj, if_pos h1]
    · by_cases h1 : j < n * 11 + 11
      · have hj : j < m * 11 := by omega
        have h3 : j - n * 11 < 11 := by omega
        simp only [if_neg h2, if_pos hj, if_pos h1, if_pos h3]
      · have h3 : ¬ j - n * 11 < 11 := by omega
        have e3 : n * 11 + 11 + (j - n * 11 - 11) = j := by omega
        have e4 : n * 11 + 11 + (j - (n * 11 + 11)) = j := by omega
        simp only [if_neg h2, if_neg h1, if_neg h3, e3, e4]
/-- A row is cleared from place n on. -/
theorem wpList_clear_lop (hgd : o.guard = none) (s : Operand) (ho : o.op = .call { callee := .builtin .clear, args := #[s], argTypes := #[33] })
    {base m c n dLen dCap : Nat} {A B : Option Addr} (R : List Lop) (hr : w.ownsRow base 45 11 (.slice A m c) m (lops R)) (hn : n ≤ m) (hs : a.eval s = .slice B dLen dCap) (hdl : dLen = m - n) (hB : n < m → B = A.map (·.add (n * 11)))
    (h : ∀ w', Hid (w'.ownsRow base 45 11 (.slice A n c) n (lops (R.take n))) → Hid (Kept (fun k => (Value.slice A m c).ownBlock = some k) w w') → wpList Try.prog ops Q rest (a.put o.dst (.tuple #[])) w') :
    wpList Try.prog ops Q (o :: rest) a w := by
  refine wpList_plain hgd fun K hK => ?_
  have hR := hr.1
  rw [lops_len] at hR
  have hRm : R.length = m := by omega
  subst hdl
  rcases hr.2 with ⟨h', h0⟩ | ⟨g, cap, cur, hv, hb, hg, hnc, hcm, hcs, htake⟩
  · subst h0
    injection h' with e1 _ e3
    subst e1 e3
    obtain rfl : n = 0 := by omega
    have hrun : (Builtin.clear_ #[33] o.type #[.slice B 0 dCap]).run Try.prog w = .ok (.tuple #[]) w := by
      cases B <;> simp [Builtin.clear_, run_underlying Try.underlying33]
    unfold Oper.wp
    simp [execOp, ho, resolve, invoke, builtin, hs, hrun, Result.andThen]
    exact hK _ _ (h _ (World.ownsRow_nil _ _ _ _) (Kept.refl _ _))
  injection hv with e1 _ e3
  subst e1 e3
  rcases Nat.lt_or_ge n m with hlt | hge
  · obtain rfl := hB hlt
    simp only [Option.map_some, add_none] at hs
    obtain ⟨i0, hi, hz0, hz, _⟩ := info_parts info_op
    have hzv : (zeroValue 45).run Try.prog w = .ok (.agg opZ) w := by simp [zeroValue, typeInfo, hi, hz0, opZ]
    have hmul : n * 11 + (m - n) * 11 = m * 11 := by rw [Nat.sub_mul]; have := Nat.mul_le_mul_right 11 hn; omega
    have hcap : m * 11 ≤ c * 11 := Nat.mul_le_mul_right _ hnc
    obtain ⟨zs, hzs⟩ : ∃ zs, (Builtin.zeroCells opZ (m - n)).toList = zs := ⟨_, rfl⟩
    have hzl : zs.length = (m - n) * 11 := by rw [← hzs]; simp [Builtin.zeroCells, opZ]
    have hz1 : ∀ v ∈ zs, v.oneCell' = true := by
      rw [← hzs]
      intro v hv
      simp only [Builtin.zeroCells, Array.toList_map, List.mem_map] at hv
      obtain ⟨i, _, rfl⟩ := hv
      have : i % opZ.size < 11 := Nat.mod_lt _ (by decide)
      revert this
      generalize i % opZ.size = q
      intro hq
      match q, hq with
      | 0, _ => rfl
      | 1, _ => rfl
      | 2, _ => rfl
      | 3, _ => rfl
      | 4, _ => rfl
      | 5, _ => rfl
      | 6, _ => rfl
      | 7, _ => rfl
      | 8, _ => rfl
      | 9, _ => rfl
      | 10, _ => rfl
    have hst := run_storeCells_at Try.prog g (n * 11) 45 zs 0 cur w hg (by rw [hzl, hcs]; omega) hz1
    obtain ⟨k, hk⟩ : ∃ k, m - n = k + 1 := ⟨m - n - 1, by omega⟩
    have hrun : (Builtin.clear_ #[33] o.type #[.slice (some ⟨g, n * 11, none⟩) (m - n) dCap]).run Try.prog w = .ok (.tuple #[]) (w.setRow g (cur.toList.take (n * 11) ++ zs ++ cur.toList.drop (n * 11 + zs.length)).toArray) := by
      simp only [Nat.add_zero] at hst
      rw [hk] at hzs ⊢
      simp [Builtin.clear_, run_underlying Try.underlying33, hzv, Value.cells, hzs, hst]
    unfold Oper.wp
    simp [execOp, ho, resolve, invoke, builtin, hs, hrun, Result.andThen]
    refine hK _ _ (h _ ?_ ((setRow_kept _ _ _).more fun k _ e => by rw [e]; rfl))
    have hcl : cur.toList.length = c * 11 := by rw [Array.length_toList, hcs]
    refine ⟨by rw [lops_len, List.length_take]; omega, .inr ⟨g, c, _, rfl, hb, setRow_heap' w g cur _ _ hg, by omega, hcm, ?_, ?_⟩⟩
    · simp [hzl, hcl]
      omega
    · rw [← lops_take, ← htake, List.take_take, Nat.min_eq_left (by omega), List.take_append_of_le_length (by rw [List.length_take, hcl]; omega), List.take_take, Nat.min_self]
  · obtain rfl : n = m := by omega
    rw [Nat.sub_self] at hs
    have hrun : (Builtin.clear_ #[33] o.type #[.slice B 0 dCap]).run Try.prog w = .ok (.tuple #[]) w := by
      cases B <;> simp [Builtin.clear_, run_underlying Try.underlying33]
    unfold Oper.wp
    simp [execOp, ho, resolve, invoke, builtin, hs, hrun, Result.andThen]
    refine hK _ _ (h _ ?_ (Kept.refl _ _))
    rw [List.take_of_length_le (by omega)]
    exact hr
end
end Go.Proofs.Ytnfehkncfjgeeaa
