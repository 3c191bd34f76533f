/- Operations in memory: each with its two lists, one operation behind the other in a row. No condition. -/
import Derived.Test.YtoeipjhdpeibpaaGreatOPlain
import Derived.Test.YtoeipjhdpeibpaaGreatRChk
import Derived.Test.YtoeipjhdpeibpaaGreatVLat
import Derived.Test.YtoeipjhdpeibpaaGreatKit
import Derived.Deep.MidRow
import Derived.Deep.DeepAppendRoom
import Derived.Lib.OwnKind
import Derived.Laws.OwnMore
import Derived.Great.Walk
namespace Go.Proofs.YtoeipjhdpeibpaaGreat
open Go Go.RowKit

theorem runs_len (l : List Rn) : (runs l).length = l.length * 3 := by
  induction l with
  | nil => rfl
  | cons d l ih => simp only [runs, List.flatMap_cons, List.length_append, List.length_cons, List.length_nil] at ih ⊢; omega
theorem runs_get (l : List Rn) (k : Nat) (hk : k < l.length) : (runs l)[k * 3]? = some (.int .i64 l[k].id.time) ∧ (runs l)[k * 3 + 1]? = some (.int .i64 l[k].id.site) ∧ (runs l)[k * 3 + 2]? = some (.int .i64 l[k].count) := by
  induction l generalizing k with
  | nil => simp at hk
  | cons d l ih =>
    cases k with
    | zero => simp [runs]
    | succ k =>
      have := ih k (by simpa using hk)
      have e1 : (k + 1) * 3 = k * 3 + 3 := by omega
      rw [e1]
      simpa [runs] using this
theorem runs_one (l : List Rn) : ∀ u ∈ runs l, u.oneCell' = true := by
  intro u hu
  simp only [runs, List.mem_flatMap] at hu
  obtain ⟨d, _, hd⟩ := hu
  simp at hd
  rcases hd with rfl | rfl | rfl <;> rfl
theorem runs_app (l : List Rn) (d : Rn) : runs (l ++ [d]) = runs l ++ [.int .i64 d.id.time, .int .i64 d.id.site, .int .i64 d.count] := by simp [runs]
theorem RunsAt.nil {w : World} {A : Option Addr} : RunsAt w A [] := fun k h => absurd h (by simp)
theorem RunsAt.of_own {w : World} {A : Option Addr} {l : List Rn} {base : Nat} {e : TypeId} {n c : Nat} (h : w.ownsRow base e 3 (.slice A n c) n (runs l)) : RunsAt w A l := fun k hlt => by
  have hz := h.1
  rw [runs_len] at hz
  rcases h.2 with ⟨_, h0⟩ | ⟨g, cap, cur, hv, _⟩
  · omega
  · injection hv with hA
    subst hA
    obtain ⟨g0, g1, g2⟩ := runs_get l k hlt
    refine ⟨_, rfl, h.cells (g := g) rfl _ _ g0, ?_, ?_⟩
    · have := h.cells (g := g) rfl _ _ g1
      rw [add_none] at this ⊢
      exact this
    · have := h.cells (g := g) rfl _ _ g2
      rw [add_none] at this ⊢
      exact this
theorem add_off (ad : Addr) (k j : Nat) (h : 0 < j) : (⟨(ad.add k).block, (ad.add k).off + j, none⟩ : Addr) = ad.add (k + j) := by
  unfold Addr.add
  rw [if_neg (show ¬ k + j = 0 by omega)]
  split
  · simp_all
  · simp [Nat.add_assoc]
theorem DotsAt.cells {w : World} {A : Option Addr} {l : List Dt} (h : DotsAt w A l) : ∀ j u, (dots l)[j]? = some u → ∃ ad, A = some ad ∧ w.cell? (ad.add j) = some u := by
  intro j u hj
  have hlt : j < (dots l).length := (List.getElem?_eq_some_iff.1 hj).1
  rw [dots_len] at hlt
  obtain ⟨ad, rfl, x0, x1⟩ := h (j / 2) (by omega)
  obtain ⟨g0, g1⟩ := dots_get l (j / 2) (by omega)
  refine ⟨ad, rfl, ?_⟩
  rw [add_off ad _ 1 (by omega)] at x1
  rcases Nat.mod_two_eq_zero_or_one j with h2 | h2
  · have e : j / 2 * 2 = j := by omega
    rw [e] at x0 g0
    rw [x0, ← g0, hj]
  · have e : j / 2 * 2 + 1 = j := by omega
    rw [e] at g1 x1
    rw [x1, ← g1, hj]
theorem RunsAt.cells {w : World} {A : Option Addr} {l : List Rn} (h : RunsAt w A l) : ∀ j u, (runs l)[j]? = some u → ∃ ad, A = some ad ∧ w.cell? (ad.add j) = some u := by
  intro j u hj
  have hlt : j < (runs l).length := (List.getElem?_eq_some_iff.1 hj).1
  rw [runs_len] at hlt
  obtain ⟨ad, rfl, x0, x1, x2⟩ := h (j / 3) (by omega)
  obtain ⟨g0, g1, g2⟩ := runs_get l (j / 3) (by omega)
  refine ⟨ad, rfl, ?_⟩
  rw [add_off ad _ 1 (by omega)] at x1
  rw [add_off ad _ 2 (by omega)] at x2
  have h3 : j % 3 = 0 ∨ j % 3 = 1 ∨ j % 3 = 2 := by omega
  rcases h3 with h2 | h2 | h2
  · have e : j / 3 * 3 = j := by omega
    rw [e] at x0 g0
    rw [x0, ← g0, hj]
  · have e : j / 3 * 3 + 1 = j := by omega
    rw [e] at g1 x1
    rw [x1, ← g1, hj]
  · have e : j / 3 * 3 + 2 = j := by omega
    rw [e] at g2 x2
    rw [x2, ← g2, hj]

/-- A row stays where a step turns no block of its type. -/
def NoKind (w : World) (S : Nat → Prop) (e : TypeId) : Prop := ∀ k, S k → ∀ cs c, w.heap[k]? ≠ some (.cells cs e c)
theorem Kept.own_kind {S : Nat → Prop} {w w' : World} {base n size : Nat} {e : TypeId} {v : Value} {xs : List Value} (hk : Kept S w w') (hS : NoKind w S e) (h : w.ownsRow base e size v n xs) : w'.ownsRow base e size v n xs :=
  hk.own h fun k hk hs => by
    rcases h.2 with ⟨rfl, _⟩ | ⟨g, cap, cur, rfl, _, hg, _⟩
    · cases hk
    · have e1 : g = k := by simpa [Value.ownBlock] using hk
      subst e1
      exact hS _ hs _ _ hg
theorem own_other {w : World} {b b' s s' n n' : Nat} {e e' : TypeId} {v v' : Value} {xs xs' : List Value} (h : w.ownsRow b e s v n xs) (h' : w.ownsRow b' e' s' v' n' xs') (hne : e ≠ e') : ∀ k, v.ownBlock = some k → v'.ownBlock ≠ some k := by
  intro k hk hk'
  rcases h.2 with ⟨rfl, _⟩ | ⟨g, cap, cur, rfl, _, hg, _⟩
  · cases hk
  · rcases h'.2 with ⟨rfl, _⟩ | ⟨g', cap', cur', rfl, _, hg', _⟩
    · cases hk'
    · simp only [Value.ownBlock, Option.some.injEq] at hk hk'
      subst hk hk'
      rw [hg] at hg'
      injection hg' with e1
      injection e1 with _ e2
      exact hne e2
theorem own_is {w : World} {b s n : Nat} {e : TypeId} {v : Value} {xs : List Value} (h : w.ownsRow b e s v n xs) {k : Nat} (hk : v.ownBlock = some k) : ∃ cs c, w.heap[k]? = some (.cells cs e c) := by
  rcases h.2 with ⟨rfl, _⟩ | ⟨g, cap, cur, rfl, _, hg, _⟩
  · cases hk
  · simp only [Value.ownBlock, Option.some.injEq] at hk
    subst hk
    exact ⟨_, _, hg⟩
theorem NoKind.none {w : World} {e : TypeId} : NoKind w (fun _ => False) e := fun _ h => h.elim

/-- An operation and where its lists lie. -/
structure Lop where
  o : Opr
  dA : Option Addr
  dc : Nat
  gA : Option Addr
  gc : Nat
def Lop.c (x : Lop) : Array Value := x.o.cells x.dA x.dc x.gA x.gc
def Lop.dV (x : Lop) : Value := .slice x.dA x.o.deps.length x.dc
def Lop.gV (x : Lop) : Value := .slice x.gA x.o.gone.length x.gc
theorem Lop.c_size (x : Lop) : x.c.size = 11 := rfl
theorem Opr.cells_one (o : Opr) (dA : Option Addr) (dc : Nat) (gA : Option Addr) (gc : Nat) : (o.cells dA dc gA gc).all (·.oneCell') = true := by simp [Opr.cells, Value.oneCell']
theorem Lop.c_one (x : Lop) : x.c.toList.all (·.oneCell') = true := rfl
def lops (l : List Lop) : List Value := l.flatMap fun x => x.c.toList
theorem lops_len (l : List Lop) : (lops l).length = l.length * 11 := by
  induction l with
  | nil => rfl
  | cons x l ih =>
    have e : lops (x :: l) = x.c.toList ++ lops l := rfl
    rw [e, List.length_append, ih, Array.length_toList, Lop.c_size, List.length_cons]
    omega
theorem lops_app (l : List Lop) (x : Lop) : lops (l ++ [x]) = lops l ++ x.c.toList := by simp [lops]
theorem lops_get (l : List Lop) (k : Nat) (hk : k < l.length) (j : Nat) (hj : j < 11) : (lops l)[k * 11 + j]? = l[k].c.toList[j]? := by
  induction l generalizing k with
  | nil => simp at hk
  | cons x l ih =>
    have e : lops (x :: l) = x.c.toList ++ lops l := rfl
    have hx : x.c.toList.length = 11 := by rw [Array.length_toList, Lop.c_size]
    rw [e]
    cases k with
    | zero => rw [List.getElem?_append_left (by omega)]; simp
    | succ k =>
      rw [List.getElem?_append_right (by omega), hx, show (k + 1) * 11 + j - 11 = k * 11 + j by omega, ih k (by simpa using hk)]
      rfl
theorem lops_one (l : List Lop) : ∀ u ∈ lops l, u.oneCell' = true := by
  intro u hu
  obtain ⟨x, _, hx⟩ := List.mem_flatMap.1 hu
  exact List.all_eq_true.1 x.c_one u hx
/-- Its lists lie there, and nothing is longer than a million. -/
structure Lop.At (w : World) (x : Lop) : Prop where
  d : DotsAt w x.dA x.o.deps
  g : RunsAt w x.gA x.o.gone
/-- Its lists are its own. -/
structure Lop.Own (w : World) (base : Nat) (x : Lop) : Prop where
  d : w.ownsRow base 55 2 x.dV x.o.deps.length (dots x.o.deps)
  g : w.ownsRow base 112 3 x.gV x.o.gone.length (runs x.o.gone)
/-- How much there is of an operation. -/
structure Opr.Small (o : Opr) : Prop where
  counts : ∀ r ∈ o.gone, inI r.count
  dl : o.deps.length ≤ 1000000
  gl : o.gone.length ≤ 1000000
  tl : o.text.size ≤ 1000000
section
variable {w w' : World} {x : Lop} {S : Nat → Prop} {base : Nat}
theorem Lop.Own.at (h : x.Own w base) : x.At w := ⟨DotsAt.of_own h.d, RunsAt.of_own h.g⟩
theorem Lop.At.fresh (h : x.At w) (hk : Kept (fun _ => False) w w') : x.At w' := ⟨h.d.fresh hk, h.g.fresh hk⟩
theorem Lop.At.kept (h : x.At w) (hk : Kept S w w') (hd : ∀ a, x.dA = some a → ¬ S a.block) (hg : ∀ a, x.gA = some a → ¬ S a.block) : x.At w' := ⟨h.d.kept hk hd, h.g.kept hk fun _ => hg⟩
theorem Lop.Own.fresh (h : x.Own w base) (hk : Kept (fun _ => False) w w') : x.Own w' base := ⟨hk.own h.d fun _ _ => id, hk.own h.g fun _ _ => id⟩
theorem Lop.Own.kept (h : x.Own w base) (hk : Kept S w w') (hd : NoKind w S 55) (hg : NoKind w S 112) : x.Own w' base := ⟨hk.own_kind hd h.d, hk.own_kind hg h.g⟩
theorem Lop.Own.mono {b : Nat} (h : x.Own w base) (hb : b ≤ base) : x.Own w b := ⟨own_base h.d hb, own_base h.g hb⟩
end
theorem info_op : (Tryz.prog.info? 60).map (fun i => (i.zero, i.size, i.bytes)) = some (some (.agg #[.int .i64 0, .int .i64 0, .slice none 0 0, .int .i64 0, .int .i64 0, .int .i64 0, .int .i64 0, .int .i64 0, .string ⟨#[]⟩, .slice none 0 0, .int .i64 0]), 11, 128) := by kernel_rfl
theorem size_op : (Tryz.prog.info? 60).map (·.size) = some 11 := by kernel_rfl
theorem eltOps : Elt Tryz.prog 33 60 11 128 := .of Tryz.underlying33 info_op rfl (by decide) (by decide)
theorem eltDots : Elt Tryz.prog 32 55 2 16 := .of Tryz.underlying32 info_dot rfl (by decide) (by decide)
theorem eltRuns : Elt Tryz.prog 58 112 3 24 := .of Tryz.underlying58 info_run rfl (by decide) (by decide)
/-- The operation at place k of a row lies there whole. -/
theorem range_of_row {w : World} {base g n c : Nat} {l : List Lop} (h : w.ownsRow base 60 11 (.slice (some ⟨g, 0, none⟩) n c) n (lops l)) (k : Nat) (hk : k < l.length) : w.rangeAt g (k * 11) l[k].c.toList := by
  intro j v hj
  have hj' : j < 11 := by
    have := (List.getElem?_eq_some_iff.1 hj).1
    rwa [Array.length_toList, Lop.c_size] at this
  have := h.cells (g := g) rfl (k * 11 + j) v (by rw [lops_get l k hk j hj']; exact hj)
  rwa [add_none] at this
section
variable {w : World} {ops : Array Oper} {rest : List Oper} {o : Oper} {a : Act} {Q : Exit → Act → World → Prop}
theorem und_op : ∃ d, Tryz.prog.underlying 60 = some d ∧ d.isRow = true := ⟨.struct (Tryz.prog.fieldsOf 60), by kernel_rfl, rfl⟩
theorem wpList_load_lop (hgd : o.guard = none) (x : Operand) (ho : o.op = .load 60 x) (g k : Nat) (hx : a.eval x = .pointer (some ⟨g, k * 11, none⟩)) {base n c : Nat} (xs : List Lop)
    (hr : w.ownsRow base 60 11 (.slice (some ⟨g, 0, none⟩) n c) n (lops xs)) (hk : k < xs.length) (cs : Array Value) (hcs : xs[k].c = cs)
    (h : wpList Tryz.prog ops Q rest (a.put o.dst (.agg cs)) w) : wpList Tryz.prog ops Q (o :: rest) a w := by
  obtain ⟨d, hu, hd⟩ := und_op
  refine wpList_load_mid hgd _ x ho g (k * 11) hx xs[k].c.toList d (range_of_row hr k hk) hu hd (by rw [Array.length_toList]; exact size_op) ?_
  rw [Array.toArray_toList, hcs]
  exact h
theorem run_load_op (op : Oper) (x : Operand) (ho : op.op = .load 60 x) (g : Nat) (hx : a.eval x = .pointer (some ⟨g, 0, none⟩)) (t : TypeId) (cs : Array Value) (hs : cs.size = 11) (hg : Box w g t cs) :
    (execOp a.eval op).run Tryz.prog w = .ok (.value (.agg cs)) w := by
  obtain ⟨d, hu, hd⟩ := und_op
  have hc : w.rangeAt g 0 cs.toList := fun j v hj => by rw [Nat.zero_add, hg.cell j]; simpa using hj
  have := run_loadVar_mid (P := Tryz.prog) w g 0 60 cs.toList d hc hu hd (by rw [Array.length_toList, hs]; exact size_op)
  rw [Array.toArray_toList] at this
  unfold execOp
  simp only [ho, hx, Instr.loadAt, Instr.sureAddr, Sem.run_bind, Sem.run_pure, Result.andThen_ok, this]
theorem wpList_load_op (hgd : o.guard = none) (x : Operand) (ho : o.op = .load 60 x) (g : Nat) (hx : a.eval x = .pointer (some ⟨g, 0, none⟩)) (t : TypeId) (cs : Array Value) (hs : cs.size = 11) (hg : Box w g t cs)
    (h : wpList Tryz.prog ops Q rest (a.put o.dst (.agg cs)) w) : wpList Tryz.prog ops Q (o :: rest) a w := by
  obtain ⟨d, hu, hd⟩ := und_op
  exact wpList_load_box hgd _ x ho g hx t cs d hg hu (by cases d <;> simp_all) (by rw [hs]; exact size_op) h
end
def opZ : Array Value := #[.int .i64 0, .int .i64 0, .slice none 0 0, .int .i64 0, .int .i64 0, .int .i64 0, .int .i64 0, .int .i64 0, .string ⟨#[]⟩, .slice none 0 0, .int .i64 0]

theorem built_op (o : Opr) (dA : Option Addr) (dc : Nat) (gA : Option Addr) (gc : Nat) : Tryz.prog.builtSlice 60 1 [(0, .agg (o.cells dA dc gA gc))] = some (o.cells dA dc gA gc) := by
  obtain ⟨i, z, hi, hz, hsz, hby, hzs⟩ := eltOps.info
  obtain ⟨i', hi', hz', _⟩ := info_parts info_op
  obtain rfl : i = i' := by rw [hi] at hi'; injection hi'
  obtain rfl := Option.some.inj (hz.symm.trans hz')
  unfold Program.builtSlice
  simp only [hi, hz, hsz]
  rw [if_neg (by decide)]
  kernel_rfl
theorem wpList_one_op {ops : Array Oper} {rest : List Oper} {o : Oper} {a : Act} {w : World} {Q : Exit → Act → World → Prop} (hg : o.guard = none) (x0 : Operand)
    (ho : o.op = .buildSlice 33 1 #[(0, x0)]) (x : Lop) (cs : Array Value) (hcs : x.c = cs) (h0 : a.eval x0 = .agg cs)
    (h : wpList Tryz.prog ops Q rest (a.put o.dst (.slice (some ⟨w.heap.size, 0, none⟩) 1 1)) (w.alloc (.cells cs 60))) :
    wpList Tryz.prog ops Q (o :: rest) a w := by
  refine Great.wpList_buildSliceTo hg _ 60 1 _ ho _ rfl _ rfl Tryz.underlying33 _ ?_ h
  have e : (#[(0, x0)].map fun ((i, x) : Nat × Operand) => (i, a.eval x)).toList = [(0, a.eval x0)] := by simp
  rw [e, h0, ← hcs]
  exact built_op ..
end Go.Proofs.YtoeipjhdpeibpaaGreat
