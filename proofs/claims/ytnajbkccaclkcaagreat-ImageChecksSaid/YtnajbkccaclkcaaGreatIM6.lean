/- Two rows compared; the walks of Covers, Merge, Least. Conditions: the Dots lie in memory as DotsAt says. · The walks of Covers, Merge, Least. Conditions: the Dots lie in memory as DotsAt says. · Operations in memory: each with its two lists, one operation behind the other in a row. No condition. · Opening an argument that is an operation, a list of Dots, a list of runs, a script of steps. No condition. -/
import Derived.Test.YtnajbkccaclkcaaGreatIM5
import Derived.Test.YtnajbkccaclkcaaGreatIM3
import Derived.Test.YtnajbkccaclkcaaGreatIM4
import Derived.Deep.MidRow
import Derived.Deep.DeepAppendRoom
import Derived.Lib.OwnKind
import Derived.Laws.OwnMore
import Derived.Great.Walk
import Derived.ProofKit
import Derived.OpenShut
import Derived.Deep.Slices
import Derived.Deep.Fields
import Derived.ChangeSame
import Derived.ChangeSlices
import Derived.Lib.SmallJoins
namespace Go.Proofs.YtnajbkccaclkcaaGreat
open Go.RowKit

theorem run_sizeOf_int (W : World) : (sizeOf 3).run Tryz.prog W = .ok 1 W := by
  have hi : (Tryz.prog.info? 3).map (fun i => (i.zero, i.size, i.bytes)) = some (some (.int .i64 0), 1, 8) := by kernel_rfl
  obtain ⟨i0, h1, h2, h3, h4⟩ := info_parts hi
  simp [sizeOf, typeInfo, h1, h3]
theorem take_more {r s : List Int} {k : Nat} (hr : k < r.length) (hs : k < s.length) (h : r.take k = s.take k) (he : rg r k = rg s k) : r.take (k + 1) = s.take (k + 1) := by
  unfold rg at he
  rw [List.getElem?_eq_getElem hr, List.getElem?_eq_getElem hs] at he
  rw [List.take_succ_eq_append_getElem hr, List.take_succ_eq_append_getElem hs, h]
  simp at he
  rw [he]
theorem run_rows (d : Nat) (r s : List Int) (hr : r.length = 17) (hs : s.length = 17) (W : World) : ∀ n k : Nat, k + n = 17 → r.take k = s.take k →
    Sem.run Tryz.prog (forIn (List.range' k n) ((none : Option Bool), ()) fun i _ => do
            let a ← part 3 (rowV r) i
            let b ← part 3 (rowV s) i
            let c ← Op.equalIn (d + 1) 3 a b
            if (!c) = true then pure (ForInStep.done (some false, ())) else pure (ForInStep.yield (none, ()))) W = .ok (if r = s then none else some false, ()) W := by
  intro n
  induction n with
  | zero =>
    intro k hk ht
    obtain rfl : k = 17 := by omega
    have e : r = s := by
      have := ht
      rwa [← hr, List.take_length, hr, ← hs, List.take_length] at this
    subst e
    simp
  | succ n ih =>
    intro k hk ht
    have p1 := run_part_int (rowV r) k (rg r k) W (rowV_get r k (by omega))
    have p2 := run_part_int (rowV s) k (rg s k) W (rowV_get s k (by omega))
    rw [List.range'_succ]
    simp only [List.forIn_cons, Sem.run_bind, p1, p2, Result.andThen_ok, run_equalIn_int W d 3 .i64 .i64 _ _ Tryz.underlying3]
    by_cases he : rg r k = rg s k
    · have := ih (k + 1) (by omega) (take_more (by omega) (by omega) ht he)
      rw [he]
      simpa using this
    · have hne : r ≠ s := fun e => he (by rw [e])
      have hb : (rg r k == rg s k) = false := beq_eq_false_iff_ne.2 he
      rw [hb]
      simp [hne]
theorem run_equalIn_row (d : Nat) (r s : List Int) (hr : r.length = 17) (hs : s.length = 17) (W : World) : (Op.equalIn (d + 1 + 1) 130 (.agg (rowV r)) (.agg (rowV s))).run Tryz.prog W = .ok (decide (r = s)) W := by
  have hu : Tryz.prog.underlying 130 = some (.array 17 3) := by kernel_rfl
  have := run_rows d r s hr hs W 17 0 rfl rfl
  rw [Op.equalIn]
  simp only [Sem.run_bind, run_underlying hu, Result.andThen_ok, run_sizeOf_int, Nat.mul_one, Std.Legacy.Range.forIn_eq_forIn_range', Std.Legacy.Range.size, Nat.sub_zero, Nat.add_one_sub_one, Nat.div_one]
  refine (congrArg (fun x => Result.andThen x _) this).trans ?_
  by_cases h : r = s <;> simp [h]
theorem eql_row (r s : List Int) (hr : r.length = 17) (hs : s.length = 17) (W : World) : (binOp .eql 130 (.agg (rowV r)) (.agg (rowV s))).run Tryz.prog W = .ok (.bool (decide (r = s))) W := by
  rw [run_eql_struct, run_equalIn_row 9998 r s hr hs W, Result.andThen_ok]
end Go.Proofs.YtnajbkccaclkcaaGreat

namespace Go.Proofs.YtnajbkccaclkcaaGreat
open Go.RowKit

theorem with_max (A B : Option Addr) (l m : List Dt) (c d : Nat) (w : World) (hl : DotsAt w A l) (hm : DotsAt w B m) (hlen : l.length ≤ 4611686018427387904) (hlen' : m.length ≤ 4611686018427387904) :
    Calls Tryz.prog 85 #[.slice A l.length c, .slice B m.length d, .func (.func 86) #[] #[]] w (RowPost w (maxR (says l) (says m))) :=
  with_greater max (fun x y W => greater_is x y _ W (by omega)) A B l m c d w hl hm hlen hlen'
theorem FreshDots.since {w w1 : World} {l : List Dt} {e : Ending} {w2 : World} (h : FreshDots w1 l e w2) (hk : Kept (fun _ => False) w w1) : FreshDots w l e w2 := by
  obtain ⟨A, c, he, ho, hk2⟩ := h
  exact ⟨A, c, he, own_base ho hk.size, hk.trans hk2 fun _ _ e => e⟩

set_option maxRecDepth 100000 in
set_option maxHeartbeats 1600000 in
theorem Covers_any (A B : Option Addr) (l m : List Dt) (c d : Nat) (w : World) (hl : DotsAt w A l) (hm : DotsAt w B m) (hlen : l.length ≤ 4611686018427387904) (hlen' : m.length ≤ 4611686018427387904) :
    Calls Tryz.prog 58 #[.slice A l.length c, .slice B m.length d] w (BoolPost w (coversR (says l) (says m))) := by
  have HL := Lib.hid hl
  have HM := Lib.hid hm
  clear hl hm
  go_enter Tryz.func58, Tryz.ntmps58
  go_wp2_with (fail)
  refine (with_max A B l m c d _ HL.out HM.out hlen hlen').mono ?_
  rintro e w1 ⟨rfl, hk⟩
  have HK := Lib.hid hk
  clear hk
  go_wp2_with (fail)
  refine (of_any A l c _ (HL.out.fresh HK.out) hlen).mono ?_
  rintro e w2 ⟨rfl, hk⟩
  have HK2 := Lib.hid (HK.out.trans hk fun _ _ e => e)
  have heq := fun W => eql_row (maxR (says l) (says m)) (says l) (zipR_len ..) (Row.says l).len W
  have HC := Lib.hid (covers_max (s := says m) (Row.says l).len)
  clear hk
  go_wp2
  go_ret
  exact ⟨ret_bool HC.out.symm, HK2.out⟩
end Go.Proofs.YtnajbkccaclkcaaGreat

namespace Go.Proofs.YtnajbkccaclkcaaGreat
open Go Go.RowKit

theorem runs_len (l : List Rn) : (runs l).length = l.length * 3 := by
  induction l with
  | nil => rfl
  | cons d l ih => simp only [runs, List.flatMap_cons, List.length_append, List.length_cons, List.length_nil] at ih ⊢; omega
theorem runs_get (l : List Rn) (k : Nat) (hk : k < l.length) : (runs l)[k * 3]? = some (.int .i64 l[k].id.time) ∧ (runs l)[k * 3 + 1]? = some (.int .i64 l[k].id.site) ∧ (runs l)[k * 3 + 2]? = some (.int .i64 l[k].count) := by
  induction l generalizing k with
  | nil => simp at hk
  | cons d l ih =>
    cases k with
    | zero => simp [runs]
    | succ k =>
      have := ih k (by simpa using hk)
      have e1 : (k + 1) * 3 = k * 3 + 3 := by omega
      rw [e1]
      simpa [runs] using this
theorem runs_one (l : List Rn) : ∀ u ∈ runs l, u.oneCell' = true := by
  intro u hu
  simp only [runs, List.mem_flatMap] at hu
  obtain ⟨d, _, hd⟩ := hu
  simp at hd
  rcases hd with rfl | rfl | rfl <;> rfl
theorem runs_app (l : List Rn) (d : Rn) : runs (l ++ [d]) = runs l ++ [.int .i64 d.id.time, .int .i64 d.id.site, .int .i64 d.count] := by simp [runs]
theorem RunsAt.nil {w : World} {A : Option Addr} : RunsAt w A [] := fun k h => absurd h (by simp)
theorem RunsAt.of_own {w : World} {A : Option Addr} {l : List Rn} {base : Nat} {e : TypeId} {n c : Nat} (h : w.ownsRow base e 3 (.slice A n c) n (runs l)) : RunsAt w A l := fun k hlt => by
  have hz := h.1
  rw [runs_len] at hz
  rcases h.2 with ⟨_, h0⟩ | ⟨g, cap, cur, hv, _⟩
  · omega
  · injection hv with hA
    subst hA
    obtain ⟨g0, g1, g2⟩ := runs_get l k hlt
    refine ⟨_, rfl, h.cells (g := g) rfl _ _ g0, ?_, ?_⟩
    · have := h.cells (g := g) rfl _ _ g1
      rw [add_none] at this ⊢
      exact this
    · have := h.cells (g := g) rfl _ _ g2
      rw [add_none] at this ⊢
      exact this
theorem add_off (ad : Addr) (k j : Nat) (h : 0 < j) : (⟨(ad.add k).block, (ad.add k).off + j, none⟩ : Addr) = ad.add (k + j) := by
  unfold Addr.add
  rw [if_neg (show ¬ k + j = 0 by omega)]
  split
  · simp_all
  · simp [Nat.add_assoc]
theorem DotsAt.cells {w : World} {A : Option Addr} {l : List Dt} (h : DotsAt w A l) : ∀ j u, (dots l)[j]? = some u → ∃ ad, A = some ad ∧ w.cell? (ad.add j) = some u := by
  intro j u hj
  have hlt : j < (dots l).length := (List.getElem?_eq_some_iff.1 hj).1
  rw [dots_len] at hlt
  obtain ⟨ad, rfl, x0, x1⟩ := h (j / 2) (by omega)
  obtain ⟨g0, g1⟩ := dots_get l (j / 2) (by omega)
  refine ⟨ad, rfl, ?_⟩
  rw [add_off ad _ 1 (by omega)] at x1
  rcases Nat.mod_two_eq_zero_or_one j with h2 | h2
  · have e : j / 2 * 2 = j := by omega
    rw [e] at x0 g0
    rw [x0, ← g0, hj]
  · have e : j / 2 * 2 + 1 = j := by omega
    rw [e] at g1 x1
    rw [x1, ← g1, hj]
theorem RunsAt.cells {w : World} {A : Option Addr} {l : List Rn} (h : RunsAt w A l) : ∀ j u, (runs l)[j]? = some u → ∃ ad, A = some ad ∧ w.cell? (ad.add j) = some u := by
  intro j u hj
  have hlt : j < (runs l).length := (List.getElem?_eq_some_iff.1 hj).1
  rw [runs_len] at hlt
  obtain ⟨ad, rfl, x0, x1, x2⟩ := h (j / 3) (by omega)
  obtain ⟨g0, g1, g2⟩ := runs_get l (j / 3) (by omega)
  refine ⟨ad, rfl, ?_⟩
  rw [add_off ad _ 1 (by omega)] at x1
  rw [add_off ad _ 2 (by omega)] at x2
  have h3 : j % 3 = 0 ∨ j % 3 = 1 ∨ j % 3 = 2 := by omega
  rcases h3 with h2 | h2 | h2
  · have e : j / 3 * 3 = j := by omega
    rw [e] at x0 g0
    rw [x0, ← g0, hj]
  · have e : j / 3 * 3 + 1 = j := by omega
    rw [e] at g1 x1
    rw [x1, ← g1, hj]
  · have e : j / 3 * 3 + 2 = j := by omega
    rw [e] at g2 x2
    rw [x2, ← g2, hj]

/-- A row stays where a step turns no block of its type. -/
def NoKind (w : World) (S : Nat → Prop) (e : TypeId) : Prop := ∀ k, S k → ∀ cs c, w.heap[k]? ≠ some (.cells cs e c)
theorem Kept.own_kind {S : Nat → Prop} {w w' : World} {base n size : Nat} {e : TypeId} {v : Value} {xs : List Value} (hk : Kept S w w') (hS : NoKind w S e) (h : w.ownsRow base e size v n xs) : w'.ownsRow base e size v n xs :=
  hk.own h fun k hk hs => by
    rcases h.2 with ⟨rfl, _⟩ | ⟨g, cap, cur, rfl, _, hg, _⟩
    · cases hk
    · have e1 : g = k := by simpa [Value.ownBlock] using hk
      subst e1
      exact hS _ hs _ _ hg
theorem own_other {w : World} {b b' s s' n n' : Nat} {e e' : TypeId} {v v' : Value} {xs xs' : List Value} (h : w.ownsRow b e s v n xs) (h' : w.ownsRow b' e' s' v' n' xs') (hne : e ≠ e') : ∀ k, v.ownBlock = some k → v'.ownBlock ≠ some k := by
  intro k hk hk'
  rcases h.2 with ⟨rfl, _⟩ | ⟨g, cap, cur, rfl, _, hg, _⟩
  · cases hk
  · rcases h'.2 with ⟨rfl, _⟩ | ⟨g', cap', cur', rfl, _, hg', _⟩
    · cases hk'
    · simp only [Value.ownBlock, Option.some.injEq] at hk hk'
      subst hk hk'
      rw [hg] at hg'
      injection hg' with e1
      injection e1 with _ e2
      exact hne e2
theorem own_is {w : World} {b s n : Nat} {e : TypeId} {v : Value} {xs : List Value} (h : w.ownsRow b e s v n xs) {k : Nat} (hk : v.ownBlock = some k) : ∃ cs c, w.heap[k]? = some (.cells cs e c) := by
  rcases h.2 with ⟨rfl, _⟩ | ⟨g, cap, cur, rfl, _, hg, _⟩
  · cases hk
  · simp only [Value.ownBlock, Option.some.injEq] at hk
    subst hk
    exact ⟨_, _, hg⟩
theorem NoKind.none {w : World} {e : TypeId} : NoKind w (fun _ => False) e := fun _ h => h.elim

/-- An operation and where its lists lie. -/
structure Lop where
  o : Opr
  dA : Option Addr
  dc : Nat
  gA : Option Addr
  gc : Nat
def Lop.c (x : Lop) : Array Value := x.o.cells x.dA x.dc x.gA x.gc
def Lop.dV (x : Lop) : Value := .slice x.dA x.o.deps.length x.dc
def Lop.gV (x : Lop) : Value := .slice x.gA x.o.gone.length x.gc
theorem Lop.c_size (x : Lop) : x.c.size = 11 := rfl
theorem Opr.cells_one (o : Opr) (dA : Option Addr) (dc : Nat) (gA : Option Addr) (gc : Nat) : (o.cells dA dc gA gc).all (·.oneCell') = true := by simp [Opr.cells, Value.oneCell']
theorem Lop.c_one (x : Lop) : x.c.toList.all (·.oneCell') = true := rfl
def lops (l : List Lop) : List Value := l.flatMap fun x => x.c.toList
theorem lops_len (l : List Lop) : (lops l).length = l.length * 11 := by
  induction l with
  | nil => rfl
  | cons x l ih =>
    have e : lops (x :: l) = x.c.toList ++ lops l := rfl
    rw [e, List.length_append, ih, Array.length_toList, Lop.c_size, List.length_cons]
    omega
theorem lops_app (l : List Lop) (x : Lop) : lops (l ++ [x]) = lops l ++ x.c.toList := by simp [lops]
theorem lops_get (l : List Lop) (k : Nat) (hk : k < l.length) (j : Nat) (hj : j < 11) : (lops l)[k * 11 + j]? = l[k].c.toList[j]? := by
  induction l generalizing k with
  | nil => simp at hk
  | cons x l ih =>
    have e : lops (x :: l) = x.c.toList ++ lops l := rfl
    have hx : x.c.toList.length = 11 := by rw [Array.length_toList, Lop.c_size]
    rw [e]
    cases k with
    | zero => rw [List.getElem?_append_left (by omega)]; simp
    | succ k =>
      rw [List.getElem?_append_right (by omega), hx, show (k + 1) * 11 + j - 11 = k * 11 + j by omega, ih k (by simpa using hk)]
      rfl
theorem lops_one (l : List Lop) : ∀ u ∈ lops l, u.oneCell' = true := by
  intro u hu
  obtain ⟨x, _, hx⟩ := List.mem_flatMap.1 hu
  exact List.all_eq_true.1 x.c_one u hx
/-- Its lists lie there, and nothing is longer than a million. -/
structure Lop.At (w : World) (x : Lop) : Prop where
  d : DotsAt w x.dA x.o.deps
  g : RunsAt w x.gA x.o.gone
/-- Its lists are its own. -/
structure Lop.Own (w : World) (base : Nat) (x : Lop) : Prop where
  d : w.ownsRow base 59 2 x.dV x.o.deps.length (dots x.o.deps)
  g : w.ownsRow base 68 3 x.gV x.o.gone.length (runs x.o.gone)
/-- How much there is of an operation. -/
structure Opr.Small (o : Opr) : Prop where
  counts : ∀ r ∈ o.gone, inI r.count
  dl : o.deps.length ≤ 1000000
  gl : o.gone.length ≤ 1000000
  tl : o.text.size ≤ 1000000
section
variable {w w' : World} {x : Lop} {S : Nat → Prop} {base : Nat}
theorem Lop.Own.at (h : x.Own w base) : x.At w := ⟨DotsAt.of_own h.d, RunsAt.of_own h.g⟩
theorem Lop.At.fresh (h : x.At w) (hk : Kept (fun _ => False) w w') : x.At w' := ⟨h.d.fresh hk, h.g.fresh hk⟩
theorem Lop.At.kept (h : x.At w) (hk : Kept S w w') (hd : ∀ a, x.dA = some a → ¬ S a.block) (hg : ∀ a, x.gA = some a → ¬ S a.block) : x.At w' := ⟨h.d.kept hk hd, h.g.kept hk fun _ => hg⟩
theorem Lop.Own.fresh (h : x.Own w base) (hk : Kept (fun _ => False) w w') : x.Own w' base := ⟨hk.own h.d fun _ _ => id, hk.own h.g fun _ _ => id⟩
theorem Lop.Own.kept (h : x.Own w base) (hk : Kept S w w') (hd : NoKind w S 59) (hg : NoKind w S 68) : x.Own w' base := ⟨hk.own_kind hd h.d, hk.own_kind hg h.g⟩
theorem Lop.Own.mono {b : Nat} (h : x.Own w base) (hb : b ≤ base) : x.Own w b := ⟨own_base h.d hb, own_base h.g hb⟩
end
theorem info_op : (Tryz.prog.info? 64).map (fun i => (i.zero, i.size, i.bytes)) = some (some (.agg #[.int .i64 0, .int .i64 0, .slice none 0 0, .int .i64 0, .int .i64 0, .int .i64 0, .int .i64 0, .int .i64 0, .string ⟨#[]⟩, .slice none 0 0, .int .i64 0]), 11, 128) := by kernel_rfl
theorem size_op : (Tryz.prog.info? 64).map (·.size) = some 11 := by kernel_rfl
theorem eltOps : Elt Tryz.prog 24 64 11 128 := .of Tryz.underlying24 info_op rfl (by decide) (by decide)
theorem eltDots : Elt Tryz.prog 23 59 2 16 := .of Tryz.underlying23 info_dot rfl (by decide) (by decide)
theorem eltRuns : Elt Tryz.prog 62 68 3 24 := .of Tryz.underlying62 info_run rfl (by decide) (by decide)
/-- The operation at place k of a row lies there whole. -/
theorem range_of_row {w : World} {base g n c : Nat} {l : List Lop} (h : w.ownsRow base 64 11 (.slice (some ⟨g, 0, none⟩) n c) n (lops l)) (k : Nat) (hk : k < l.length) : w.rangeAt g (k * 11) l[k].c.toList := by
  intro j v hj
  have hj' : j < 11 := by
    have := (List.getElem?_eq_some_iff.1 hj).1
    rwa [Array.length_toList, Lop.c_size] at this
  have := h.cells (g := g) rfl (k * 11 + j) v (by rw [lops_get l k hk j hj']; exact hj)
  rwa [add_none] at this
section
variable {w : World} {ops : Array Oper} {rest : List Oper} {o : Oper} {a : Act} {Q : Exit → Act → World → Prop}
theorem und_op : ∃ d, Tryz.prog.underlying 64 = some d ∧ d.isRow = true := ⟨.struct (Tryz.prog.fieldsOf 64), by kernel_rfl, rfl⟩
theorem wpList_load_lop (hgd : o.guard = none) (x : Operand) (ho : o.op = .load 64 x) (g k : Nat) (hx : a.eval x = .pointer (some ⟨g, k * 11, none⟩)) {base n c : Nat} (xs : List Lop)
    (hr : w.ownsRow base 64 11 (.slice (some ⟨g, 0, none⟩) n c) n (lops xs)) (hk : k < xs.length) (cs : Array Value) (hcs : xs[k].c = cs)
    (h : wpList Tryz.prog ops Q rest (a.put o.dst (.agg cs)) w) : wpList Tryz.prog ops Q (o :: rest) a w := by
  obtain ⟨d, hu, hd⟩ := und_op
  refine wpList_load_mid hgd _ x ho g (k * 11) hx xs[k].c.toList d (range_of_row hr k hk) hu hd (by rw [Array.length_toList]; exact size_op) ?_
  rw [Array.toArray_toList, hcs]
  exact h
theorem run_load_op (op : Oper) (x : Operand) (ho : op.op = .load 64 x) (g : Nat) (hx : a.eval x = .pointer (some ⟨g, 0, none⟩)) (t : TypeId) (cs : Array Value) (hs : cs.size = 11) (hg : Box w g t cs) :
    (execOp a.eval op).run Tryz.prog w = .ok (.value (.agg cs)) w := by
  obtain ⟨d, hu, hd⟩ := und_op
  have hc : w.rangeAt g 0 cs.toList := fun j v hj => by rw [Nat.zero_add, hg.cell j]; simpa using hj
  have := run_loadVar_mid (P := Tryz.prog) w g 0 64 cs.toList d hc hu hd (by rw [Array.length_toList, hs]; exact size_op)
  rw [Array.toArray_toList] at this
  unfold execOp
  simp only [ho, hx, Instr.loadAt, Instr.sureAddr, Sem.run_bind, Sem.run_pure, Result.andThen_ok, this]
theorem wpList_load_op (hgd : o.guard = none) (x : Operand) (ho : o.op = .load 64 x) (g : Nat) (hx : a.eval x = .pointer (some ⟨g, 0, none⟩)) (t : TypeId) (cs : Array Value) (hs : cs.size = 11) (hg : Box w g t cs)
    (h : wpList Tryz.prog ops Q rest (a.put o.dst (.agg cs)) w) : wpList Tryz.prog ops Q (o :: rest) a w := by
  obtain ⟨d, hu, hd⟩ := und_op
  exact wpList_load_box hgd _ x ho g hx t cs d hg hu (by cases d <;> simp_all) (by rw [hs]; exact size_op) h
end
def opZ : Array Value := #[.int .i64 0, .int .i64 0, .slice none 0 0, .int .i64 0, .int .i64 0, .int .i64 0, .int .i64 0, .int .i64 0, .string ⟨#[]⟩, .slice none 0 0, .int .i64 0]

theorem built_op (o : Opr) (dA : Option Addr) (dc : Nat) (gA : Option Addr) (gc : Nat) : Tryz.prog.builtSlice 64 1 [(0, .agg (o.cells dA dc gA gc))] = some (o.cells dA dc gA gc) := by
  obtain ⟨i, z, hi, hz, hsz, hby, hzs⟩ := eltOps.info
  obtain ⟨i', hi', hz', _⟩ := info_parts info_op
  obtain rfl : i = i' := by rw [hi] at hi'; injection hi'
  obtain rfl := Option.some.inj (hz.symm.trans hz')
  unfold Program.builtSlice
  simp only [hi, hz, hsz]
  rw [if_neg (by decide)]
  kernel_rfl
theorem wpList_one_op {ops : Array Oper} {rest : List Oper} {o : Oper} {a : Act} {w : World} {Q : Exit → Act → World → Prop} (hg : o.guard = none) (x0 : Operand)
    (ho : o.op = .buildSlice 24 1 #[(0, x0)]) (x : Lop) (cs : Array Value) (hcs : x.c = cs) (h0 : a.eval x0 = .agg cs)
    (h : wpList Tryz.prog ops Q rest (a.put o.dst (.slice (some ⟨w.heap.size, 0, none⟩) 1 1)) (w.alloc (.cells cs 64))) :
    wpList Tryz.prog ops Q (o :: rest) a w := by
  refine Great.wpList_buildSliceTo hg _ 64 1 _ ho _ rfl _ rfl Tryz.underlying24 _ ?_ h
  have e : (#[(0, x0)].map fun ((i, x) : Nat × Operand) => (i, a.eval x)).toList = [(0, a.eval x0)] := by simp
  rw [e, h0, ← hcs]
  exact built_op ..
end Go.Proofs.YtnajbkccaclkcaaGreat

namespace Go.Proofs.YtnajbkccaclkcaaGreat
open Go.ChangeShapes Go.WideShapes Go.ChangeAt Go.RowKit Go.Deep

theorem list_of {α : Type} (p : Nat → α → Prop) : ∀ n : Nat, (∀ i, i < n → ∃ x, p i x) → ∃ l : List α, l.length = n ∧ ∀ i (h : i < l.length), p i l[i]
  | 0, _ => ⟨[], rfl, fun i h => absurd h (by simp)⟩
  | n + 1, h => by
    obtain ⟨l, hl, hp⟩ := list_of p n fun i hi => h i (by omega)
    obtain ⟨x, hx⟩ := h n (by omega)
    refine ⟨l ++ [x], by simp [hl], fun i hi => ?_⟩
    by_cases hil : i < l.length
    · rw [List.getElem_append_left hil]; exact hp i hil
    · have : i = n := by simp at hi; omega
      subst this
      rw [List.getElem_append_right (by omega)]
      simpa using hx
theorem bulk_one {H : Type} (d : DataW H) : 1 ≤ Rows.uptoBulk d := by
  cases d with
  | lit l => cases l <;> simp [Rows.uptoBulk]
  | nil => simp [Rows.uptoBulk]
  | ptr d => simp [Rows.uptoBulk]
  | slice elems spare => simp [Rows.uptoBulk]
  | agg parts => simp [Rows.uptoBulk]
  | iface t d => simp [Rows.uptoBulk]
  | map entries => simp [Rows.uptoBulk]
  | held h => simp [Rows.uptoBulk]
theorem bulk_len {H : Type} (l : List (DataW H)) : l.length ≤ Rows.uptoBulkAll l := by
  induction l with
  | nil => simp [Rows.uptoBulkAll]
  | cons x r ih => have := bulk_one x; simp only [Rows.uptoBulkAll, List.length_cons]; omega
theorem bulk_slice {H : Type} (elems spare : List (DataW H)) : elems.length ≤ Rows.uptoBulk (.slice elems spare) := by
  have h1 := bulk_len elems
  simp only [Rows.uptoBulk]
  omega
theorem bulk_part {H : Type} {d : DataW H} {l : List (DataW H)} (h : d ∈ l) : Rows.uptoBulk d ≤ Rows.uptoBulkAll l := by
  induction l with
  | nil => cases h
  | cons x r ih =>
    simp only [Rows.uptoBulkAll]
    cases List.mem_cons.1 h with
    | inl e => subst e; omega
    | inr e => have := ih e; omega
theorem bulk_app {H : Type} (l r : List (DataW H)) : Rows.uptoBulkAll (l ++ r) = Rows.uptoBulkAll l + Rows.uptoBulkAll r := by
  induction l with
  | nil => simp [Rows.uptoBulkAll]
  | cons x l ih => simp only [List.cons_append, Rows.uptoBulkAll, ih]; omega
/-- What the bound gives of each argument. -/
theorem bulk_of {H : Type} {ds gs : List (DataW H)} (hk : Rows.uptoSmall H (ds ++ gs) = true) : ∀ d ∈ ds, Rows.uptoBulk d ≤ 1048576 := fun d hd => by
  have h : Rows.uptoBulkAll (ds ++ gs) ≤ 1048576 := of_decide_eq_true hk
  rw [bulk_app] at h
  have := bulk_part hd
  omega
section
variable {H : Type} {enc : TypeId × Value → H} {w : World} {base : Nat} {spare : Nat → Bool} {held : Bool}
theorem wf_inI {n : Int} (h : (Lit.int .i64 n).wf = true) : inI n := by
  have h1 : IntKind.i64.min = -9223372036854775808 := by kernel_rfl
  have h2 : IntKind.i64.max = 9223372036854775807 := by kernel_rfl
  simp only [Lit.wf, Bool.and_eq_true, decide_eq_true_eq, h1, h2] at h
  exact h
theorem trod_int' {fuel : Nat} {cs : List Value} {y : DataW H × List MemPlace} (h : DataW.trod enc Tryz.prog w base spare held fuel 3 cs = some y) : ∃ n : Int, cs = [.int .i64 n] ∧ inI n := by
  obtain ⟨n, h1, _, h3⟩ := DataW.trod_int Tryz.underlying3 h
  exact ⟨n, h1, wf_inI h3⟩
/-- A struct's field, by its place. -/
theorem trod_field {t : TypeId} {fs : Array Field} (ht : Tryz.prog.underlying t = some (.struct fs)) {fuel : Nat} {cs : List Value} {y : DataW H × List MemPlace} (h : DataW.trod enc Tryz.prog w base spare held fuel t cs = some y) :
    cs.length = Tryz.prog.cellsOf t ∧ ∃ n, ∀ (i : Nat) (f : Field), fs[i]? = some f → ∃ z, DataW.trod enc Tryz.prog w base spare held n f.type ((cs.drop f.offset).take (Tryz.prog.cellsOf f.type)) = some z := by
  obtain ⟨xs, n, _, _, hl, hxl, hf⟩ := DataW.trod_struct ht h
  refine ⟨hl, n, fun i f hi => ?_⟩
  have hlt : i < xs.length := by rw [hxl]; exact (Array.getElem?_eq_some_iff.1 hi).1
  exact ⟨xs[i], by rw [hf i f hi, List.getElem?_eq_getElem hlt]⟩
theorem list2 {l : List Value} (h : l.length = 2) : ∃ a b, l = [a, b] := by
  match l, h with
  | [a, b], _ => exact ⟨a, b, rfl⟩
theorem list3 {l : List Value} (h : l.length = 3) : ∃ a b c, l = [a, b, c] := by
  match l, h with
  | [a, b, c], _ => exact ⟨a, b, c, rfl⟩
set_option maxRecDepth 100000 in
theorem trod_dot {fuel : Nat} {cs : List Value} {y : DataW H × List MemPlace} (h : DataW.trod enc Tryz.prog w base spare held fuel 59 cs = some y) : ∃ d : Dt, cs = [.int .i64 d.site, .int .i64 d.seq] := by
  obtain ⟨hl, n, hf⟩ := trod_field Tryz.underlying59 h
  obtain ⟨a, b, rfl⟩ := list2 (hl.trans (by kernel_rfl))
  obtain ⟨z0, h0⟩ := hf 0 _ rfl
  obtain ⟨z1, h1⟩ := hf 1 _ rfl
  obtain ⟨x0, e0, _⟩ := trod_int' h0
  obtain ⟨x1, e1, _⟩ := trod_int' h1
  have e0' : [a] = [Value.int .i64 x0] := e0
  have e1' : [b] = [Value.int .i64 x1] := e1
  injection e0' with e0'
  injection e1' with e1'
  exact ⟨⟨x0, x1⟩, by rw [e0', e1']⟩
set_option maxRecDepth 100000 in
theorem trod_id {fuel : Nat} {cs : List Value} {y : DataW H × List MemPlace} (h : DataW.trod enc Tryz.prog w base spare held fuel 61 cs = some y) : ∃ d : Idt, cs = [.int .i64 d.time, .int .i64 d.site] := by
  obtain ⟨hl, n, hf⟩ := trod_field Tryz.underlying61 h
  obtain ⟨a, b, rfl⟩ := list2 (hl.trans (by kernel_rfl))
  obtain ⟨z0, h0⟩ := hf 0 _ rfl
  obtain ⟨z1, h1⟩ := hf 1 _ rfl
  obtain ⟨x0, e0, _⟩ := trod_int' h0
  obtain ⟨x1, e1, _⟩ := trod_int' h1
  have e0' : [a] = [Value.int .i64 x0] := e0
  have e1' : [b] = [Value.int .i64 x1] := e1
  injection e0' with e0'
  injection e1' with e1'
  exact ⟨⟨x0, x1⟩, by rw [e0', e1']⟩
set_option maxRecDepth 100000 in
theorem trod_run {fuel : Nat} {cs : List Value} {y : DataW H × List MemPlace} (h : DataW.trod enc Tryz.prog w base spare held fuel 68 cs = some y) : ∃ d : Rn, cs = [.int .i64 d.id.time, .int .i64 d.id.site, .int .i64 d.count] ∧ inI d.count := by
  obtain ⟨hl, n, hf⟩ := trod_field Tryz.underlying68 h
  obtain ⟨a, b, c, rfl⟩ := list3 (hl.trans (by kernel_rfl))
  obtain ⟨z0, h0⟩ := hf 0 _ rfl
  obtain ⟨z1, h1⟩ := hf 1 _ rfl
  obtain ⟨x0, e0⟩ := trod_id h0
  obtain ⟨x1, e1, hi⟩ := trod_int' h1
  have e0' : [a, b] = [Value.int .i64 x0.time, .int .i64 x0.site] := e0
  have e1' : [c] = [Value.int .i64 x1] := e1
  injection e0' with e0' e00
  injection e00 with e00
  injection e1' with e1'
  exact ⟨⟨x0, x1⟩, by rw [e0', e00, e1'], hi⟩
set_option maxRecDepth 100000 in
/-- A list of Dots. -/
theorem trod_dots {fuel : Nat} {cs : List Value} {y : DataW H × List MemPlace} (h : DataW.trod enc Tryz.prog w base spare held fuel 23 cs = some y) :
    ∃ (A : Option Addr) (c : Nat) (l : List Dt), cs = [.slice A l.length c] ∧ DotsAt w A l ∧ (A = none → c = 0) ∧ l.length ≤ Rows.uptoBulk y.1 := by
  rcases open_slice Tryz.underlying23 h with ⟨hc, _⟩ | ⟨a, len, cap, m, n, D, Pl, hc, hb, hl, hm, hmm, hx, hi⟩
  · exact ⟨none, 0, [], hc, DotsAt.nil, fun _ => rfl, Nat.zero_le _⟩
  · have hlm : len ≤ m := by rw [hmm]; split <;> omega
    obtain ⟨l, hll, hp⟩ := list_of (fun i (x : Dt) => w.cell? (a.add (i * 2)) = some (.int .i64 x.site) ∧ w.cell? ⟨(a.add (i * 2)).block, (a.add (i * 2)).off + 1, none⟩ = some (.int .i64 x.seq)) len fun i hil => by
      obtain ⟨cs', hcs, ht⟩ := hi i (by omega)
      have hC : Tryz.prog.cellsOf 59 = 2 := by kernel_rfl
      rw [hC] at hcs
      obtain ⟨_, hcl, hat⟩ := World.cells?_some hcs
      obtain ⟨d, rfl⟩ := trod_dot ht
      have c0 := hat 0 (by omega)
      have c1 := hat 1 (by omega)
      refine ⟨d, ?_, ?_⟩
      · rw [Go.Deep.add_add] at c0; exact c0
      · rw [add_off a _ 1 (by omega), ← Go.Deep.add_add]; exact c1
    exact ⟨some a, cap, l, by rw [hc, hll], fun k h => ⟨a, rfl, hp k h⟩, (fun e => by cases e), by rw [hx, hll]; refine Nat.le_trans ?_ (bulk_slice _ _); simp⟩
set_option maxRecDepth 100000 in
/-- A list of runs. -/
theorem trod_runs {fuel : Nat} {cs : List Value} {y : DataW H × List MemPlace} (h : DataW.trod enc Tryz.prog w base spare held fuel 62 cs = some y) :
    ∃ (A : Option Addr) (c : Nat) (l : List Rn), cs = [.slice A l.length c] ∧ RunsAt w A l ∧ (∀ r ∈ l, inI r.count) ∧ (A = none → c = 0) := by
  rcases open_slice Tryz.underlying62 h with ⟨hc, _⟩ | ⟨a, len, cap, m, n, D, Pl, hc, hb, hl, hm, hmm, hx, hi⟩
  · exact ⟨none, 0, [], hc, RunsAt.nil, fun r hr => absurd hr (by simp), fun _ => rfl⟩
  · have hlm : len ≤ m := by rw [hmm]; split <;> omega
    obtain ⟨l, hll, hp⟩ := list_of (fun i (x : Rn) => (w.cell? (a.add (i * 3)) = some (.int .i64 x.id.time) ∧ w.cell? ⟨(a.add (i * 3)).block, (a.add (i * 3)).off + 1, none⟩ = some (.int .i64 x.id.site) ∧ w.cell? ⟨(a.add (i * 3)).block, (a.add (i * 3)).off + 2, none⟩ = some (.int .i64 x.count)) ∧ inI x.count) len fun i hil => by
      obtain ⟨cs', hcs, ht⟩ := hi i (by omega)
      have hC : Tryz.prog.cellsOf 68 = 3 := by kernel_rfl
      rw [hC] at hcs
      obtain ⟨_, hcl, hat⟩ := World.cells?_some hcs
      obtain ⟨d, rfl, hd⟩ := trod_run ht
      have c0 := hat 0 (by omega)
      have c1 := hat 1 (by omega)
      have c2 := hat 2 (by omega)
      refine ⟨d, ⟨?_, ?_, ?_⟩, hd⟩
      · rw [Go.Deep.add_add] at c0; exact c0
      · rw [add_off a _ 1 (by omega), ← Go.Deep.add_add]; exact c1
      · rw [add_off a _ 2 (by omega), ← Go.Deep.add_add]; exact c2
    refine ⟨some a, cap, l, by rw [hc, hll], fun k h => ⟨a, rfl, (hp k h).1⟩, fun r hr => ?_, fun e => by cases e⟩
    obtain ⟨k, hk, rfl⟩ := List.getElem_of_mem hr
    exact (hp k hk).2
/-- An operation as it is handed in. -/
structure Lop.Arg (w : World) (x : Lop) : Prop where
  at_ : x.At w
  counts : ∀ r ∈ x.o.gone, inI r.count
  nd : x.dA = none → x.dc = 0
  ng : x.gA = none → x.gc = 0
  tl : x.o.text.size ≤ maxLen
set_option maxRecDepth 100000 in
theorem trod_op {fuel : Nat} {cs : List Value} {y : DataW H × List MemPlace} (h : DataW.trod enc Tryz.prog w base spare held fuel 64 cs = some y) : ∃ x : Lop, cs = x.c.toList ∧ x.Arg w := by
  obtain ⟨hl, n, hf⟩ := trod_field Tryz.underlying64 h
  have hl' : cs.length = 11 := hl.trans (by kernel_rfl)
  match cs, hl' with
  | [a0, a1, a2, a3, a4, a5, a6, a7, a8, a9, a10], _ =>
  obtain ⟨z0, h0⟩ := hf 0 _ rfl
  obtain ⟨z1, h1⟩ := hf 1 _ rfl
  obtain ⟨z2, h2⟩ := hf 2 _ rfl
  obtain ⟨z3, h3⟩ := hf 3 _ rfl
  obtain ⟨z4, h4⟩ := hf 4 _ rfl
  obtain ⟨z5, h5⟩ := hf 5 _ rfl
  obtain ⟨z6, h6⟩ := hf 6 _ rfl
  obtain ⟨z7, h7⟩ := hf 7 _ rfl
  obtain ⟨d, e0⟩ := trod_dot h0
  obtain ⟨dA, dc, dl, e1, hd1, hd2, _⟩ := trod_dots h1
  obtain ⟨kind, e2, _⟩ := trod_int' h2
  obtain ⟨id, e3⟩ := trod_id h3
  obtain ⟨ref, e4⟩ := trod_id h4
  obtain ⟨text, e5, _, ht⟩ := DataW.trod_string Tryz.underlying9 h5
  obtain ⟨gA, gc, gl, e6, hg1, hg2, hg3⟩ := trod_runs h6
  obtain ⟨site, e7, _⟩ := trod_int' h7
  have f0 : [a0, a1] = [Value.int .i64 d.site, .int .i64 d.seq] := e0
  have f1 : [a2] = [Value.slice dA dl.length dc] := e1
  have f2 : [a3] = [Value.int .i64 kind] := e2
  have f3 : [a4, a5] = [Value.int .i64 id.time, .int .i64 id.site] := e3
  have f4 : [a6, a7] = [Value.int .i64 ref.time, .int .i64 ref.site] := e4
  have f5 : [a8] = [Value.string text] := e5
  have f6 : [a9] = [Value.slice gA gl.length gc] := e6
  have f7 : [a10] = [Value.int .i64 site] := e7
  simp only [List.cons.injEq, and_true] at f0 f1 f2 f3 f4 f5 f6 f7
  obtain ⟨rfl, rfl⟩ := f0
  obtain ⟨rfl, rfl⟩ := f3
  obtain ⟨rfl, rfl⟩ := f4
  subst f1 f2 f5 f6 f7
  exact ⟨⟨⟨d, dl, kind, id, ref, text, gl, site⟩, dA, dc, gA, gc⟩, rfl, ⟨hd1, hg1⟩, hg2, hd2, hg3, ht⟩
set_option maxRecDepth 100000 in
theorem open_dots {b0 : Nat} {r : Reach} {v : Value} {d : DataW H} {p : List MemPlace}
    (hv : Value.okWide Tryz.prog w r b0 23 v) (h : DataW.Trod enc Tryz.prog w base spare held 23 v d p) :
    ∃ (A : Option Addr) (c : Nat) (l : List Dt), v = .slice A l.length c ∧ DotsAt w A l ∧ (A = none → c = 0) ∧ l.length ≤ Rows.uptoBulk d := by
  obtain ⟨a0, len0, cap0, rfl⟩ := okWide_slice Tryz.underlying23 hv
  obtain ⟨fuel, hf⟩ := h
  obtain ⟨A, c, l, hc, hd, hn, hb⟩ := trod_dots hf
  simp only [Value.cells] at hc
  injection hc with hc _
  exact ⟨A, c, l, hc, hd, hn, hb⟩
set_option maxRecDepth 100000 in
theorem open_op {b0 : Nat} {r : Reach} {v : Value} {d : DataW H} {p : List MemPlace}
    (hv : Value.okWide Tryz.prog w r b0 64 v) (h : DataW.Trod enc Tryz.prog w base spare held 64 v d p) : ∃ x : Lop, v = .agg x.c ∧ x.Arg w := by
  obtain ⟨cs, rfl, hsz⟩ := okWide_struct Tryz.underlying64 hv
  obtain ⟨fuel, hf⟩ := h
  obtain ⟨x, hx, hA⟩ := trod_op hf
  refine ⟨x, ?_, hA⟩
  have : cs.toList = x.c.toList := hx
  rw [Array.toList_inj.1 this]
end
end Go.Proofs.YtnajbkccaclkcaaGreat
