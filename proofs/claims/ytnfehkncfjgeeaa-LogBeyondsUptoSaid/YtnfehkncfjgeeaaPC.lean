/- Opening an argument that is an operation, a list of Dots, a list of runs, a script of steps. No condition. · The row's last step for a law: it returns true, and below the old heap's end nothing has turned: so each argument reads as it did. No condition. · Opening an argument that is a script: its lists as Go has them. No condition. · LogBeyonds returns true for any scripts, vector and number, and leaves what was there as it was. Condition: the arguments are together of bulk at most the number in the Rows text. -/
import Derived.Test.YtnfehkncfjgeeaaJA
import Derived.ProofKit
import Derived.OpenShut
import Derived.Deep.Slices
import Derived.Deep.Fields
import Derived.ChangeSame
import Derived.ChangeSlices
import Derived.Lib.SmallJoins
import Derived.Test.YtnfehkncfjgeeaaRows
import Derived.Test.YtnfehkncfjgeeaaBase
import Derived.Test.YtnfehkncfjgeeaaPG
import Derived.Test.YtnfehkncfjgeeaaPB
import Derived.JoinedCond
namespace Go.Proofs.Ytnfehkncfjgeeaa
open Go.ChangeShapes Go.WideShapes Go.ChangeAt Go.RowKit Go.Deep

theorem list_of {α : Type} (p : Nat → α → Prop) : ∀ n : Nat, (∀ i, i < n → ∃ x, p i x) → ∃ l : List α, l.length = n ∧ ∀ i (h : i < l.length), p i l[i]
  | 0, _ => ⟨[], rfl, fun i h => absurd h (by simp)⟩
  | n + 1, h => by
    obtain ⟨l, hl, hp⟩ := list_of p n fun i hi => h i (by omega)
    obtain ⟨x, hx⟩ := h n (by omega)
    refine ⟨l ++ [x], by simp [hl], fun i hi => ?_⟩
    by_cases hil : i < l.length
    · rw [List.getElem_append_left hil]; exact hp i hil
    · have : i = n := by simp at hi; omega
      subst this
      rw [List.getElem_append_right (by omega)]
      simpa using hx
theorem bulk_one {H : Type} (d : DataW H) : 1 ≤ Rows.uptoBulk d := by
  cases d with
  | lit l => cases l <;> simp [Rows.uptoBulk]
  | nil => simp [Rows.uptoBulk]
  | ptr d => simp [Rows.uptoBulk]
  | slice elems spare => simp [Rows.uptoBulk]
  | agg parts => simp [Rows.uptoBulk]
  | iface t d => simp [Rows.uptoBulk]
  | map entries => simp [Rows.uptoBulk]
  | held h => simp [Rows.uptoBulk]
theorem bulk_len {H : Type} (l : List (DataW H)) : l.length ≤ Rows.uptoBulkAll l := by
  induction l with
  | nil => simp [Rows.uptoBulkAll]
  | cons x r ih => have := bulk_one x; simp only [Rows.uptoBulkAll, List.length_cons]; omega
theorem bulk_slice {H : Type} (elems spare : List (DataW H)) : elems.length ≤ Rows.uptoBulk (.slice elems spare) := by
  have h1 := bulk_len elems
  simp only [Rows.uptoBulk]
  omega
theorem bulk_part {H : Type} {d : DataW H} {l : List (DataW H)} (h : d ∈ l) : Rows.uptoBulk d ≤ Rows.uptoBulkAll l := by
  induction l with
  | nil => cases h
  | cons x r ih =>
    simp only [Rows.uptoBulkAll]
    cases List.mem_cons.1 h with
    | inl e => subst e; omega
    | inr e => have := ih e; omega
theorem bulk_app {H : Type} (l r : List (DataW H)) : Rows.uptoBulkAll (l ++ r) = Rows.uptoBulkAll l + Rows.uptoBulkAll r := by
  induction l with
  | nil => simp [Rows.uptoBulkAll]
  | cons x l ih => simp only [List.cons_append, Rows.uptoBulkAll, ih]; omega
/-- What the bound gives of each argument. -/
theorem bulk_of {H : Type} {ds gs : List (DataW H)} (hk : Rows.uptoSmall H (ds ++ gs) = true) : ∀ d ∈ ds, Rows.uptoBulk d ≤ 1048576 := fun d hd => by
  have h : Rows.uptoBulkAll (ds ++ gs) ≤ 1048576 := of_decide_eq_true hk
  rw [bulk_app] at h
  have := bulk_part hd
  omega
section
variable {H : Type} {enc : TypeId × Value → H} {w : World} {base : Nat} {spare : Nat → Bool} {held : Bool}
theorem wf_inI {n : Int} (h : (Lit.int .i64 n).wf = true) : inI n := by
  have h1 : IntKind.i64.min = -9223372036854775808 := by kernel_rfl
  have h2 : IntKind.i64.max = 9223372036854775807 := by kernel_rfl
  simp only [Lit.wf, Bool.and_eq_true, decide_eq_true_eq, h1, h2] at h
  exact h
theorem trod_int' {fuel : Nat} {cs : List Value} {y : DataW H × List MemPlace} (h : DataW.trod enc Try.prog w base spare held fuel 3 cs = some y) : ∃ n : Int, cs = [.int .i64 n] ∧ inI n := by
  obtain ⟨n, h1, _, h3⟩ := DataW.trod_int Try.underlying3 h
  exact ⟨n, h1, wf_inI h3⟩
/-- A struct's field, by its place. -/
theorem trod_field {t : TypeId} {fs : Array Field} (ht : Try.prog.underlying t = some (.struct fs)) {fuel : Nat} {cs : List Value} {y : DataW H × List MemPlace} (h : DataW.trod enc Try.prog w base spare held fuel t cs = some y) :
    cs.length = Try.prog.cellsOf t ∧ ∃ n, ∀ (i : Nat) (f : Field), fs[i]? = some f → ∃ z, DataW.trod enc Try.prog w base spare held n f.type ((cs.drop f.offset).take (Try.prog.cellsOf f.type)) = some z := by
  obtain ⟨xs, n, _, _, hl, hxl, hf⟩ := DataW.trod_struct ht h
  refine ⟨hl, n, fun i f hi => ?_⟩
  have hlt : i < xs.length := by rw [hxl]; exact (Array.getElem?_eq_some_iff.1 hi).1
  exact ⟨xs[i], by rw [hf i f hi, List.getElem?_eq_getElem hlt]⟩
theorem list2 {l : List Value} (h : l.length = 2) : ∃ a b, l = [a, b] := by
  match l, h with
  | [a, b], _ => exact ⟨a, b, rfl⟩
theorem list3 {l : List Value} (h : l.length = 3) : ∃ a b c, l = [a, b, c] := by
  match l, h with
  | [a, b, c], _ => exact ⟨a, b, c, rfl⟩
set_option maxRecDepth 100000 in
theorem trod_dot {fuel : Nat} {cs : List Value} {y : DataW H × List MemPlace} (h : DataW.trod enc Try.prog w base spare held fuel 28 cs = some y) : ∃ d : Dt, cs = [.int .i64 d.site, .int .i64 d.seq] := by
  obtain ⟨hl, n, hf⟩ := trod_field Try.underlying28 h
  obtain ⟨a, b, rfl⟩ := list2 (hl.trans (by kernel_rfl))
  obtain ⟨z0, h0⟩ := hf 0 _ rfl
  obtain ⟨z1, h1⟩ := hf 1 _ rfl
  obtain ⟨x0, e0, _⟩ := trod_int' h0
  obtain ⟨x1, e1, _⟩ := trod_int' h1
  have e0' : [a] = [Value.int .i64 x0] := e0
  have e1' : [b] = [Value.int .i64 x1] := e1
  injection e0' with e0'
  injection e1' with e1'
  exact ⟨⟨x0, x1⟩, by rw [e0', e1']⟩
set_option maxRecDepth 100000 in
theorem trod_id {fuel : Nat} {cs : List Value} {y : DataW H × List MemPlace} (h : DataW.trod enc Try.prog w base spare held fuel 42 cs = some y) : ∃ d : Idt, cs = [.int .i64 d.time, .int .i64 d.site] := by
  obtain ⟨hl, n, hf⟩ := trod_field Try.underlying42 h
  obtain ⟨a, b, rfl⟩ := list2 (hl.trans (by kernel_rfl))
  obtain ⟨z0, h0⟩ := hf 0 _ rfl
  obtain ⟨z1, h1⟩ := hf 1 _ rfl
  obtain ⟨x0, e0, _⟩ := trod_int' h0
  obtain ⟨x1, e1, _⟩ := trod_int' h1
  have e0' : [a] = [Value.int .i64 x0] := e0
  have e1' : [b] = [Value.int .i64 x1] := e1
  injection e0' with e0'
  injection e1' with e1'
  exact ⟨⟨x0, x1⟩, by rw [e0', e1']⟩
set_option maxRecDepth 100000 in
theorem trod_run {fuel : Nat} {cs : List Value} {y : DataW H × List MemPlace} (h : DataW.trod enc Try.prog w base spare held fuel 87 cs = some y) : ∃ d : Rn, cs = [.int .i64 d.id.time, .int .i64 d.id.site, .int .i64 d.count] ∧ inI d.count := by
  obtain ⟨hl, n, hf⟩ := trod_field Try.underlying87 h
  obtain ⟨a, b, c, rfl⟩ := list3 (hl.trans (by kernel_rfl))
  obtain ⟨z0, h0⟩ := hf 0 _ rfl
  obtain ⟨z1, h1⟩ := hf 1 _ rfl
  obtain ⟨x0, e0⟩ := trod_id h0
  obtain ⟨x1, e1, hi⟩ := trod_int' h1
  have e0' : [a, b] = [Value.int .i64 x0.time, .int .i64 x0.site] := e0
  have e1' : [c] = [Value.int .i64 x1] := e1
  injection e0' with e0' e00
  injection e00 with e00
  injection e1' with e1'
  exact ⟨⟨x0, x1⟩, by rw [e0', e00, e1'], hi⟩
set_option maxRecDepth 100000 in
/-- A list of Dots. -/
theorem trod_dots {fuel : Nat} {cs : List Value} {y : DataW H × List MemPlace} (h : DataW.trod enc Try.prog w base spare held fuel 23 cs = some y) :
    ∃ (A : Option Addr) (c : Nat) (l : List Dt), cs = [.slice A l.length c] ∧ DotsAt w A l ∧ (A = none → c = 0) ∧ l.length ≤ Rows.uptoBulk y.1 := by
  rcases open_slice Try.underlying23 h with ⟨hc, _⟩ | ⟨a, len, cap, m, n, D, Pl, hc, hb, hl, hm, hmm, hx, hi⟩
  · exact ⟨none, 0, [], hc, DotsAt.nil, fun _ => rfl, Nat.zero_le _⟩
  · have hlm : len ≤ m := by rw [hmm]; split <;> omega
    obtain ⟨l, hll, hp⟩ := list_of (fun i (x : Dt) => w.cell? (a.add (i * 2)) = some (.int .i64 x.site) ∧ w.cell? ⟨(a.add (i * 2)).block, (a.add (i * 2)).off + 1, none⟩ = some (.int .i64 x.seq)) len fun i hil => by
      obtain ⟨cs', hcs, ht⟩ := hi i (by omega)
      have hC : Try.prog.cellsOf 28 = 2 := by kernel_rfl
      rw [hC] at hcs
      obtain ⟨_, hcl, hat⟩ := World.cells?_some hcs
      obtain ⟨d, rfl⟩ := trod_dot ht
      have c0 := hat 0 (by omega)
      have c1 := hat 1 (by omega)
      refine ⟨d, ?_, ?_⟩
      · rw [Go.Deep.add_add] at c0; exact c0
      · rw [add_off a _ 1 (by omega), ← Go.Deep.add_add]; exact c1
    exact ⟨some a, cap, l, by rw [hc, hll], fun k h => ⟨a, rfl, hp k h⟩, (fun e => by cases e), by rw [hx, hll]; refine Nat.le_trans ?_ (bulk_slice _ _); simp⟩
set_option maxRecDepth 100000 in
/-- A list of runs. -/
theorem trod_runs {fuel : Nat} {cs : List Value} {y : DataW H × List MemPlace} (h : DataW.trod enc Try.prog w base spare held fuel 43 cs = some y) :
    ∃ (A : Option Addr) (c : Nat) (l : List Rn), cs = [.slice A l.length c] ∧ RunsAt w A l ∧ (∀ r ∈ l, inI r.count) ∧ (A = none → c = 0) := by
  rcases open_slice Try.underlying43 h with ⟨hc, _⟩ | ⟨a, len, cap, m, n, D, Pl, hc, hb, hl, hm, hmm, hx, hi⟩
  · exact ⟨none, 0, [], hc, RunsAt.nil, fun r hr => absurd hr (by simp), fun _ => rfl⟩
  · have hlm : len ≤ m := by rw [hmm]; split <;> omega
    obtain ⟨l, hll, hp⟩ := list_of (fun i (x : Rn) => (w.cell? (a.add (i * 3)) = some (.int .i64 x.id.time) ∧ w.cell? ⟨(a.add (i * 3)).block, (a.add (i * 3)).off + 1, none⟩ = some (.int .i64 x.id.site) ∧ w.cell? ⟨(a.add (i * 3)).block, (a.add (i * 3)).off + 2, none⟩ = some (.int .i64 x.count)) ∧ inI x.count) len fun i hil => by
      obtain ⟨cs', hcs, ht⟩ := hi i (by omega)
      have hC : Try.prog.cellsOf 87 = 3 := by kernel_rfl
      rw [hC] at hcs
      obtain ⟨_, hcl, hat⟩ := World.cells?_some hcs
      obtain ⟨d, rfl, hd⟩ := trod_run ht
      have c0 := hat 0 (by omega)
      have c1 := hat 1 (by omega)
      have c2 := hat 2 (by omega)
      refine ⟨d, ⟨?_, ?_, ?_⟩, hd⟩
      · rw [Go.Deep.add_add] at c0; exact c0
      · rw [add_off a _ 1 (by omega), ← Go.Deep.add_add]; exact c1
      · rw [add_off a _ 2 (by omega), ← Go.Deep.add_add]; exact c2
    refine ⟨some a, cap, l, by rw [hc, hll], fun k h => ⟨a, rfl, (hp k h).1⟩, fun r hr => ?_, fun e => by cases e⟩
    obtain ⟨k, hk, rfl⟩ := List.getElem_of_mem hr
    exact (hp k hk).2
/-- An operation as it is handed in. -/
structure Lop.Arg (w : World) (x : Lop) : Prop where
  at_ : x.At w
  counts : ∀ r ∈ x.o.gone, inI r.count
  nd : x.dA = none → x.dc = 0
  ng : x.gA = none → x.gc = 0
  tl : x.o.text.size ≤ maxLen
set_option maxRecDepth 100000 in
theorem trod_op {fuel : Nat} {cs : List Value} {y : DataW H × List MemPlace} (h : DataW.trod enc Try.prog w base spare held fuel 45 cs = some y) : ∃ x : Lop, cs = x.c.toList ∧ x.Arg w := by
  obtain ⟨hl, n, hf⟩ := trod_field Try.underlying45 h
  have hl' : cs.length = 11 := hl.trans (by kernel_rfl)
  match cs, hl' with
  | [a0, a1, a2, a3, a4, a5, a6, a7, a8, a9, a10], _ =>
  obtain ⟨z0, h0⟩ := hf 0 _ rfl
  obtain ⟨z1, h1⟩ := hf 1 _ rfl
  obtain ⟨z2, h2⟩ := hf 2 _ rfl
  obtain ⟨z3, h3⟩ := hf 3 _ rfl
  obtain ⟨z4, h4⟩ := hf 4 _ rfl
  obtain ⟨z5, h5⟩ := hf 5 _ rfl
  obtain ⟨z6, h6⟩ := hf 6 _ rfl
  obtain ⟨z7, h7⟩ := hf 7 _ rfl
  obtain ⟨d, e0⟩ := trod_dot h0
  obtain ⟨dA, dc, dl, e1, hd1, hd2, _⟩ := trod_dots h1
  obtain ⟨kind, e2, _⟩ := trod_int' h2
  obtain ⟨id, e3⟩ := trod_id h3
  obtain ⟨ref, e4⟩ := trod_id h4
  obtain ⟨text, e5, _, ht⟩ := DataW.trod_string Try.underlying9 h5
  obtain ⟨gA, gc, gl, e6, hg1, hg2, hg3⟩ := trod_runs h6
  obtain ⟨site, e7, _⟩ := trod_int' h7
  have f0 : [a0, a1] = [Value.int .i64 d.site, .int .i64 d.seq] := e0
  have f1 : [a2] = [Value.slice dA dl.length dc] := e1
  have f2 : [a3] = [Value.int .i64 kind] := e2
  have f3 : [a4, a5] = [Value.int .i64 id.time, .int .i64 id.site] := e3
  have f4 : [a6, a7] = [Value.int .i64 ref.time, .int .i64 ref.site] := e4
  have f5 : [a8] = [Value.string text] := e5
  have f6 : [a9] = [Value.slice gA gl.length gc] := e6
  have f7 : [a10] = [Value.int .i64 site] := e7
  simp only [List.cons.injEq, and_true] at f0 f1 f2 f3 f4 f5 f6 f7
  obtain ⟨rfl, rfl⟩ := f0
  obtain ⟨rfl, rfl⟩ := f3
  obtain ⟨rfl, rfl⟩ := f4
  subst f1 f2 f5 f6 f7
  exact ⟨⟨⟨d, dl, kind, id, ref, text, gl, site⟩, dA, dc, gA, gc⟩, rfl, ⟨hd1, hg1⟩, hg2, hd2, hg3, ht⟩
set_option maxRecDepth 100000 in
theorem open_dots {b0 : Nat} {r : Reach} {v : Value} {d : DataW H} {p : List MemPlace}
    (hv : Value.okWide Try.prog w r b0 23 v) (h : DataW.Trod enc Try.prog w base spare held 23 v d p) :
    ∃ (A : Option Addr) (c : Nat) (l : List Dt), v = .slice A l.length c ∧ DotsAt w A l ∧ (A = none → c = 0) ∧ l.length ≤ Rows.uptoBulk d := by
  obtain ⟨a0, len0, cap0, rfl⟩ := okWide_slice Try.underlying23 hv
  obtain ⟨fuel, hf⟩ := h
  obtain ⟨A, c, l, hc, hd, hn, hb⟩ := trod_dots hf
  simp only [Value.cells] at hc
  injection hc with hc _
  exact ⟨A, c, l, hc, hd, hn, hb⟩
set_option maxRecDepth 100000 in
theorem open_op {b0 : Nat} {r : Reach} {v : Value} {d : DataW H} {p : List MemPlace}
    (hv : Value.okWide Try.prog w r b0 45 v) (h : DataW.Trod enc Try.prog w base spare held 45 v d p) : ∃ x : Lop, v = .agg x.c ∧ x.Arg w := by
  obtain ⟨cs, rfl, hsz⟩ := okWide_struct Try.underlying45 hv
  obtain ⟨fuel, hf⟩ := h
  obtain ⟨x, hx, hA⟩ := trod_op hf
  refine ⟨x, ?_, hA⟩
  have : cs.toList = x.c.toList := hx
  rw [Array.toList_inj.1 this]
end
end Go.Proofs.Ytnfehkncfjgeeaa

namespace Go.Proofs.Ytnfehkncfjgeeaa
open Go.ChangeShapes Go.WideShapes Go.ChangeAt Go.RowKit

theorem own : ownKnob Try.prog.godebug = none := by kernel_rfl
theorem laidOut : laidOutB Try.prog = true := by kernel_rfl

section
variable {H : Type} {enc : TypeId × Value → H} {P : Program}
theorem trodAll_below (hl : laidOutB P = true) {W W' : World} (hb : Below W.heap.size W W') : ∀ (ts : List TypeId) (vs : List Value) (ds : List (DataW H)) (ps : List MemPlace),
    (∀ t ∈ ts, P.readableRec t = true ∧ t < P.types.size) → DataW.TrodAll enc P W 0 (fun _ => true) true ts vs ds ps → (∀ x ∈ ps, x.block < W.heap.size) →
    DataW.TrodAll enc P W' 0 (fun b => decide (b < W.heap.size)) true ts vs ds ps
  | [], vs, ds, ps, _, h, _ => by cases vs <;> cases ds <;> simp_all [DataW.TrodAll]
  | t :: ts, vs, ds, ps, hall, h, hlt => by
    obtain ⟨v, vs', d, ds', p, q, rfl, rfl, rfl, h0, h1⟩ := trodAll_cons h
    have ht := hall t (by simp)
    exact trodAll_cons_mk (Below.trod hl ht.1 ht.2 h0 hb fun x hx => hlt x (by simp [hx])) (trodAll_below hl hb ts vs' ds' q (fun t ht => hall t (by simp [ht])) h1 fun x hx => hlt x (by simp [hx]))

theorem law_post {f : Func} {s : ChangeSpec} {W W' : World} {args : Array Value} {ds gs : List (DataW H)} {before : List MemPlace} {tb : TypeId}
    (hW : DataW.Whole enc P f.params.toList s.vars false W args.toList ds gs before) (hvars : s.vars = []) (hl : laidOutB P = true) (hall : f.params.toList.all (fun t => P.readableRec t && decide (t < P.types.size)) = true)
    (hrt : f.resultTypes = #[tb]) (htb : P.underlying tb = some .bool) (hsp : s.fn H ds = { results := [.lit (.bool true)], args := ds }) (hb : Below W.heap.size W W') : s.post enc P f false true false false W args (.bool true) W' := by
  have hlt : ∀ p ∈ before, p.block < W.heap.size := fun p hp => hW.lt p hp
  have hW' := hW
  obtain ⟨p, q, hA, hV, rfl, _, _⟩ := hW
  rw [hvars] at hV
  obtain ⟨rfl, rfl⟩ := trodVars_none hV
  have hall' : ∀ t ∈ f.params.toList, P.readableRec t = true ∧ t < P.types.size := fun t ht => by
    have := List.all_eq_true.1 hall t ht
    simpa using this
  refine ⟨ds, [], p ++ [], [], p, [], hW', ?_, ?_, ?_, hb.frame _, fun h => by cases h⟩
  · rw [List.append_nil, hsp, hrt]
    exact trodAll_cons_mk (shut_bool htb true) trodAll_mk0
  · rw [List.append_nil, hsp]
    exact trodAll_below hl hb _ _ _ _ hall' hA fun x hx => hlt x (by simp [hx])
  · rw [List.append_nil, hsp, hvars]
    rfl
end
end Go.Proofs.Ytnfehkncfjgeeaa

namespace Go.Proofs.Ytnfehkncfjgeeaa
open Go.ChangeShapes Go.WideShapes Go.ChangeAt Go.RowKit Go.Deep

section
variable {H : Type} {enc : TypeId × Value → H} {w : World} {base : Nat} {spare : Nat → Bool} {held : Bool}
set_option maxRecDepth 100000 in
theorem trod_stepN {fuel : Nat} {cs : List Value} {y : DataW H × List MemPlace} (h : DataW.trod enc Try.prog w base spare held fuel 47 cs = some y) :
    ∃ s : Stp, cs = s.c.toList ∧ s.x.At w ∧ (∀ r ∈ s.x.o.gone, inI r.count) ∧ DotsAt w s.vA s.v ∧ s.x.Nil ∧ (s.vA = none → s.vc = 0) := by
  obtain ⟨hl, n, hf⟩ := trod_field Try.underlying47 h
  have hl' : cs.length = 13 := hl.trans (by kernel_rfl)
  match cs, hl' with
  | [a0, a1, a2, a3, a4, a5, a6, a7, a8, a9, a10, a11, a12], _ =>
  obtain ⟨z0, h0⟩ := hf 0 _ rfl
  obtain ⟨z1, h1⟩ := hf 1 _ rfl
  obtain ⟨z2, h2⟩ := hf 2 _ rfl
  obtain ⟨kind, e0, _⟩ := trod_int' h0
  obtain ⟨x, e1, hx⟩ := trod_op h1
  obtain ⟨vA, vc, v, e2, hv, hvn, _⟩ := trod_dots h2
  have f0 : [a0] = [Value.int .i64 kind] := e0
  have f1 : [a1, a2, a3, a4, a5, a6, a7, a8, a9, a10, a11] = x.c.toList := e1
  have f2 : [a12] = [Value.slice vA v.length vc] := e2
  injection f0 with f0 _
  injection f2 with f2 _
  subst f0 f2
  refine ⟨⟨kind, x, vA, vc, v⟩, ?_, hx.at_, hx.counts, hv, ⟨hx.nd, hx.ng⟩, hvn⟩
  have e : (Stp.c ⟨kind, x, vA, vc, v⟩).toList = Value.int .i64 kind :: (x.c.toList ++ [.slice vA v.length vc]) := rfl
  rw [e, ← f1]
  rfl
set_option maxRecDepth 100000 in
theorem open_stepsN {b0 : Nat} {r : Reach} {v : Value} {d : DataW H} {p : List MemPlace}
    (hv : Value.okWide Try.prog w r b0 24 v) (h : DataW.Trod enc Try.prog w base spare held 24 v d p) :
    ∃ (A : Option Addr) (c : Nat) (l : List Stp), v = .slice A l.length c ∧ ScrArg w A l ∧ l.length ≤ Rows.uptoBulk d := by
  obtain ⟨a0, len0, cap0, rfl⟩ := okWide_slice Try.underlying24 hv
  obtain ⟨fuel, hf⟩ := h
  rcases open_slice Try.underlying24 hf with ⟨hc, _⟩ | ⟨a, len, cap, m, n, D, Pl, hc, hb, hl, hm, hmm, hx, hi⟩
  · simp only [Value.cells] at hc
    injection hc with hc _
    injection hc with e1 e2 e3
    subst e1 e2 e3
    exact ⟨none, 0, [], rfl, ⟨⟨fun k h => absurd h (by simp), fun s hs => absurd hs (by simp)⟩, fun s hs => absurd hs (by simp)⟩, Nat.zero_le _⟩
  · simp only [Value.cells] at hc
    injection hc with hc _
    injection hc with e1 e2 e3
    subst e1 e2 e3
    have hlm : len0 ≤ m := by rw [hmm]; split <;> omega
    have hC : Try.prog.cellsOf 47 = 13 := by kernel_rfl
    obtain ⟨l, hll, hp⟩ := list_of (fun i (s : Stp) => (w.cell? (a.add (i * 13)) = some (.int .i64 s.kind) ∧ w.rangeAt (a.add (i * 13)).block ((a.add (i * 13)).off + 1) s.x.c.toList ∧ w.cell? ⟨(a.add (i * 13)).block, (a.add (i * 13)).off + 12, none⟩ = some (.slice s.vA s.v.length s.vc)) ∧
        s.x.At w ∧ (∀ r ∈ s.x.o.gone, inI r.count) ∧ DotsAt w s.vA s.v ∧ s.x.Nil ∧ (s.vA = none → s.vc = 0)) len0 fun i hil => by
      obtain ⟨cs', hcs, ht⟩ := hi i (by omega)
      rw [hC] at hcs
      obtain ⟨_, hcl, hat⟩ := World.cells?_some hcs
      obtain ⟨s, rfl, h1, h2, h3, h4⟩ := trod_stepN ht
      have hat' : ∀ j, j < 13 → w.cell? (a.add (i * 13 + j)) = s.c.toList[j]? := fun j hj => by rw [← Go.Deep.add_add]; exact hat j hj
      refine ⟨s, ⟨hat' 0 (by omega), fun j v hj => ?_, ?_⟩, h1, h2, h3, h4⟩
      · have hj' : j < 11 := by
          have := (List.getElem?_eq_some_iff.1 hj).1
          rwa [Array.length_toList, Lop.c_size] at this
        rw [show (a.add (i * 13)).off + 1 + j = (a.add (i * 13)).off + (1 + j) by omega, add_off a _ (1 + j) (by omega), hat' (1 + j) (by omega)]
        have e : s.c.toList = Value.int .i64 s.kind :: (s.x.c.toList ++ [.slice s.vA s.v.length s.vc]) := rfl
        rw [e, show 1 + j = j + 1 by omega, List.getElem?_cons_succ, List.getElem?_append_left (by rw [Array.length_toList, Lop.c_size]; exact hj')]
        exact hj
      · rw [add_off a _ 12 (by omega), hat' 12 (by omega)]
        rfl
    refine ⟨some a, cap0, l, by rw [hll], ⟨⟨fun k h => ⟨a, rfl, (hp k h).1⟩, fun s hs => ?_⟩, fun s hs => ?_⟩, by injection hx with hx1 _; rw [hx1, hll]; refine Nat.le_trans ?_ (bulk_slice _ _); simp⟩
    · obtain ⟨k, hk, rfl⟩ := List.getElem_of_mem hs
      obtain ⟨-, h1, h2, h3, -⟩ := hp k hk
      exact ⟨h1, h2, h3⟩
    · obtain ⟨k, hk, rfl⟩ := List.getElem_of_mem hs
      exact (hp k hk).2.2.2.2
end
end Go.Proofs.Ytnfehkncfjgeeaa

namespace Go.Proofs.Ytnfehkncfjgeeaa.logBeyonds
open Go.ChangeShapes Go.WideShapes Go.ChangeAt Go.RowKit

set_option maxRecDepth 100000 in
theorem contract (H : Type) (enc : TypeId × Value → H) (W : World) (base : Nat) (args : Array Value) (ds gs : List (DataW H)) (before : List MemPlace)
    (hval : ∀ (j : Nat) t v, Try.f6.params[j]? = some t → args[j]? = some v → Value.okWide Try.prog W .any base t v)
    (hW : DataW.Whole enc Try.prog Try.f6.params.toList Rows.logBeyondsSpec.vars false W args.toList ds gs before) (hk : Rows.uptoSmall H (ds ++ gs) = true) :
    Calls Try.prog 6 args W fun e W' => ∃ v, e = .returned v ∧ Rows.logBeyondsSpec.post enc Try.prog Try.f6 false true false false W args v W' := by
  have hW' := hW
  have hbk := bulk_of hk
  obtain ⟨p, q, hA0, hV, rfl, hfz, hnd⟩ := hW
  have hA : DataW.TrodAll enc Try.prog W 0 (fun _ => true) true Try.f6.params.toList args.toList ds p := hA0
  rw [Try.params6] at hA hval
  obtain ⟨v0, vs0, d0, ds0, p0, q0, hargs, rfl, rfl, h0, r0⟩ := trodAll_cons hA
  obtain ⟨v1, vs1, d1, ds1, p1, q1, rfl, rfl, rfl, h1, r1⟩ := trodAll_cons r0
  obtain ⟨v2, vs2, d2, ds2, p2, q2, rfl, rfl, rfl, h2, r2⟩ := trodAll_cons r1
  obtain ⟨v3, vs3, d3, ds3, p3, q3, rfl, rfl, rfl, h3, r3⟩ := trodAll_cons r2
  obtain ⟨rfl, rfl, rfl⟩ := trodAll_nil r3
  obtain rfl : args = #[v0, v1, v2, v3] := by cases args; simp_all
  have hb0 := hbk d0 (by simp)
  obtain ⟨A0, c0, l, rfl, hs0, hl0⟩ := open_stepsN (hval 0 24 v0 rfl rfl) h0
  have hb1 := hbk d1 (by simp)
  obtain ⟨A1, c1, hv, rfl, hs1, hn1, hl1⟩ := open_dots (hval 1 23 v1 rfl rfl) h1
  have hb2 := hbk d2 (by simp)
  obtain ⟨A2, c2, m, rfl, hs2, hl2⟩ := open_stepsN (hval 2 24 v2 rfl rfl) h2
  have hb3 := hbk d3 (by simp)
  obtain ⟨stop, rfl, _, _, w3⟩ := open_int Try.underlying3 (hval 3 3 v3 rfl rfl) h3
  refine (Beyonds_walk A0 l c0 A1 hv c1 A2 m c2 stop W hs0 hs1 hs2 (by omega) (by omega) (by omega)).mono fun e W' ⟨he, hk⟩ => ?_
  subst he
  exact ⟨_, rfl, law_post hW' rfl laidOut (by kernel_rfl) rfl Try.underlying4 rfl (hk.below (Nat.le_refl _) fun _ h => h.elim)⟩

set_option maxRecDepth 100000 in
theorem lifted (os : Os) (started : os.Started) (H : Type) (enc : TypeId × Value → H) (F : Stop.Interp) :
    ReturnsInHanded {} Try.checked os 6 .any ((Rows.OpenSpec.upto Rows.logBeyondsSpec).pre6 enc Try.prog Try.f6 Rows.logBeyondsUptoRow.domain false) (((Rows.OpenSpec.upto Rows.logBeyondsSpec).at F).post enc Try.prog Try.f6 false true false false) := by
  refine returnsInHanded_of_cond (C := Try.checked) (s := Rows.OpenSpec.upto Rows.logBeyondsSpec) (k := Rows.uptoSmall) rfl own started (by kernel_rfl) Try.func6
    (OpenSpec.witness (enc := enc) (C := Try.checked) (s := Rows.OpenSpec.upto Rows.logBeyondsSpec) (k := Rows.uptoSmall) rfl false ⟨#[], #[.slice none 0 0, .slice none 0 0, .slice none 0 0, .int .i64 0], []⟩ 8 (by kernel_rfl) (by kernel_rfl) (by kernel_rfl)
      (x := ([.nil, .nil, .nil, .lit (.int .i64 0)], [], [])) (by kernel_rfl) rfl (by kernel_rfl)) ?_
  intro W base args ds gs before hval hW _ hk _
  exact contract H enc W base args ds gs before hval hW hk

theorem proved : Rows.LogBeyondsUptoSaid :=
  OpenClaim.holds_of_cond 6 Try.f6 rfl rfl rfl rfl rfl rfl rfl ⟨rfl, rfl, rfl, rfl, rfl⟩ rfl rfl rfl rfl rfl (by kernel_rfl) Try.func6 (by kernel_rfl)
    (of_decide_eq_true (by kernel_rfl)) (by unfold Func.isWrapper; first | (rw [if_pos (by decide +kernel)]; kernel_rfl) | (rw [if_neg (by decide +kernel)]; exact ⟨rfl, rfl⟩))
    (fun os started H enc _ F => lifted os started H enc F)
#print axioms proved
end Go.Proofs.Ytnfehkncfjgeeaa.logBeyonds
