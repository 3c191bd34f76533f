/- Opening arguments: a list of Dots, a list of ints, a Front's script. No condition. -/
import Derived.Test.YthlejmpeigfdgaaFStf
import Derived.ProofKit
import Derived.OpenShut
import Derived.Deep.Slices
import Derived.Deep.Fields
import Derived.ChangeSame
import Derived.ChangeSlices
import Derived.Lib.SmallJoins
namespace Go.Proofs.Ythlejmpeigfdgaa
open Go.ChangeShapes Go.WideShapes Go.ChangeAt Go.RowKit Go.Deep

theorem list_of {α : Type} (p : Nat → α → Prop) : ∀ n : Nat, (∀ i, i < n → ∃ x, p i x) → ∃ l : List α, l.length = n ∧ ∀ i (h : i < l.length), p i l[i]
  | 0, _ => ⟨[], rfl, fun i h => absurd h (by simp)⟩
  | n + 1, h => by
    obtain ⟨l, hl, hp⟩ := list_of p n fun i hi => h i (by omega)
    obtain ⟨x, hx⟩ := h n (by omega)
    refine ⟨l ++ [x], by simp [hl], fun i hi => ?_⟩
    by_cases hil : i < l.length
    · rw [List.getElem_append_left hil]; exact hp i hil
    · have : i = n := by simp at hi; omega
      subst this
      rw [List.getElem_append_right (by omega)]
      simpa using hx
theorem bulk_one {H : Type} (d : DataW H) : 1 ≤ Rows.uptoBulk d := by
  cases d with
  | lit l => cases l <;> simp [Rows.uptoBulk]
  | nil => simp [Rows.uptoBulk]
  | ptr d => simp [Rows.uptoBulk]
  | slice elems spare => simp [Rows.uptoBulk]
  | agg parts => simp [Rows.uptoBulk]
  | iface t d => simp [Rows.uptoBulk]
  | map entries => simp [Rows.uptoBulk]
  | held h => simp [Rows.uptoBulk]
theorem bulk_len {H : Type} (l : List (DataW H)) : l.length ≤ Rows.uptoBulkAll l := by
  induction l with
  | nil => simp [Rows.uptoBulkAll]
  | cons x r ih => have := bulk_one x; simp only [Rows.uptoBulkAll, List.length_cons]; omega
theorem bulk_slice {H : Type} (elems spare : List (DataW H)) : elems.length ≤ Rows.uptoBulk (.slice elems spare) := by
  have h1 := bulk_len elems
  simp only [Rows.uptoBulk]
  omega
theorem bulk_part {H : Type} {d : DataW H} {l : List (DataW H)} (h : d ∈ l) : Rows.uptoBulk d ≤ Rows.uptoBulkAll l := by
  induction l with
  | nil => cases h
  | cons x r ih =>
    simp only [Rows.uptoBulkAll]
    cases List.mem_cons.1 h with
    | inl e => subst e; omega
    | inr e => have := ih e; omega
theorem bulk_app {H : Type} (l r : List (DataW H)) : Rows.uptoBulkAll (l ++ r) = Rows.uptoBulkAll l + Rows.uptoBulkAll r := by
  induction l with
  | nil => simp [Rows.uptoBulkAll]
  | cons x l ih => simp only [List.cons_append, Rows.uptoBulkAll, ih]; omega
/-- What the bound gives of each argument. -/
theorem bulk_of {H : Type} {ds gs : List (DataW H)} (hk : Rows.uptoSmall H (ds ++ gs) = true) : ∀ d ∈ ds, Rows.uptoBulk d ≤ 1048576 := fun d hd => by
  have h : Rows.uptoBulkAll (ds ++ gs) ≤ 1048576 := of_decide_eq_true hk
  rw [bulk_app] at h
  have := bulk_part hd
  omega
theorem add_off (ad : Addr) (k j : Nat) (h : 0 < j) : (⟨(ad.add k).block, (ad.add k).off + j, none⟩ : Addr) = ad.add (k + j) := by
  unfold Addr.add
  rw [if_neg (show ¬ k + j = 0 by omega)]
  split
  · simp_all
  · simp [Nat.add_assoc]
/-- What is known of a step that came in. -/
structure Stf.Arg (w : World) (x : Stf) : Prop where
  v : DotsAt w x.vA x.v
  m : IntsAt w x.mA x.ms
  vn : x.vA = none → x.vc = 0
  mn : x.mA = none → x.mc = 0
  site : (Lit.int .i64 x.site).wf = true
  wf : ∀ m ∈ x.ms, (Lit.int .i64 m).wf = true
/-- A script as it is handed in. -/
structure ScfAt (w : World) (A : Option Addr) (l : List Stf) : Prop where
  steps : StfsAt w A l
  xs : ∀ x ∈ l, x.Arg w
theorem ScfAt.ok {w : World} {A : Option Addr} {l : List Stf} (h : ScfAt w A l) (hm : muchF l = false) : (∀ x ∈ l, StfOk w x) ∧ l.length ≤ 200 := by
  unfold muchF at hm
  simp only [Bool.or_eq_false_iff, decide_eq_false_iff_not, Nat.not_lt] at hm
  refine ⟨fun x hx => ?_, hm.1.1⟩
  have := hm.1.2
  rw [List.any_eq_false] at this
  have hs := Stf.small (Bool.eq_false_iff.2 (this x hx))
  have ha := h.xs x hx
  exact ⟨ha.v, ha.m, hs.1, hs.2, ha.site, ha.wf⟩
section
variable {H : Type} {enc : TypeId × Value → H} {w : World} {base : Nat} {spare : Nat → Bool} {held : Bool}
theorem trod_int' {fuel : Nat} {cs : List Value} {y : DataW H × List MemPlace} (h : DataW.trod enc Try.prog w base spare held fuel 3 cs = some y) : ∃ n : Int, cs = [.int .i64 n] ∧ (Lit.int .i64 n).wf = true := by
  obtain ⟨n, h1, _, h3⟩ := DataW.trod_int Try.underlying3 h
  exact ⟨n, h1, h3⟩
/-- A struct's field, by its place. -/
theorem trod_field {t : TypeId} {fs : Array Field} (ht : Try.prog.underlying t = some (.struct fs)) {fuel : Nat} {cs : List Value} {y : DataW H × List MemPlace} (h : DataW.trod enc Try.prog w base spare held fuel t cs = some y) :
    cs.length = Try.prog.cellsOf t ∧ ∃ n, ∀ (i : Nat) (f : Field), fs[i]? = some f → ∃ z, DataW.trod enc Try.prog w base spare held n f.type ((cs.drop f.offset).take (Try.prog.cellsOf f.type)) = some z := by
  obtain ⟨xs, n, _, _, hl, hxl, hf⟩ := DataW.trod_struct ht h
  refine ⟨hl, n, fun i f hi => ?_⟩
  have hlt : i < xs.length := by rw [hxl]; exact (Array.getElem?_eq_some_iff.1 hi).1
  exact ⟨xs[i], by rw [hf i f hi, List.getElem?_eq_getElem hlt]⟩
theorem list2 {l : List Value} (h : l.length = 2) : ∃ a b, l = [a, b] := by
  match l, h with
  | [a, b], _ => exact ⟨a, b, rfl⟩
set_option maxRecDepth 100000 in
theorem trod_dot {fuel : Nat} {cs : List Value} {y : DataW H × List MemPlace} (h : DataW.trod enc Try.prog w base spare held fuel 56 cs = some y) : ∃ d : Dt, cs = [.int .i64 d.site, .int .i64 d.seq] := by
  obtain ⟨hl, n, hf⟩ := trod_field Try.underlying56 h
  obtain ⟨a, b, rfl⟩ := list2 (hl.trans (by kernel_rfl))
  obtain ⟨z0, h0⟩ := hf 0 _ rfl
  obtain ⟨z1, h1⟩ := hf 1 _ rfl
  obtain ⟨x0, e0, _⟩ := trod_int' h0
  obtain ⟨x1, e1, _⟩ := trod_int' h1
  have e0' : [a] = [Value.int .i64 x0] := e0
  have e1' : [b] = [Value.int .i64 x1] := e1
  injection e0' with e0'
  injection e1' with e1'
  exact ⟨⟨x0, x1⟩, by rw [e0', e1']⟩
set_option maxRecDepth 100000 in
/-- A list of Dots. -/
theorem trod_dots {fuel : Nat} {cs : List Value} {y : DataW H × List MemPlace} (h : DataW.trod enc Try.prog w base spare held fuel 31 cs = some y) :
    ∃ (A : Option Addr) (c : Nat) (l : List Dt), cs = [.slice A l.length c] ∧ DotsAt w A l ∧ (A = none → c = 0) ∧ l.length ≤ Rows.uptoBulk y.1 := by
  rcases open_slice Try.underlying31 h with ⟨hc, _⟩ | ⟨a, len, cap, m, n, D, Pl, hc, hb, hl, hm, hmm, hx, hi⟩
  · exact ⟨none, 0, [], hc, DotsAt.nil, fun _ => rfl, Nat.zero_le _⟩
  · have hlm : len ≤ m := by rw [hmm]; split <;> omega
    obtain ⟨l, hll, hp⟩ := list_of (fun i (x : Dt) => w.cell? (a.add (i * 2)) = some (.int .i64 x.site) ∧ w.cell? ⟨(a.add (i * 2)).block, (a.add (i * 2)).off + 1, none⟩ = some (.int .i64 x.seq)) len fun i hil => by
      obtain ⟨cs', hcs, ht⟩ := hi i (by omega)
      have hC : Try.prog.cellsOf 56 = 2 := by kernel_rfl
      rw [hC] at hcs
      obtain ⟨_, hcl, hat⟩ := World.cells?_some hcs
      obtain ⟨d, rfl⟩ := trod_dot ht
      have c0 := hat 0 (by omega)
      have c1 := hat 1 (by omega)
      refine ⟨d, ?_, ?_⟩
      · rw [Go.Deep.add_add] at c0; exact c0
      · rw [add_off a _ 1 (by omega), ← Go.Deep.add_add]; exact c1
    exact ⟨some a, cap, l, by rw [hc, hll], fun k h => ⟨a, rfl, hp k h⟩, (fun e => by cases e), by rw [hx, hll]; refine Nat.le_trans ?_ (bulk_slice _ _); simp⟩
set_option maxRecDepth 100000 in
theorem open_dots {b0 : Nat} {r : Reach} {v : Value} {d : DataW H} {p : List MemPlace}
    (hv : Value.okWide Try.prog w r b0 31 v) (h : DataW.Trod enc Try.prog w base spare held 31 v d p) :
    ∃ (A : Option Addr) (c : Nat) (l : List Dt), v = .slice A l.length c ∧ DotsAt w A l ∧ (A = none → c = 0) ∧ l.length ≤ Rows.uptoBulk d := by
  obtain ⟨a0, len0, cap0, rfl⟩ := okWide_slice Try.underlying31 hv
  obtain ⟨fuel, hf⟩ := h
  obtain ⟨A, c, l, hc, hd, hn, hb⟩ := trod_dots hf
  simp only [Value.cells] at hc
  injection hc with hc _
  exact ⟨A, c, l, hc, hd, hn, hb⟩
set_option maxRecDepth 100000 in
theorem trod_ints {fuel : Nat} {cs : List Value} {y : DataW H × List MemPlace} (hf : DataW.trod enc Try.prog w base spare held fuel 32 cs = some y) :
    ∃ (A : Option Addr) (c : Nat) (l : List Int), cs = [.slice A l.length c] ∧ IntsAt w A l ∧ (∀ m ∈ l, (Lit.int .i64 m).wf = true) ∧ (A = none → c = 0) ∧ l.length ≤ Rows.uptoBulk y.1 := by
  rcases open_slice Try.underlying32 hf with ⟨hc, _⟩ | ⟨a, len, cap, m, n, D, Pl, hc, hb, hl, hm, hmm, hx, hi⟩
  · exact ⟨none, 0, [], hc, IntsAt.nil, fun m hm => absurd hm (by simp), fun _ => rfl, Nat.zero_le _⟩
  · have hlm : len ≤ m := by rw [hmm]; split <;> omega
    obtain ⟨l, hll, hp⟩ := list_of (fun i (x : Int) => w.cell? (a.add i) = some (.int .i64 x) ∧ (Lit.int .i64 x).wf = true) len fun i hil => by
      obtain ⟨cs', hcs, ht⟩ := hi i (by omega)
      have hC : Try.prog.cellsOf 3 = 1 := by kernel_rfl
      rw [hC] at hcs
      obtain ⟨_, hcl, hat⟩ := World.cells?_some hcs
      obtain ⟨d, rfl, hw⟩ := trod_int' ht
      have c0 := hat 0 (by omega)
      rw [Go.Deep.add_add] at c0
      simp only [Nat.mul_one, Nat.add_zero] at c0
      exact ⟨d, c0, hw⟩
    exact ⟨some a, cap, l, by rw [hc, hll], fun k h => ⟨a, rfl, (hp k h).1⟩, fun x hx => (by obtain ⟨k, hk, rfl⟩ := List.getElem_of_mem hx; exact (hp k hk).2), (fun e => by cases e), by rw [hx, hll]; refine Nat.le_trans ?_ (bulk_slice _ _); simp⟩
set_option maxRecDepth 100000 in
theorem open_list {b0 : Nat} {r : Reach} {v : Value} {d : DataW H} {p : List MemPlace}
    (hv : Value.okWide Try.prog w r b0 32 v) (h : DataW.Trod enc Try.prog w base spare held 32 v d p) :
    ∃ (A : Option Addr) (c : Nat) (l : List Int), v = .slice A l.length c ∧ IntsAt w A l ∧ (∀ m ∈ l, (Lit.int .i64 m).wf = true) ∧ (A = none → c = 0) ∧ l.length ≤ Rows.uptoBulk d := by
  obtain ⟨a0, len0, cap0, rfl⟩ := okWide_slice Try.underlying32 hv
  obtain ⟨fuel, hf⟩ := h
  obtain ⟨A, c, l, hc, hd, hw, hn, hb⟩ := trod_ints hf
  simp only [Value.cells] at hc
  injection hc with hc _
  exact ⟨A, c, l, hc, hd, hw, hn, hb⟩
theorem list4 {l : List Value} (h : l.length = 4) : ∃ a b c d, l = [a, b, c, d] := by
  match l, h with
  | [a, b, c, d], _ => exact ⟨a, b, c, d, rfl⟩
set_option maxRecDepth 100000 in
theorem trod_stf {fuel : Nat} {cs : List Value} {y : DataW H × List MemPlace} (h : DataW.trod enc Try.prog w base spare held fuel 34 cs = some y) : ∃ x : Stf, cs = x.cs.toList ∧ x.Arg w := by
  obtain ⟨hl, n, hf⟩ := trod_field Try.underlying34 h
  obtain ⟨a, b, c, d, rfl⟩ := list4 (hl.trans (by kernel_rfl))
  obtain ⟨z0, h0⟩ := hf 0 _ rfl
  obtain ⟨z1, h1⟩ := hf 1 _ rfl
  obtain ⟨z2, h2⟩ := hf 2 _ rfl
  obtain ⟨z3, h3⟩ := hf 3 _ rfl
  obtain ⟨x0, e0, _⟩ := trod_int' h0
  obtain ⟨x1, e1, w1⟩ := trod_int' h1
  obtain ⟨vA, vc, v, e2, hv, hvn, _⟩ := trod_dots h2
  obtain ⟨mA, mc, m, e3, hm, hw, hmn, _⟩ := trod_ints h3
  have e0' : [a] = [Value.int .i64 x0] := e0
  have e1' : [b] = [Value.int .i64 x1] := e1
  have e2' : [c] = [Value.slice vA v.length vc] := e2
  have e3' : [d] = [Value.slice mA m.length mc] := e3
  injection e0' with e0'
  injection e1' with e1'
  injection e2' with e2'
  injection e3' with e3'
  exact ⟨⟨x0, x1, v, vA, vc, m, mA, mc⟩, by rw [e0', e1', e2', e3']; rfl, hv, hm, hvn, hmn, w1, hw⟩
set_option maxRecDepth 100000 in
theorem open_stfs {b0 : Nat} {r : Reach} {v : Value} {d : DataW H} {p : List MemPlace}
    (hv : Value.okWide Try.prog w r b0 22 v) (h : DataW.Trod enc Try.prog w base spare held 22 v d p) :
    ∃ (A : Option Addr) (c : Nat) (l : List Stf), v = .slice A l.length c ∧ ScfAt w A l ∧ l.length ≤ Rows.uptoBulk d := by
  obtain ⟨a0, len0, cap0, rfl⟩ := okWide_slice Try.underlying22 hv
  obtain ⟨fuel, hf⟩ := h
  rcases open_slice Try.underlying22 hf with ⟨hc, _⟩ | ⟨a, len, cap, m, n, D, Pl, hc, hb, hl, hm, hmm, hx, hi⟩
  · simp only [Value.cells] at hc
    injection hc with hc _
    injection hc with e1 e2 e3
    subst e1 e2 e3
    exact ⟨none, 0, [], rfl, ⟨fun k h => absurd h (by simp), fun s hs => absurd hs (by simp)⟩, Nat.zero_le _⟩
  · simp only [Value.cells] at hc
    injection hc with hc _
    injection hc with e1 e2 e3
    subst e1 e2 e3
    have hlm : len0 ≤ m := by rw [hmm]; split <;> omega
    have hC : Try.prog.cellsOf 34 = 4 := by kernel_rfl
    obtain ⟨l, hll, hp⟩ := list_of (fun i (s : Stf) => (w.cell? (a.add (i * 4)) = some (.int .i64 s.kind) ∧ w.rangeAt (a.add (i * 4)).block (a.add (i * 4)).off s.cs.toList) ∧ s.Arg w) len0 fun i hil => by
      obtain ⟨cs', hcs, ht⟩ := hi i (by omega)
      rw [hC] at hcs
      obtain ⟨_, hcl, hat⟩ := World.cells?_some hcs
      obtain ⟨s, rfl, h1⟩ := trod_stf ht
      have hat' : ∀ j, j < 4 → w.cell? (a.add (i * 4 + j)) = s.cs.toList[j]? := fun j hj => by rw [← Go.Deep.add_add]; exact hat j hj
      have h0 : w.cell? (a.add (i * 4)) = some (.int .i64 s.kind) := hat' 0 (by omega)
      refine ⟨s, ⟨h0, fun j v hj => ?_⟩, h1⟩
      have hj' : j < 4 := by
        have := (List.getElem?_eq_some_iff.1 hj).1
        rwa [Array.length_toList, Stf.cs_size] at this
      by_cases hj0 : j = 0
      · subst hj0
        rw [show (⟨(a.add (i * 4)).block, (a.add (i * 4)).off + 0, none⟩ : Addr) = a.add (i * 4) from (cell_spot h0).symm, h0, ← hj]
        rfl
      · rw [add_off a _ j (by omega), hat' j hj', hj]
    refine ⟨some a, cap0, l, by rw [hll], ⟨fun k h => ⟨a, rfl, (hp k h).1⟩, fun s hs => ?_⟩, by injection hx with hx1 _; rw [hx1, hll]; refine Nat.le_trans ?_ (bulk_slice _ _); simp⟩
    obtain ⟨k, hk, rfl⟩ := List.getElem_of_mem hs
    exact (hp k hk).2
end
end Go.Proofs.Ythlejmpeigfdgaa
