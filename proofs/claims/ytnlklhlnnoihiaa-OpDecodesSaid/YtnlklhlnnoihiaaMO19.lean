/- The walks of op.of and restOf, and what == says of the rest. No condition. · What == says of two rests: all is alike. No condition. -/
import Derived.Test.YtnlklhlnnoihiaaMO4
import Derived.Test.YtnlklhlnnoihiaaMO6
import Derived.Laws.StructEq
namespace Go.Proofs.Ytnlklhlnnoihiaa
open Go Go.RowKit

/-- What a kind does, as the program boxes it. -/
def ofV (o : Opr) (gA : Option Addr) (gc : Nat) : Value :=
  if o.kind = 1 then .iface 114 (.agg #[.int .i64 o.id.time, .int .i64 o.id.site, .int .i64 o.ref.time, .int .i64 o.ref.site, .string o.text])
  else if o.kind = 2 then .iface 116 (.agg #[.slice gA o.gone.length gc])
  else if o.kind = 3 then .iface 118 (.agg #[.int .i64 o.site])
  else if o.kind = 4 then .iface 120 (.agg #[])
  else .nilIface
def OfPost (w : World) (v : Value) (e : Ending) (w' : World) : Prop := e = .returned v ∧ Kept (fun _ => False) w w'
set_option maxRecDepth 100000 in
set_option maxHeartbeats 1600000 in
theorem opof_any (o : Opr) (dA gA : Option Addr) (dc gc : Nat) (w : World) : Calls Try.prog 45 #[.agg (o.cells dA dc gA gc)] w (OfPost w (ofV o gA gc)) := by
  have HK := Lib.hid ((Kept.refl (fun _ => False) w).alloc (.cells (o.cells dA dc gA gc) 30))
  obtain ⟨⟨ds, dq⟩, deps, kind, ⟨it, is⟩, ⟨rt, rs⟩, text, gone, site⟩ := o
  obtain ⟨x, hx⟩ : ∃ x, ofV ⟨⟨ds, dq⟩, deps, kind, ⟨it, is⟩, ⟨rt, rs⟩, text, gone, site⟩ gA gc = x := ⟨_, rfl⟩
  rw [hx]
  unfold ofV at hx
  unfold Opr.cells at *
  simp only at HK hx ⊢
  rcases (by omega : kind = 1 ∨ kind = 2 ∨ kind = 3 ∨ kind = 4 ∨ (kind ≠ 1 ∧ kind ≠ 2 ∧ kind ≠ 3 ∧ kind ≠ 4)) with rfl | rfl | rfl | rfl | ⟨h1, h2, h3, h4⟩
  iterate 4
    · simp at hx
      have HX := Lib.hid hx
      clear hx
      go_enter Try.func45, Try.ntmps45
      go_wp2
      go_ret
      exact ⟨by rw [← HX.out]; rfl, HK.out⟩
  · rw [if_neg h1, if_neg h2, if_neg h3, if_neg h4] at hx
    have HX := Lib.hid hx
    clear hx
    go_enter Try.func45, Try.ntmps45
    go_wp2
    go_ret
    exact ⟨by rw [← HX.out]; rfl, HK.out⟩

theorem size_rest : (Try.prog.info? 159).map (·.size) = some 6 := by kernel_rfl
set_option maxRecDepth 100000 in
set_option maxHeartbeats 1600000 in
theorem restOf_any (o : Opr) (dA gA : Option Addr) (dc gc : Nat) (w : World) : Calls Try.prog 103 #[.agg (o.cells dA dc gA gc)] w (OfPost w (.agg (restC o.id o.ref o.text o.site))) := by
  obtain ⟨⟨ds, dq⟩, deps, kind, ⟨it, is⟩, ⟨rt, rs⟩, text, gone, site⟩ := o
  unfold Opr.cells restC
  simp only
  go_enter Try.func103, Try.ntmps103
  go_wp2
  exact bodyPost_ret (results_cell_row (show Try.f103.results = #[.cell 2 159] by kernel_rfl) _ _ (w.heap.size + 1) 159 #[.int .i64 it, .int .i64 is, .int .i64 rt, .int .i64 rs, .string text, .int .i64 site] (0, 0) _ rfl ((Box.new _ _ _).at_eq (by simp)) Try.underlying159 rfl (size_rest.trans rfl)) rfl ⟨rfl, ((Kept.refl _ _).alloc _).alloc _⟩
end Go.Proofs.Ytnlklhlnnoihiaa

namespace Go.Proofs.Ytnlklhlnnoihiaa
open Go Go.RowKit

theorem run_eqFields_idd (d : Nat) (a b c e : Int) (W : World) : (Op.eqFields (d + 2) #[.int .i64 a, .int .i64 b] #[.int .i64 c, .int .i64 e] (Try.prog.fieldsOf 27).toList).run Try.prog W = .ok (decide (a = c ∧ b = e)) W := by
  have hf : (Try.prog.fieldsOf 27).toList.map (fun f => (decide (f.name = "_"), f.type, f.offset)) = [(false, 3, 0), (false, 3, 1)] := by kernel_rfl
  generalize (Try.prog.fieldsOf 27).toList = fs at hf ⊢
  have hl : fs.length = 2 := by have := congrArg List.length hf; simpa using this
  obtain ⟨f0, f1, rfl⟩ : ∃ f0 f1, fs = [f0, f1] := ⟨fs[0], fs[1], List.ext_getElem (by simp [hl]) fun i h1 h2 => by
    match i, h2 with
    | 0, _ => rfl
    | 1, _ => rfl⟩
  · simp only [List.map_cons, List.map_nil, List.cons.injEq, Prod.mk.injEq, decide_eq_false_iff_not, and_true] at hf
    obtain ⟨⟨n0, t0, o0⟩, n1, t1, o1⟩ := hf
    have hu := Try.underlying3
    simp [Op.eqFields, n0, n1, t0, t1, o0, o1, run_part_int _ 0 a W (show #[Value.int .i64 a, .int .i64 b][0]? = _ from rfl), run_part_int _ 0 c W (show #[Value.int .i64 c, .int .i64 e][0]? = _ from rfl), run_part_int _ 1 b W (show #[Value.int .i64 a, .int .i64 b][1]? = _ from rfl), run_part_int _ 1 e W (show #[Value.int .i64 c, .int .i64 e][1]? = _ from rfl), run_equalIn_int W (d + 1) 3 .i64 .i64 _ _ hu]
    by_cases h1 : a = c <;> by_cases h2 : b = e <;> simp [h1, h2]
theorem run_part_id (xs : Array Value) (k : Nat) (a b : Int) (W : World) (h : xs.extract k (k + 2) = #[.int .i64 a, .int .i64 b]) : (part 27 xs k).run Try.prog W = .ok (.agg #[.int .i64 a, .int .i64 b]) W := by
  have hu : Try.prog.underlying 27 = some (.struct (Try.prog.fieldsOf 27)) := by kernel_rfl
  have hz := size_ID
  cases hi : Try.prog.info? 27 with
  | none => rw [hi] at hz; cases hz
  | some i =>
    rw [hi] at hz
    have hz' : i.size = 2 := by simpa using hz
    simp [part, isAgg, run_underlying hu, sizeOf, typeInfo, hi, hz', h]
theorem run_part_str (xs : Array Value) (k : Nat) (s : ByteArray) (W : World) (h : xs[k]? = some (.string s)) : (part 9 xs k).run Try.prog W = .ok (.string s) W := by
  simp [part, isAgg, run_underlying Try.underlying9, h]
theorem run_equalIn_id (d : Nat) (a b c e : Int) (W : World) : (Op.equalIn (d + 3) 27 (.agg #[.int .i64 a, .int .i64 b]) (.agg #[.int .i64 c, .int .i64 e])).run Try.prog W = .ok (decide (a = c ∧ b = e)) W := by
  have hu : Try.prog.underlying 27 = some (.struct (Try.prog.fieldsOf 27)) := by kernel_rfl
  rw [run_equalIn_struct _ _ _ _ _ hu (by kernel_rfl), run_eqFields_idd]
/-- Are two rests alike? -/
def sameRest (i r : Idt) (t : ByteArray) (s : Int) (i' r' : Idt) (t' : ByteArray) (s' : Int) : Bool := decide (i = i') && (decide (r = r') && (decide (t = t') && decide (s = s')))
theorem id_dec (a b : Idt) : decide (a.time = b.time ∧ a.site = b.site) = decide (a = b) := by
  obtain ⟨t, s⟩ := a
  obtain ⟨t', s'⟩ := b
  simp
theorem str_dec (a b : ByteArray) : (a.toList == b.toList) = decide (a = b) := by
  by_cases h : a = b
  · subst h; simp
  · rw [decide_eq_false h, ← beq_toListBytes]
    obtain ⟨xs⟩ := a
    obtain ⟨ys⟩ := b
    have h' : ¬ xs = ys := fun e => h (by rw [e])
    show (xs == ys) = false
    simpa using h'
set_option maxHeartbeats 3200000 in
theorem run_eqFields_rest (i r : Idt) (t : ByteArray) (s : Int) (i' r' : Idt) (t' : ByteArray) (s' : Int) (W : World) :
    (Op.eqFields 9999 (restC i r t s) (restC i' r' t' s') (Try.prog.fieldsOf 159).toList).run Try.prog W = .ok (sameRest i r t s i' r' t' s') W := by
  have hf : (Try.prog.fieldsOf 159).toList.map (fun f => (decide (f.name = "_"), f.type, f.offset)) = [(false, 27, 0), (false, 27, 2), (false, 9, 4), (false, 3, 5)] := by kernel_rfl
  generalize (Try.prog.fieldsOf 159).toList = fs at hf ⊢
  have hl : fs.length = 4 := by have := congrArg List.length hf; simpa using this
  obtain ⟨f0, f1, f2, f3, rfl⟩ : ∃ f0 f1 f2 f3, fs = [f0, f1, f2, f3] := ⟨fs[0], fs[1], fs[2], fs[3], List.ext_getElem (by simp [hl]) fun i h1 h2 => by
    match i, h2 with
    | 0, _ => rfl
    | 1, _ => rfl
    | 2, _ => rfl
    | 3, _ => rfl⟩
  simp only [List.map_cons, List.map_nil, List.cons.injEq, Prod.mk.injEq, decide_eq_false_iff_not, and_true] at hf
  obtain ⟨⟨n0, t0, o0⟩, ⟨n1, t1, o1⟩, ⟨n2, t2, o2⟩, n3, t3, o3⟩ := hf
  have hu := Try.underlying3
  have hs := Try.underlying9
  have e0 : ∀ (i r : Idt) (t : ByteArray) (s : Int), (part 27 (restC i r t s) 0).run Try.prog W = .ok (.agg #[.int .i64 i.time, .int .i64 i.site]) W := fun i r t s => run_part_id _ 0 _ _ W rfl
  have e2 : ∀ (i r : Idt) (t : ByteArray) (s : Int), (part 27 (restC i r t s) 2).run Try.prog W = .ok (.agg #[.int .i64 r.time, .int .i64 r.site]) W := fun i r t s => run_part_id _ 2 _ _ W rfl
  have e4 : ∀ (i r : Idt) (t : ByteArray) (s : Int), (part 9 (restC i r t s) 4).run Try.prog W = .ok (.string t) W := fun i r t s => run_part_str _ 4 _ W rfl
  have e5 : ∀ (i r : Idt) (t : ByteArray) (s : Int), (part 3 (restC i r t s) 5).run Try.prog W = .ok (.int .i64 s) W := fun i r t s => run_part_int _ 5 _ W rfl
  have c0 := run_equalIn_id 9996 i.time i.site i'.time i'.site W
  have c2 := run_equalIn_id 9996 r.time r.site r'.time r'.site W
  have c4 := run_equalIn_string (P := Try.prog) W 9998 9 t t' hs
  have c5 := run_equalIn_int (P := Try.prog) W 9998 3 .i64 .i64 s s' hu
  rw [id_dec] at c0 c2
  rw [str_dec] at c4
  unfold sameRest
  generalize decide (i = i') = b0 at c0 ⊢
  generalize decide (r = r') = b2 at c2 ⊢
  generalize decide (t = t') = b4 at c4 ⊢
  have c5' : (Op.equalIn (9998 + 1) 3 (.int .i64 s) (.int .i64 s')).run Try.prog W = .ok (decide (s = s')) W := by rw [c5]; rfl
  generalize decide (s = s') = b5 at c5' ⊢
  cases b0 <;> cases b2 <;> cases b4 <;> cases b5 <;> simp [Op.eqFields, n0, n1, n2, n3, t0, t1, t2, t3, o0, o1, o2, o3, e0, e2, e4, e5, c0, c2, c4, c5']
theorem eql_rest (i r : Idt) (t : ByteArray) (s : Int) (i' r' : Idt) (t' : ByteArray) (s' : Int) (W : World) :
    (binOp .eql 159 (.agg (restC i r t s)) (.agg (restC i' r' t' s'))).run Try.prog W = .ok (.bool (sameRest i r t s i' r' t' s')) W := by
  have hu : Try.prog.underlying 159 = some (.struct (Try.prog.fieldsOf 159)) := by kernel_rfl
  rw [run_eql_struct, run_equalIn_struct _ _ _ _ _ hu (by kernel_rfl), run_eqFields_rest, Result.andThen_ok]
end Go.Proofs.Ytnlklhlnnoihiaa
