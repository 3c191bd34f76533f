/- The walk of the reference's Same: are two lists the same Dots. Conditions: the Dots lie in memory as DotsAt says. -/
import Derived.Test.YtoeipjhdpeibpaaGreatVVec
import Derived.Laws.StructEq
namespace Go.Proofs.YtoeipjhdpeibpaaGreat
open Go.RowKit

theorem run_part_int (xs : Array Value) (k : Nat) (a : Int) (W : World) (h : xs[k]? = some (.int .i64 a)) : (part 3 xs k).run Tryz.prog W = .ok (.int .i64 a) W := by
  have hi : (Tryz.prog.info? 3).map (fun i => (i.zero, i.size, i.bytes)) = some (some (.int .i64 0), 1, 8) := by kernel_rfl
  obtain ⟨i0, h1, h2, h3, h4⟩ := info_parts hi
  simp [part, isAgg, run_underlying Tryz.underlying3, h]
theorem run_eqFields_two (a b c d : Int) (W : World) : (Op.eqFields 9999 #[.int .i64 a, .int .i64 b] #[.int .i64 c, .int .i64 d] (Tryz.prog.fieldsOf 55).toList).run Tryz.prog W = .ok (decide (a = c ∧ b = d)) W := by
  have hf : (Tryz.prog.fieldsOf 55).toList.map (fun f => (decide (f.name = "_"), f.type, f.offset)) = [(false, 3, 0), (false, 3, 1)] := by kernel_rfl
  generalize (Tryz.prog.fieldsOf 55).toList = fs at hf ⊢
  have hl : fs.length = 2 := by have := congrArg List.length hf; simpa using this
  obtain ⟨f0, f1, rfl⟩ : ∃ f0 f1, fs = [f0, f1] := ⟨fs[0], fs[1], List.ext_getElem (by simp [hl]) fun i h1 h2 => by
    match i, h2 with
    | 0, _ => rfl
    | 1, _ => rfl⟩
  · simp only [List.map_cons, List.map_nil, List.cons.injEq, Prod.mk.injEq, decide_eq_false_iff_not, and_true] at hf
    obtain ⟨⟨n0, t0, o0⟩, n1, t1, o1⟩ := hf
    have hu := Tryz.underlying3
    simp [Op.eqFields, n0, n1, t0, t1, o0, o1, run_part_int _ 0 a W (show #[Value.int .i64 a, .int .i64 b][0]? = _ from rfl), run_part_int _ 0 c W (show #[Value.int .i64 c, .int .i64 d][0]? = _ from rfl), run_part_int _ 1 b W (show #[Value.int .i64 a, .int .i64 b][1]? = _ from rfl), run_part_int _ 1 d W (show #[Value.int .i64 c, .int .i64 d][1]? = _ from rfl), run_equalIn_int W 9998 3 .i64 .i64 _ _ hu]
    by_cases h1 : a = c <;> by_cases h2 : b = d <;> simp [h1, h2]
theorem neq_dot (a b c d : Int) (W : World) : (binOp .neq 55 (.agg #[.int .i64 a, .int .i64 b]) (.agg #[.int .i64 c, .int .i64 d])).run Tryz.prog W = .ok (.bool (!(decide (a = c ∧ b = d)))) W := by
  have hu : Tryz.prog.underlying 55 = some (.struct (Tryz.prog.fieldsOf 55)) := by kernel_rfl
  rw [run_neq_struct, run_equalIn_struct _ _ _ _ _ hu (by kernel_rfl), run_eqFields_two, Result.andThen_ok]
theorem eql_dot (a b c d : Int) (W : World) : (binOp .eql 55 (.agg #[.int .i64 a, .int .i64 b]) (.agg #[.int .i64 c, .int .i64 d])).run Tryz.prog W = .ok (.bool (decide (a = c ∧ b = d))) W := by
  have hu : Tryz.prog.underlying 55 = some (.struct (Tryz.prog.fieldsOf 55)) := by kernel_rfl
  rw [run_eql_struct, run_equalIn_struct _ _ _ _ _ hu (by kernel_rfl), run_eqFields_two, Result.andThen_ok]

def SamePost (w : World) (b : Bool) (e : Ending) (w' : World) : Prop := e = .returned (.bool b) ∧ Kept (fun _ => False) w w'

end Go.Proofs.YtoeipjhdpeibpaaGreat
