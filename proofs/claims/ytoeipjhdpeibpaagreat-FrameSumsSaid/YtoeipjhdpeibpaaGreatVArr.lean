/- Two rows compared; the walks of Covers, Merge, Least. Conditions: the Dots lie in memory as DotsAt says. -/
import Derived.Test.YtoeipjhdpeibpaaGreatVWith
namespace Go.Proofs.YtoeipjhdpeibpaaGreat
open Go.RowKit

theorem run_sizeOf_int (W : World) : (sizeOf 3).run Tryz.prog W = .ok 1 W := by
  have hi : (Tryz.prog.info? 3).map (fun i => (i.zero, i.size, i.bytes)) = some (some (.int .i64 0), 1, 8) := by kernel_rfl
  obtain ⟨i0, h1, h2, h3, h4⟩ := info_parts hi
  simp [sizeOf, typeInfo, h1, h3]
theorem take_more {r s : List Int} {k : Nat} (hr : k < r.length) (hs : k < s.length) (h : r.take k = s.take k) (he : rg r k = rg s k) : r.take (k + 1) = s.take (k + 1) := by
  unfold rg at he
  rw [List.getElem?_eq_getElem hr, List.getElem?_eq_getElem hs] at he
  rw [List.take_succ_eq_append_getElem hr, List.take_succ_eq_append_getElem hs, h]
  simp at he
  rw [he]
theorem run_rows (d : Nat) (r s : List Int) (hr : r.length = 17) (hs : s.length = 17) (W : World) : ∀ n k : Nat, k + n = 17 → r.take k = s.take k →
    Sem.run Tryz.prog (forIn (List.range' k n) ((none : Option Bool), ()) fun i _ => do
            let a ← part 3 (rowV r) i
            let b ← part 3 (rowV s) i
            let c ← Op.equalIn (d + 1) 3 a b
            if (!c) = true then pure (ForInStep.done (some false, ())) else pure (ForInStep.yield (none, ()))) W = .ok (if r = s then none else some false, ()) W := by
  intro n
  induction n with
  | zero =>
    intro k hk ht
    obtain rfl : k = 17 := by omega
    have e : r = s := by
      have := ht
      rwa [← hr, List.take_length, hr, ← hs, List.take_length] at this
    subst e
    simp
  | succ n ih =>
    intro k hk ht
    have p1 := run_part_int (rowV r) k (rg r k) W (rowV_get r k (by omega))
    have p2 := run_part_int (rowV s) k (rg s k) W (rowV_get s k (by omega))
    rw [List.range'_succ]
    simp only [List.forIn_cons, Sem.run_bind, p1, p2, Result.andThen_ok, run_equalIn_int W d 3 .i64 .i64 _ _ Tryz.underlying3]
    by_cases he : rg r k = rg s k
    · have := ih (k + 1) (by omega) (take_more (by omega) (by omega) ht he)
      rw [he]
      simpa using this
    · have hne : r ≠ s := fun e => he (by rw [e])
      have hb : (rg r k == rg s k) = false := beq_eq_false_iff_ne.2 he
      rw [hb]
      simp [hne]
theorem run_equalIn_row (d : Nat) (r s : List Int) (hr : r.length = 17) (hs : s.length = 17) (W : World) : (Op.equalIn (d + 1 + 1) 85 (.agg (rowV r)) (.agg (rowV s))).run Tryz.prog W = .ok (decide (r = s)) W := by
  have hu : Tryz.prog.underlying 85 = some (.array 17 3) := by kernel_rfl
  have := run_rows d r s hr hs W 17 0 rfl rfl
  rw [Op.equalIn]
  simp only [Sem.run_bind, run_underlying hu, Result.andThen_ok, run_sizeOf_int, Nat.mul_one, Std.Legacy.Range.forIn_eq_forIn_range', Std.Legacy.Range.size, Nat.sub_zero, Nat.add_one_sub_one, Nat.div_one]
  refine (congrArg (fun x => Result.andThen x _) this).trans ?_
  by_cases h : r = s <;> simp [h]
theorem eql_row (r s : List Int) (hr : r.length = 17) (hs : s.length = 17) (W : World) : (binOp .eql 85 (.agg (rowV r)) (.agg (rowV s))).run Tryz.prog W = .ok (.bool (decide (r = s))) W := by
  rw [run_eql_struct, run_equalIn_row 9998 r s hr hs W, Result.andThen_ok]
end Go.Proofs.YtoeipjhdpeibpaaGreat
