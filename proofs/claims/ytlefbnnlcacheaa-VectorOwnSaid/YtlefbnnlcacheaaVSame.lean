/- The walk of the reference's Same: are two lists the same Dots. Conditions: the Dots lie in memory as DotsAt says. -/
import Derived.Test.YtlefbnnlcacheaaVVec
import Derived.Laws.StructEq
namespace Go.Proofs.Ytlefbnnlcacheaa
open Go.RowKit

theorem run_part_int (xs : Array Value) (k : Nat) (a : Int) (W : World) (h : xs[k]? = some (.int .i64 a)) : (part 3 xs k).run Try.prog W = .ok (.int .i64 a) W := by
  have hi : (Try.prog.info? 3).map (fun i => (i.zero, i.size, i.bytes)) = some (some (.int .i64 0), 1, 8) := by kernel_rfl
  obtain ⟨i0, h1, h2, h3, h4⟩ := info_parts hi
  simp [part, isAgg, run_underlying Try.underlying3, h]
theorem run_eqFields_two (a b c d : Int) (W : World) : (Op.eqFields 9999 #[.int .i64 a, .int .i64 b] #[.int .i64 c, .int .i64 d] (Try.prog.fieldsOf 25).toList).run Try.prog W = .ok (decide (a = c ∧ b = d)) W := by
  have hf : (Try.prog.fieldsOf 25).toList.map (fun f => (decide (f.name = "_"), f.type, f.offset)) = [(false, 3, 0), (false, 3, 1)] := by kernel_rfl
  generalize (Try.prog.fieldsOf 25).toList = fs at hf ⊢
  have hl : fs.length = 2 := by have := congrArg List.length hf; simpa using this
  obtain ⟨f0, f1, rfl⟩ : ∃ f0 f1, fs = [f0, f1] := ⟨fs[0], fs[1], List.ext_getElem (by simp [hl]) fun i h1 h2 => by
    match i, h2 with
    | 0, _ => rfl
    | 1, _ => rfl⟩
  · simp only [List.map_cons, List.map_nil, List.cons.injEq, Prod.mk.injEq, decide_eq_false_iff_not, and_true] at hf
    obtain ⟨⟨n0, t0, o0⟩, n1, t1, o1⟩ := hf
    have hu := Try.underlying3
    simp [Op.eqFields, n0, n1, t0, t1, o0, o1, run_part_int _ 0 a W (show #[Value.int .i64 a, .int .i64 b][0]? = _ from rfl), run_part_int _ 0 c W (show #[Value.int .i64 c, .int .i64 d][0]? = _ from rfl), run_part_int _ 1 b W (show #[Value.int .i64 a, .int .i64 b][1]? = _ from rfl), run_part_int _ 1 d W (show #[Value.int .i64 c, .int .i64 d][1]? = _ from rfl), run_equalIn_int W 9998 3 .i64 .i64 _ _ hu]
    by_cases h1 : a = c <;> by_cases h2 : b = d <;> simp [h1, h2]
theorem neq_dot (a b c d : Int) (W : World) : (binOp .neq 25 (.agg #[.int .i64 a, .int .i64 b]) (.agg #[.int .i64 c, .int .i64 d])).run Try.prog W = .ok (.bool (!(decide (a = c ∧ b = d)))) W := by
  have hu : Try.prog.underlying 25 = some (.struct (Try.prog.fieldsOf 25)) := by kernel_rfl
  rw [run_neq_struct, run_equalIn_struct _ _ _ _ _ hu (by kernel_rfl), run_eqFields_two, Result.andThen_ok]
theorem eql_dot (a b c d : Int) (W : World) : (binOp .eql 25 (.agg #[.int .i64 a, .int .i64 b]) (.agg #[.int .i64 c, .int .i64 d])).run Try.prog W = .ok (.bool (decide (a = c ∧ b = d))) W := by
  have hu : Try.prog.underlying 25 = some (.struct (Try.prog.fieldsOf 25)) := by kernel_rfl
  rw [run_eql_struct, run_equalIn_struct _ _ _ _ _ hu (by kernel_rfl), run_eqFields_two, Result.andThen_ok]

def SamePost (w : World) (b : Bool) (e : Ending) (w' : World) : Prop := e = .returned (.bool b) ∧ Kept (fun _ => False) w w'

set_option maxHeartbeats 1600000 in
theorem Same_any (A B : Option Addr) (l m : List Dt) (c d : Nat) (w : World) (hl : DotsAt w A l) (hm : DotsAt w B m) (hlen : l.length ≤ 4611686018427387904) :
    Calls Try.prog 21 #[.slice A l.length c, .slice B m.length d] w (SamePost w (decide (l = m))) := by
  by_cases hn : l.length = m.length
  · have HL := Lib.hid hl
    have HM := Lib.hid hm
    clear hl hm
    obtain ⟨b, hb⟩ : ∃ b, decide (l = m) = b := ⟨_, rfl⟩
    rw [hb, ← hn]
    have HN := Lib.hid hn
    have HBB := Lib.hid hb
    clear hn hb
    go_enter Try.func21, Try.ntmps21
    go_wp2_with (fail)
    go_loopw [5] (fun i wr => ∃ k : Nat, i = .int .i64 k ∧ k ≤ l.length ∧ l.take k = m.take k ∧ Kept (fun _ => False) w wr) (fun i _ => l.length - (intOf i).toNat)
    case atStart => exact ⟨0, rfl, Nat.zero_le _, rfl, Kept.refl _ _⟩
    case round =>
      obtain ⟨k, rfl, hk, hat, hkk⟩ := hrel
      have HK := Lib.hid hkk
      have HAT := Lib.hid hat
      by_cases hlt : k < l.length
      · obtain ⟨ad, rfl, x0, x1⟩ := HL.out.fresh hkk k hlt
        obtain ⟨ad', rfl, y0, y1⟩ := HM.out.fresh hkk k (by rw [← HN.out]; exact hlt)
        generalize hd : l[k] = d1 at x0 x1
        generalize hd' : m[k]'(by rw [← HN.out]; exact hlt) = d2 at y0 y1
        have HD := Lib.hid hd
        have HD' := Lib.hid hd'
        clear hd hd' hkk hat
        obtain ⟨a1, b1⟩ := d1
        obtain ⟨a2, b2⟩ := d2
        simp only at x0 x1 y0 y1
        have hx := fun W => neq_dot a1 b1 a2 b2 W
        by_cases he : a1 = a2 ∧ b1 = b2
        · rw [decide_eq_true he] at hx
          have HE := Lib.hid he
          clear he
          go_wp2_with (fail)
          go_quiet (fail)
          go_wp2
          go_roundw
          case rel =>
            refine ⟨k + 1, by go_num, by omega, ?_, HK.out.trans (Kept.drewN_eq nq) fun _ _ e => e⟩
            have hm' : k < m.length := by rw [← HN.out]; exact hlt
            rw [List.take_succ_eq_append_getElem hlt, List.take_succ_eq_append_getElem hm', HAT.out, HD.out, HD'.out, HE.out.1, HE.out.2]
          case measure => simp [intOf]; omega
        · rw [decide_eq_false he] at hx
          have HE := Lib.hid he
          clear he
          go_wp2_with (fail)
          go_quiet (fail)
          go_wp2
          go_ret
          refine ⟨?_, HK.out.trans (Kept.drewN_eq nq) fun _ _ e => e⟩
          rw [← HBB.out]
          refine (ret_bool (decide_eq_false fun e => HE.out ?_)).symm
          subst e
          have := HD.out.symm.trans HD'.out
          injection this with e1 e2
          exact ⟨e1, e2⟩
      · obtain rfl : k = l.length := by omega
        have hkk' := HK.out
        clear hat hkk
        go_wp2
        go_ret
        refine ⟨?_, hkk'⟩
        rw [← HBB.out]
        refine (ret_bool (decide_eq_true ?_)).symm
        have := HAT.out
        rwa [List.take_length, HN.out, List.take_length] at this
  · have hn' : (l.length : Int) ≠ m.length := by omega
    have hb : decide (l = m) = false := decide_eq_false fun e => hn (by rw [e])
    rw [hb]
    generalize l.length = p at *
    generalize m.length = q at *
    clear hb hl hm
    go_enter Try.func21, Try.ntmps21
    go_wp2
    go_ret
    exact ⟨rfl, Kept.refl _ _⟩
end Go.Proofs.Ytlefbnnlcacheaa
