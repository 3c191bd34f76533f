/- insert.right = insB. Conditions: the text is no longer than a machine holds, the runs are no more than a million. -/
import Derived.Test.YtnfehkncfjgeeaaOIns1
import Derived.Test.YtnfehkncfjgeeaaOIns2
import Derived.Test.YtnfehkncfjgeeaaOIns3
import Derived.Test.YtnfehkncfjgeeaaOIns4
namespace Go.Proofs.Ytnfehkncfjgeeaa
open Go Go.RowKit
theorem insert_any (o : Opr) (dA gA : Option Addr) (dc gc : Nat) (w : World) (hg : o.gone.length ≤ 1000000) (ht : o.text.size ≤ 1000000) :
    Calls Try.prog 100 #[.agg #[.int .i64 o.id.time, .int .i64 o.id.site, .int .i64 o.ref.time, .int .i64 o.ref.site, .string o.text], .agg (o.cells dA dc gA gc)] w (BoolPost w (insB o)) := by
  obtain ⟨⟨ds, dq⟩, deps, kind, ⟨it, is⟩, ⟨rt, rs⟩, text, gone, site⟩ := o
  simp only at hg ht
  unfold Opr.cells
  simp only
  have hnn : cnt text ≤ 1000000 := Nat.le_trans (cnt_le text) ht
  have hB : insB ⟨⟨ds, dq⟩, deps, kind, ⟨it, is⟩, ⟨rt, rs⟩, text, gone, site⟩ = (decide (gone.length = 0) && (sameRest ⟨it, is⟩ ⟨rt, rs⟩ text site ⟨it, is⟩ ⟨rt, rs⟩ text 0 && (decide (0 < cnt text) && (decide (cnt text ≤ 1024) && (decide (badAt text < 0) && (decide (is = ds) &&
    ((!decide ((afterI ⟨it, is⟩ (cnt text - 1)).time = 0 ∧ (afterI ⟨it, is⟩ (cnt text - 1)).site = 0)) && ((decide (rt = 0 ∧ rs = 0) || decide ((afterI ⟨rt, rs⟩ 0).time = rt ∧ (afterI ⟨rt, rs⟩ 0).site = rs)) && decide (rt < it)))))))) ) := by
    unfold insB
    simp only [← id_dec]
    rfl
  have HI := Lib.hid (show InsF it is rt rs text site (sameRest ⟨it, is⟩ ⟨rt, rs⟩ text site ⟨it, is⟩ ⟨rt, rs⟩ text 0) (cnt text) (badAt text) (afterI ⟨it, is⟩ (cnt text - 1)).time (afterI ⟨it, is⟩ (cnt text - 1)).site (afterI ⟨rt, rs⟩ 0).time (afterI ⟨rt, rs⟩ 0).site
      (!decide ((afterI ⟨it, is⟩ (cnt text - 1)).time = 0 ∧ (afterI ⟨it, is⟩ (cnt text - 1)).site = 0)) (decide (rt = 0 ∧ rs = 0)) (decide ((afterI ⟨rt, rs⟩ 0).time = rt ∧ (afterI ⟨rt, rs⟩ 0).site = rs)) from
    { cnt := fun W => Count_any text W (by omega), bad := fun W => BadAt_any text W (by omega),
      a1 := fun W => After_any ⟨it, is⟩ ((cnt text : Int) - 1) W ⟨by omega, by omega⟩, a2 := fun W => After_any ⟨rt, rs⟩ 0 W ⟨by omega, by omega⟩,
      q2 := fun W => eql_rest ⟨it, is⟩ ⟨rt, rs⟩ text site ⟨it, is⟩ ⟨rt, rs⟩ text 0 W, q7 := fun W => neq_id _ _ _ _ W, q8 := fun W => eql_id _ _ _ _ W, q9 := fun W => eql_id _ _ _ _ W })
  rw [hB]
  clear hB
  generalize sameRest ⟨it, is⟩ ⟨rt, rs⟩ text site ⟨it, is⟩ ⟨rt, rs⟩ text 0 = x2 at HI ⊢
  generalize (!decide ((afterI ⟨it, is⟩ (cnt text - 1)).time = 0 ∧ (afterI ⟨it, is⟩ (cnt text - 1)).site = 0)) = x7 at HI ⊢
  generalize decide (rt = 0 ∧ rs = 0) = x8 at HI ⊢
  generalize decide ((afterI ⟨rt, rs⟩ 0).time = rt ∧ (afterI ⟨rt, rs⟩ 0).site = rs) = x9 at HI ⊢
  generalize (afterI ⟨it, is⟩ (cnt text - 1)).time = e1t at HI
  generalize (afterI ⟨it, is⟩ (cnt text - 1)).site = e1s at HI
  generalize (afterI ⟨rt, rs⟩ 0).time = e2t at HI
  generalize (afterI ⟨rt, rs⟩ 0).site = e2s at HI
  generalize cnt text = n at *
  generalize badAt text = z at *
  rcases Nat.eq_zero_or_pos gone.length with h0 | h0
  · rw [h0, decide_eq_true (rfl : (0 : Nat) = 0), Bool.true_and]
    cases h2 : x2 with
    | false => exact ins_2 ds dq kind it is rt rs site deps text dA gA dc gc n z e1t e1s e2t e2s x2 x7 x8 x9 w HI h2
    | true =>
      rw [Bool.true_and]
      rcases Nat.lt_or_ge 0 n with h3 | h3
      · rw [decide_eq_true h3, Bool.true_and]
        rcases Nat.lt_or_ge 1024 n with h4 | h4
        · rw [decide_eq_false (by omega), Bool.false_and]
          exact ins_4 ds dq kind it is rt rs site deps text dA gA dc gc n z e1t e1s e2t e2s x2 x7 x8 x9 w HI h2 h3 h4
        · rw [decide_eq_true h4, Bool.true_and]
          rcases Int.lt_or_le z 0 with h5 | h5
          · rw [decide_eq_true h5, Bool.true_and]
            by_cases h6' : is = ds
            · have h6 : (is == ds) = true := by rw [h6']; exact beq_self_eq_true ds
              rw [decide_eq_true h6', Bool.true_and]
              cases h7 : x7 with
              | false => exact ins_7 ds dq kind it is rt rs site deps text dA gA dc gc n z e1t e1s e2t e2s x2 x7 x8 x9 w HI hnn h2 h3 h4 h5 h6 h7
              | true =>
                rw [Bool.true_and]
                cases h8 : x8 with
                | true =>
                  rw [Bool.true_or, Bool.true_and]
                  rcases Int.lt_or_le rt it with h10 | h10
                  · rw [decide_eq_true h10]
                    exact ins_11 ds dq kind it is rt rs site deps text dA gA dc gc n z e1t e1s e2t e2s x2 x7 x8 x9 w HI hnn h2 h3 h4 h5 h6 h7 h8 h10
                  · rw [decide_eq_false (by omega)]
                    exact ins_9 ds dq kind it is rt rs site deps text dA gA dc gc n z e1t e1s e2t e2s x2 x7 x8 x9 w HI hnn h2 h3 h4 h5 h6 h7 h8 h10
                | false =>
                  rw [Bool.false_or]
                  cases h9 : x9 with
                  | false => exact ins_8 ds dq kind it is rt rs site deps text dA gA dc gc n z e1t e1s e2t e2s x2 x7 x8 x9 w HI hnn h2 h3 h4 h5 h6 h7 h8 h9
                  | true =>
                    rw [Bool.true_and]
                    rcases Int.lt_or_le rt it with h10 | h10
                    · rw [decide_eq_true h10]
                      exact ins_12 ds dq kind it is rt rs site deps text dA gA dc gc n z e1t e1s e2t e2s x2 x7 x8 x9 w HI hnn h2 h3 h4 h5 h6 h7 h8 h9 h10
                    · rw [decide_eq_false (by omega)]
                      exact ins_10 ds dq kind it is rt rs site deps text dA gA dc gc n z e1t e1s e2t e2s x2 x7 x8 x9 w HI hnn h2 h3 h4 h5 h6 h7 h8 h9 h10
            · have h6 : (is == ds) = false := beq_eq_false_iff_ne.mpr h6'
              rw [decide_eq_false h6', Bool.false_and]
              exact ins_6 ds dq kind it is rt rs site deps text dA gA dc gc n z e1t e1s e2t e2s x2 x7 x8 x9 w HI h2 h3 h4 h5 h6
          · rw [decide_eq_false (by omega), Bool.false_and]
            exact ins_5 ds dq kind it is rt rs site deps text dA gA dc gc n z e1t e1s e2t e2s x2 x7 x8 x9 w HI h2 h3 h4 h5
      · rw [decide_eq_false (by omega), Bool.false_and]
        exact ins_3 ds dq kind it is rt rs site deps text dA gA dc gc n z e1t e1s e2t e2s x2 x7 x8 x9 w HI h2 (by omega)
  · rw [decide_eq_false (by omega), Bool.false_and]
    exact ins_1 ds dq kind it is rt rs site deps text dA gA dc gc gone.length n z e1t e1s e2t e2s x2 x7 x8 x9 w HI h0 hg
end Go.Proofs.Ytnfehkncfjgeeaa
