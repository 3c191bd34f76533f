/- The reference's insert = insB. Conditions: the text is no longer than a million. -/
import Derived.Test.YtnfehkncfjgeeaaR8Ins
import Derived.Test.YtnfehkncfjgeeaaOIns
namespace Go.Proofs.Ytnfehkncfjgeeaa
open Go Go.RowKit

theorem toList_nil (t : ByteArray) : t.toList = [] ↔ t = ⟨#[]⟩ := by
  have h := str_dec t ⟨#[]⟩
  have e : (⟨#[]⟩ : ByteArray).toList = [] := by kernel_rfl
  rw [e] at h
  constructor
  · intro hn
    rw [hn] at h
    exact of_decide_eq_true h.symm
  · rintro rfl
    exact e
theorem cnt_zero (t : ByteArray) : cnt t = 0 ↔ t.toList = [] := by
  rw [toList_nil]
  constructor
  · intro h
    obtain ⟨n, hn⟩ : ∃ n, t.size = n := ⟨_, rfl⟩
    unfold cnt cuts at h
    cases n with
    | zero =>
      obtain ⟨d⟩ := t
      have : d = #[] := Array.eq_empty_of_size_eq_zero hn
      rw [this]
    | succ n =>
      rw [hn, pcs, if_pos (by omega)] at h
      simp at h
  · rintro rfl
    kernel_rfl
theorem okId_after (i : Idt) (n : Int) : okId (afterI i n) = !decide (afterI i n = noId) := by
  unfold afterI
  split
  · rename_i h
    obtain ⟨h1, h2, h3⟩ := h
    rw [okId_iff] at h1
    have hk : okId ⟨i.time + n, i.site⟩ = true := (okId_iff ⟨i.time + n, i.site⟩).2 ⟨by show 1 ≤ i.time + n; omega, by show i.time + n ≤ 2147483647; omega, h1.2.2.1, h1.2.2.2⟩
    have hd : decide ((⟨i.time + n, i.site⟩ : Idt) = noId) = false := decide_eq_false fun e => by
      injection e with e1 e2
      omega
    rw [hk, hd]
    rfl
  · rw [decide_eq_true rfl]
    kernel_rfl
theorem okId_self (i : Idt) (h : ¬ i = noId) : okId i = decide (afterI i 0 = i) := by
  unfold afterI
  by_cases hk : okId i = true
  · have := (okId_iff i).1 hk
    rw [hk, if_pos ⟨rfl, by omega, by omega⟩, decide_eq_true]
    simp
  · rw [if_neg fun e => hk e.1, decide_eq_false fun e => h e.symm]
    simpa using hk
/-- The tests of an insert, in the reference's order. -/
theorem insB_ref (o : Opr) : insB o = (decide (o.gone.length = 0) && (decide (o.site = 0) && (decide (¬ o.text.toList = []) && (decide (badAt o.text < 0) && (decide (cnt o.text ≤ 1024) && (decide (o.id.site = o.dot.site) &&
    (okId (afterI o.id (cnt o.text - 1)) && ((decide (o.ref.time = 0 ∧ o.ref.site = 0) || okId o.ref) && decide (o.ref.time < o.id.time))))))))) := by
  have h1 : sameRest o.id o.ref o.text o.site o.id o.ref o.text 0 = decide (o.site = 0) := by simp [sameRest]
  have h2 : decide (0 < cnt o.text) = decide (¬ o.text.toList = []) := decide_eq_decide.2 (by rw [← cnt_zero]; omega)
  have h3 : decide (o.ref.time = 0 ∧ o.ref.site = 0) = decide (o.ref = noId) := id_dec o.ref noId
  have h4 : (decide (o.ref = noId) || decide (afterI o.ref 0 = o.ref)) = (decide (o.ref = noId) || okId o.ref) := by
    by_cases h : o.ref = noId
    · rw [decide_eq_true h, Bool.true_or, Bool.true_or]
    · rw [okId_self _ h]
  unfold insB
  rw [h1, h2, h3, h4, okId_after]
  rw [Bool.eq_iff_iff]
  simp only [Bool.and_eq_true]
  constructor
  · rintro ⟨a, b, c, d, e, f⟩; exact ⟨a, b, c, e, d, f⟩
  · rintro ⟨a, b, c, d, e, f⟩; exact ⟨a, b, c, e, d, f⟩
theorem RInsert_any (o : Opr) (dA gA : Option Addr) (dc gc : Nat) (w : World) (ht : o.text.size ≤ 1000000) :
    Calls Try.prog 68 #[.agg (o.cells dA dc gA gc)] w (BoolPost w (insB o)) := by
  rw [insB_ref]
  obtain ⟨⟨ds, dq⟩, deps, kind, ⟨it, is⟩, ⟨rt, rs⟩, text, gone, site⟩ := o
  simp only at ht
  unfold Opr.cells
  simp only
  have hnn : cnt text ≤ 1000000 := Nat.le_trans (cnt_le text) ht
  have HI := Lib.hid (show RInsF it is rt rs text (decide (badAt text < 0)) (cnt text) (afterI ⟨it, is⟩ (cnt text - 1)).time (afterI ⟨it, is⟩ (cnt text - 1)).site (okId (afterI ⟨it, is⟩ (cnt text - 1))) (okId ⟨rt, rs⟩) (decide (rt = 0 ∧ rs = 0)) from
    { good := fun W => Good_any text W ht, cnt := fun W => RCount_any text W ht, after := fun W => RAfter_any ⟨it, is⟩ ((cnt text : Int) - 1) W ⟨by omega, by omega⟩,
      i1 := fun W => IsID_any (afterI ⟨it, is⟩ (cnt text - 1)) W, i2 := fun W => IsID_any ⟨rt, rs⟩ W, q8 := fun W => eql_id _ _ _ _ W })
  have hz := cnt_zero text
  generalize okId (afterI ⟨it, is⟩ (cnt text - 1)) = y at HI ⊢
  generalize (afterI ⟨it, is⟩ (cnt text - 1)).time = et at HI
  generalize (afterI ⟨it, is⟩ (cnt text - 1)).site = es at HI
  generalize okId ⟨rt, rs⟩ = y' at HI ⊢
  generalize decide (rt = 0 ∧ rs = 0) = x8 at HI ⊢
  generalize decide (badAt text < 0) = g at HI ⊢
  generalize cnt text = n at *
  rcases Nat.eq_zero_or_pos gone.length with h0 | h0
  · rw [h0, decide_eq_true (rfl : (0 : Nat) = 0), Bool.true_and]
    by_cases hs : site = 0
    · subst hs
      rw [decide_eq_true (rfl : (0 : Int) = 0), Bool.true_and]
      by_cases h3 : text.toList = []
      · rw [decide_eq_false fun e => e h3, Bool.false_and]
        exact rin_3 ds dq kind it is rt rs deps.length text dA gA dc gc n et es g y y' x8 w HI h3
      · have hn0 : 0 < n := Nat.pos_of_ne_zero fun e => h3 (hz.1 e)
        rw [decide_eq_true h3, Bool.true_and]
        clear hz
        cases h4 : g with
        | false => exact rin_4 ds dq kind it is rt rs deps.length text dA gA dc gc n et es g y y' x8 w HI h3 h4
        | true =>
          rw [Bool.true_and]
          rcases Nat.lt_or_ge 1024 n with h5 | h5
          · rw [decide_eq_false (by omega), Bool.false_and]
            exact rin_5 ds dq kind it is rt rs deps.length text dA gA dc gc n et es g y y' x8 w HI hn0 hnn h3 h4 h5
          · rw [decide_eq_true h5, Bool.true_and]
            by_cases h6 : is = ds
            · rw [decide_eq_true h6, Bool.true_and]
              cases h7 : y with
              | false => exact rin_7 ds dq kind it is rt rs deps.length text dA gA dc gc n et es g y y' x8 w HI hn0 hnn h3 h4 h5 h6 h7
              | true =>
                rw [Bool.true_and]
                cases h8 : x8 with
                | true =>
                  rw [Bool.true_or, Bool.true_and]
                  rcases Int.lt_or_le rt it with h10 | h10
                  · rw [decide_eq_true h10]
                    exact rin_11 ds dq kind it is rt rs deps.length text dA gA dc gc n et es g y y' x8 w HI hn0 hnn h3 h4 h5 h6 h7 h8 h10
                  · rw [decide_eq_false (by omega)]
                    exact rin_9 ds dq kind it is rt rs deps.length text dA gA dc gc n et es g y y' x8 w HI hn0 hnn h3 h4 h5 h6 h7 h8 h10
                | false =>
                  rw [Bool.false_or]
                  cases h9 : y' with
                  | false => exact rin_8 ds dq kind it is rt rs deps.length text dA gA dc gc n et es g y y' x8 w HI hn0 hnn h3 h4 h5 h6 h7 h8 h9
                  | true =>
                    rw [Bool.true_and]
                    rcases Int.lt_or_le rt it with h10 | h10
                    · rw [decide_eq_true h10]
                      exact rin_12 ds dq kind it is rt rs deps.length text dA gA dc gc n et es g y y' x8 w HI hn0 hnn h3 h4 h5 h6 h7 h8 h9 h10
                    · rw [decide_eq_false (by omega)]
                      exact rin_10 ds dq kind it is rt rs deps.length text dA gA dc gc n et es g y y' x8 w HI hn0 hnn h3 h4 h5 h6 h7 h8 h9 h10
            · rw [decide_eq_false h6, Bool.false_and]
              exact rin_6 ds dq kind it is rt rs deps.length text dA gA dc gc n et es g y y' x8 w HI hn0 hnn h3 h4 h5 h6
    · rw [decide_eq_false hs, Bool.false_and]
      exact rin_2 ds dq kind it is rt rs site deps.length text dA gA dc gc n et es g y y' x8 w HI hs
  · rw [decide_eq_false (by omega), Bool.false_and]
    exact rin_1 ds dq kind it is rt rs site deps.length text dA gA dc gc gone.length n et es g y y' x8 w HI h0
end Go.Proofs.Ytnfehkncfjgeeaa
