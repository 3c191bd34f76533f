/- op.Check = okOp. Conditions: the lists lie in memory, and nothing is longer than a million. -/
import Derived.Test.YtnfehkncfjgeeaaOChk
import Derived.Test.YtnfehkncfjgeeaaOIns
namespace Go.Proofs.Ytnfehkncfjgeeaa
open Go Go.RowKit

/-- What the kind asks for. -/
def rightB (o : Opr) : Bool := if o.kind = 1 then insB o else if o.kind = 2 then removeB o else if o.kind = 3 then joinB o else if o.kind = 4 then decide (o.gone.length = 0) && bareB o 0 else false
/-- Is it an operation? -/
def okOp (o : Opr) : Bool :=
  decide (1 ≤ o.dot.site ∧ o.dot.site ≤ 16 ∧ 1 ≤ o.dot.seq ∧ o.dot.seq ≤ 2147483647) && decide (checkV o.deps = 0) && decide (getV o.deps o.dot.site = o.dot.seq - 1) && rightB o
def opE (o : Opr) : Int := if okOp o then 0 else 10
set_option maxRecDepth 100000 in
set_option maxHeartbeats 1600000 in
theorem ochk_none (ds dq kind it is rt rs site : Int) (deps : List Dt) (text : ByteArray) (dA gA : Option Addr) (dc gl gc : Nat) (w : World)
    (HOF : Hid (∀ W, Calls Try.prog 66 #[.agg #[.int .i64 ds, .int .i64 dq, .slice dA deps.length dc, .int .i64 kind, .int .i64 it, .int .i64 is, .int .i64 rt, .int .i64 rs, .string text, .slice gA gl gc, .int .i64 site]] W (OfPost W .nilIface))) :
    Calls Try.prog 53 #[.agg #[.int .i64 ds, .int .i64 dq, .slice dA deps.length dc, .int .i64 kind, .int .i64 it, .int .i64 is, .int .i64 rt, .int .i64 rs, .string text, .slice gA gl gc, .int .i64 site]] w (IntPost w 10) := by
  have hnil : ∀ W : World, (binOp .eql 101 .nilIface .nilIface).run Try.prog W = .ok (.bool true) W := fun _ => rfl
  have HK := Lib.hid ((Kept.refl (fun _ => False) w).alloc (.cells #[.int .i64 ds, .int .i64 dq, .slice dA deps.length dc, .int .i64 kind, .int .i64 it, .int .i64 is, .int .i64 rt, .int .i64 rs, .string text, .slice gA gl gc, .int .i64 site] 45))
  go_enter Try.func53, Try.ntmps53
  go_wp2_with (fail)
  refine (HOF.out _).mono ?_
  unfold OfPost
  rintro e w1 ⟨rfl, hk⟩
  have HK1 := Lib.hid (HK.out.trans hk fun _ _ e => e)
  clear hk HK
  go_wp2
  go_ret
  exact ⟨rfl, HK1.out⟩
theorem opcheck_kind (ds dq kind it is rt rs site : Int) (deps : List Dt) (text : ByteArray) (dA gA : Option Addr) (dc gl gc : Nat) (w : World) (T : TypeId) (x : Value) (K : Nat) (r : Value) (b : Bool)
    (HOF : Hid (∀ W, Calls Try.prog 66 #[.agg #[.int .i64 ds, .int .i64 dq, .slice dA deps.length dc, .int .i64 kind, .int .i64 it, .int .i64 is, .int .i64 rt, .int .i64 rs, .string text, .slice gA gl gc, .int .i64 site]] W (OfPost W (.iface T x))))
    (hm : ∀ W : World, (method 263 T x "hearsay/op.right").run Try.prog W = .ok (K, r) W) (hcf : ∀ (W : World) (a : Array Value), (callFunc K a).run Try.prog W = .ok (.enter K a) W)
    (HR : Hid (∀ W, Kept (fun _ => False) w W → Calls Try.prog K #[r, .agg #[.int .i64 ds, .int .i64 dq, .slice dA deps.length dc, .int .i64 kind, .int .i64 it, .int .i64 is, .int .i64 rt, .int .i64 rs, .string text, .slice gA gl gc, .int .i64 site]] W (BoolPost W b)))
    (hd : DotsAt w dA deps) (hl : deps.length ≤ 4611686018427387904) :
    Calls Try.prog 53 #[.agg #[.int .i64 ds, .int .i64 dq, .slice dA deps.length dc, .int .i64 kind, .int .i64 it, .int .i64 is, .int .i64 rt, .int .i64 rs, .string text, .slice gA gl gc, .int .i64 site]] w
      (IntPost w (if (decide (1 ≤ ds ∧ ds ≤ 16 ∧ 1 ≤ dq ∧ dq ≤ 2147483647) && decide (checkV deps = 0) && decide (getV deps ds = dq - 1) && b) = true then 0 else 10)) := by
  by_cases h1 : 1 ≤ ds
  · by_cases h2 : ds ≤ 16
    · by_cases h3 : 1 ≤ dq
      · by_cases h4 : dq ≤ 2147483647
        · rw [decide_eq_true (⟨h1, h2, h3, h4⟩ : 1 ≤ ds ∧ ds ≤ 16 ∧ 1 ≤ dq ∧ dq ≤ 2147483647), Bool.true_and]
          by_cases h5 : checkV deps = 0
          · rw [decide_eq_true h5, Bool.true_and]
            by_cases h6 : getV deps ds = dq - 1
            · rw [decide_eq_true h6, Bool.true_and]
              cases h7 : b with
              | false => exact ochk_7 ds dq kind it is rt rs site deps text dA gA dc gl gc w T x K r b HOF hm hcf HR hd hl h1 h2 h3 h4 h5 h6 h7
              | true => exact ochk_8 ds dq kind it is rt rs site deps text dA gA dc gl gc w T x K r b HOF hm hcf HR hd hl h1 h2 h3 h4 h5 h6 h7
            · rw [decide_eq_false h6, Bool.false_and]
              exact ochk_6 ds dq kind it is rt rs site deps text dA gA dc gl gc w T x HOF hd hl h1 h2 h3 h4 h5 h6
          · rw [decide_eq_false h5, Bool.false_and, Bool.false_and]
            exact ochk_5 ds dq kind it is rt rs site deps text dA gA dc gl gc w T x HOF hd hl h1 h2 h3 h4 h5
        · rw [decide_eq_false (by omega), Bool.false_and, Bool.false_and, Bool.false_and]
          exact ochk_4 ds dq kind it is rt rs site deps text dA gA dc gl gc w T x HOF hd h1 h2 h3 (by omega)
      · rw [decide_eq_false (by omega), Bool.false_and, Bool.false_and, Bool.false_and]
        exact ochk_3 ds dq kind it is rt rs site deps text dA gA dc gl gc w T x HOF hd h1 h2 (by omega)
    · rw [decide_eq_false (by omega), Bool.false_and, Bool.false_and, Bool.false_and]
      exact ochk_2 ds dq kind it is rt rs site deps text dA gA dc gl gc w T x HOF hd h1 (by omega)
  · rw [decide_eq_false (by omega), Bool.false_and, Bool.false_and, Bool.false_and]
    exact ochk_1 ds dq kind it is rt rs site deps text dA gA dc gl gc w T x HOF hd (by omega)
/-- An operation's lists, where they lie, and how much there is of it. -/
structure OprAt (w : World) (dA gA : Option Addr) (o : Opr) : Prop where
  dots : DotsAt w dA o.deps
  runs : RunsAt w gA o.gone
  counts : ∀ r ∈ o.gone, inI r.count
  dl : o.deps.length ≤ 1000000
  gl : o.gone.length ≤ 1000000
  tl : o.text.size ≤ 1000000
theorem OpCheck_any (o : Opr) (dA gA : Option Addr) (dc gc : Nat) (w : World) (h : OprAt w dA gA o) : Calls Try.prog 53 #[.agg (o.cells dA dc gA gc)] w (IntPost w (opE o)) := by
  have hof := fun W => opof_any o dA gA dc gc W
  have hi := fun W => insert_any o dA gA dc gc W h.gl h.tl
  have hr := fun W (hk : Kept (fun _ => False) w W) => remove_any o dA gA dc gc W (h.runs.kept hk fun _ _ _ => id) h.counts h.gl
  have hj := fun W => join_any o dA gA dc gc W h.gl
  have hlv := fun W => leave_any o dA gA dc gc W h.gl
  have hd := h.dots
  have hdl := h.dl
  clear h
  obtain ⟨⟨ds, dq⟩, deps, kind, ⟨it, is⟩, ⟨rt, rs⟩, text, gone, site⟩ := o
  unfold opE okOp rightB
  unfold Opr.cells ofV at *
  simp only at hof hi hr hj hlv hd hdl ⊢
  generalize insB ⟨⟨ds, dq⟩, deps, kind, ⟨it, is⟩, ⟨rt, rs⟩, text, gone, site⟩ = bi at *
  generalize removeB ⟨⟨ds, dq⟩, deps, kind, ⟨it, is⟩, ⟨rt, rs⟩, text, gone, site⟩ = br at *
  generalize joinB ⟨⟨ds, dq⟩, deps, kind, ⟨it, is⟩, ⟨rt, rs⟩, text, gone, site⟩ = bj at *
  generalize (decide (gone.length = 0) && bareB ⟨⟨ds, dq⟩, deps, kind, ⟨it, is⟩, ⟨rt, rs⟩, text, gone, site⟩ 0) = bl at *
  by_cases k1 : kind = 1
  · simp only [k1, if_true] at hof ⊢
    exact opcheck_kind ds dq 1 it is rt rs site deps text dA gA dc gone.length gc w _ _ 100 (.agg #[.int .i64 it, .int .i64 is, .int .i64 rt, .int .i64 rs, .string text]) bi (Lib.hid hof) (fun _ => by kernel_rfl) (fun _ _ => by kernel_rfl) (Lib.hid fun W _ => by simpa only [k1] using hi W) hd (by omega)
  by_cases k2 : kind = 2
  · simp only [k2, if_true, if_neg (show ¬ (2 : Int) = 1 by decide)] at hof ⊢
    exact opcheck_kind ds dq 2 it is rt rs site deps text dA gA dc gone.length gc w _ _ 111 (.agg #[.slice gA gone.length gc]) br (Lib.hid hof) (fun _ => by kernel_rfl) (fun _ _ => by kernel_rfl) (Lib.hid fun W hk => by simpa only [k2] using hr W hk) hd (by omega)
  by_cases k3 : kind = 3
  · simp only [k3, if_true, if_neg (show ¬ (3 : Int) = 1 by decide), if_neg (show ¬ (3 : Int) = 2 by decide)] at hof ⊢
    exact opcheck_kind ds dq 3 it is rt rs site deps text dA gA dc gone.length gc w _ _ 121 (.agg #[.int .i64 site]) bj (Lib.hid hof) (fun _ => by kernel_rfl) (fun _ _ => by kernel_rfl) (Lib.hid fun W _ => by simpa only [k3] using hj W) hd (by omega)
  by_cases k4 : kind = 4
  · simp only [k4, if_true, if_neg (show ¬ (4 : Int) = 1 by decide), if_neg (show ¬ (4 : Int) = 2 by decide), if_neg (show ¬ (4 : Int) = 3 by decide)] at hof ⊢
    exact opcheck_kind ds dq 4 it is rt rs site deps text dA gA dc gone.length gc w _ _ 125 (.agg #[]) bl (Lib.hid hof) (fun _ => by kernel_rfl) (fun _ _ => by kernel_rfl) (Lib.hid fun W _ => by simpa only [k4] using hlv W) hd (by omega)
  · simp only [if_neg k1, if_neg k2, if_neg k3, if_neg k4, Bool.and_false] at hof ⊢
    exact ochk_none ds dq kind it is rt rs site deps text dA gA dc gone.length gc w (Lib.hid hof)
end Go.Proofs.Ytnfehkncfjgeeaa
