/- insert.right = insB. Conditions: the text is no longer than a machine holds, the runs are no more than a million. · op.Check = okOp. Conditions: the lists lie in memory, and nothing is longer than a million. · The plain law of taking: what is taken is what would be laid. No program in sight. -/
import Derived.Test.YtnlklhlnnoihiaaMO24
import Derived.Test.YtnlklhlnnoihiaaMO25
import Derived.Test.YtnlklhlnnoihiaaMO21
import Derived.Test.YtnlklhlnnoihiaaMO18
namespace Go.Proofs.Ytnlklhlnnoihiaa
open Go Go.RowKit
theorem insert_any (o : Opr) (dA gA : Option Addr) (dc gc : Nat) (w : World) (hg : o.gone.length ≤ 1000000) (ht : o.text.size ≤ 1000000) :
    Calls Try.prog 100 #[.agg #[.int .i64 o.id.time, .int .i64 o.id.site, .int .i64 o.ref.time, .int .i64 o.ref.site, .string o.text], .agg (o.cells dA dc gA gc)] w (BoolPost w (insB o)) := by
  obtain ⟨⟨ds, dq⟩, deps, kind, ⟨it, is⟩, ⟨rt, rs⟩, text, gone, site⟩ := o
  simp only at hg ht
  unfold Opr.cells
  simp only
  have hnn : cnt text ≤ 1000000 := Nat.le_trans (cnt_le text) ht
  have hB : insB ⟨⟨ds, dq⟩, deps, kind, ⟨it, is⟩, ⟨rt, rs⟩, text, gone, site⟩ = (decide (gone.length = 0) && (sameRest ⟨it, is⟩ ⟨rt, rs⟩ text site ⟨it, is⟩ ⟨rt, rs⟩ text 0 && (decide (0 < cnt text) && (decide (cnt text ≤ 1024) && (decide (badAt text < 0) && (decide (is = ds) &&
    ((!decide ((afterI ⟨it, is⟩ (cnt text - 1)).time = 0 ∧ (afterI ⟨it, is⟩ (cnt text - 1)).site = 0)) && ((decide (rt = 0 ∧ rs = 0) || decide ((afterI ⟨rt, rs⟩ 0).time = rt ∧ (afterI ⟨rt, rs⟩ 0).site = rs)) && decide (rt < it)))))))) ) := by
    unfold insB
    simp only [← id_dec]
    rfl
  have HI := Lib.hid (show InsF it is rt rs text site (sameRest ⟨it, is⟩ ⟨rt, rs⟩ text site ⟨it, is⟩ ⟨rt, rs⟩ text 0) (cnt text) (badAt text) (afterI ⟨it, is⟩ (cnt text - 1)).time (afterI ⟨it, is⟩ (cnt text - 1)).site (afterI ⟨rt, rs⟩ 0).time (afterI ⟨rt, rs⟩ 0).site
      (!decide ((afterI ⟨it, is⟩ (cnt text - 1)).time = 0 ∧ (afterI ⟨it, is⟩ (cnt text - 1)).site = 0)) (decide (rt = 0 ∧ rs = 0)) (decide ((afterI ⟨rt, rs⟩ 0).time = rt ∧ (afterI ⟨rt, rs⟩ 0).site = rs)) from
    { cnt := fun W => Count_any text W (by omega), bad := fun W => BadAt_any text W (by omega),
      a1 := fun W => After_any ⟨it, is⟩ ((cnt text : Int) - 1) W ⟨by omega, by omega⟩, a2 := fun W => After_any ⟨rt, rs⟩ 0 W ⟨by omega, by omega⟩,
      q2 := fun W => eql_rest ⟨it, is⟩ ⟨rt, rs⟩ text site ⟨it, is⟩ ⟨rt, rs⟩ text 0 W, q7 := fun W => neq_id _ _ _ _ W, q8 := fun W => eql_id _ _ _ _ W, q9 := fun W => eql_id _ _ _ _ W })
  rw [hB]
  clear hB
  generalize sameRest ⟨it, is⟩ ⟨rt, rs⟩ text site ⟨it, is⟩ ⟨rt, rs⟩ text 0 = x2 at HI ⊢
  generalize (!decide ((afterI ⟨it, is⟩ (cnt text - 1)).time = 0 ∧ (afterI ⟨it, is⟩ (cnt text - 1)).site = 0)) = x7 at HI ⊢
  generalize decide (rt = 0 ∧ rs = 0) = x8 at HI ⊢
  generalize decide ((afterI ⟨rt, rs⟩ 0).time = rt ∧ (afterI ⟨rt, rs⟩ 0).site = rs) = x9 at HI ⊢
  generalize (afterI ⟨it, is⟩ (cnt text - 1)).time = e1t at HI
  generalize (afterI ⟨it, is⟩ (cnt text - 1)).site = e1s at HI
  generalize (afterI ⟨rt, rs⟩ 0).time = e2t at HI
  generalize (afterI ⟨rt, rs⟩ 0).site = e2s at HI
  generalize cnt text = n at *
  generalize badAt text = z at *
  rcases Nat.eq_zero_or_pos gone.length with h0 | h0
  · rw [h0, decide_eq_true (rfl : (0 : Nat) = 0), Bool.true_and]
    cases h2 : x2 with
    | false => exact ins_2 ds dq kind it is rt rs site deps text dA gA dc gc n z e1t e1s e2t e2s x2 x7 x8 x9 w HI h2
    | true =>
      rw [Bool.true_and]
      rcases Nat.lt_or_ge 0 n with h3 | h3
      · rw [decide_eq_true h3, Bool.true_and]
        rcases Nat.lt_or_ge 1024 n with h4 | h4
        · rw [decide_eq_false (by omega), Bool.false_and]
          exact ins_4 ds dq kind it is rt rs site deps text dA gA dc gc n z e1t e1s e2t e2s x2 x7 x8 x9 w HI h2 h3 h4
        · rw [decide_eq_true h4, Bool.true_and]
          rcases Int.lt_or_le z 0 with h5 | h5
          · rw [decide_eq_true h5, Bool.true_and]
            by_cases h6' : is = ds
            · have h6 : (is == ds) = true := by rw [h6']; exact beq_self_eq_true ds
              rw [decide_eq_true h6', Bool.true_and]
              cases h7 : x7 with
              | false => exact ins_7 ds dq kind it is rt rs site deps text dA gA dc gc n z e1t e1s e2t e2s x2 x7 x8 x9 w HI hnn h2 h3 h4 h5 h6 h7
              | true =>
                rw [Bool.true_and]
                cases h8 : x8 with
                | true =>
                  rw [Bool.true_or, Bool.true_and]
                  rcases Int.lt_or_le rt it with h10 | h10
                  · rw [decide_eq_true h10]
                    exact ins_11 ds dq kind it is rt rs site deps text dA gA dc gc n z e1t e1s e2t e2s x2 x7 x8 x9 w HI hnn h2 h3 h4 h5 h6 h7 h8 h10
                  · rw [decide_eq_false (by omega)]
                    exact ins_9 ds dq kind it is rt rs site deps text dA gA dc gc n z e1t e1s e2t e2s x2 x7 x8 x9 w HI hnn h2 h3 h4 h5 h6 h7 h8 h10
                | false =>
                  rw [Bool.false_or]
                  cases h9 : x9 with
                  | false => exact ins_8 ds dq kind it is rt rs site deps text dA gA dc gc n z e1t e1s e2t e2s x2 x7 x8 x9 w HI hnn h2 h3 h4 h5 h6 h7 h8 h9
                  | true =>
                    rw [Bool.true_and]
                    rcases Int.lt_or_le rt it with h10 | h10
                    · rw [decide_eq_true h10]
                      exact ins_12 ds dq kind it is rt rs site deps text dA gA dc gc n z e1t e1s e2t e2s x2 x7 x8 x9 w HI hnn h2 h3 h4 h5 h6 h7 h8 h9 h10
                    · rw [decide_eq_false (by omega)]
                      exact ins_10 ds dq kind it is rt rs site deps text dA gA dc gc n z e1t e1s e2t e2s x2 x7 x8 x9 w HI hnn h2 h3 h4 h5 h6 h7 h8 h9 h10
            · have h6 : (is == ds) = false := beq_eq_false_iff_ne.mpr h6'
              rw [decide_eq_false h6', Bool.false_and]
              exact ins_6 ds dq kind it is rt rs site deps text dA gA dc gc n z e1t e1s e2t e2s x2 x7 x8 x9 w HI h2 h3 h4 h5 h6
          · rw [decide_eq_false (by omega), Bool.false_and]
            exact ins_5 ds dq kind it is rt rs site deps text dA gA dc gc n z e1t e1s e2t e2s x2 x7 x8 x9 w HI h2 h3 h4 h5
      · rw [decide_eq_false (by omega), Bool.false_and]
        exact ins_3 ds dq kind it is rt rs site deps text dA gA dc gc n z e1t e1s e2t e2s x2 x7 x8 x9 w HI h2 (by omega)
  · rw [decide_eq_false (by omega), Bool.false_and]
    exact ins_1 ds dq kind it is rt rs site deps text dA gA dc gc gone.length n z e1t e1s e2t e2s x2 x7 x8 x9 w HI h0 hg
end Go.Proofs.Ytnlklhlnnoihiaa

namespace Go.Proofs.Ytnlklhlnnoihiaa
open Go Go.RowKit

/-- What the kind asks for. -/
def rightB (o : Opr) : Bool := if o.kind = 1 then insB o else if o.kind = 2 then removeB o else if o.kind = 3 then joinB o else if o.kind = 4 then decide (o.gone.length = 0) && bareB o 0 else false
/-- Is it an operation? -/
def okOp (o : Opr) : Bool :=
  decide (1 ≤ o.dot.site ∧ o.dot.site ≤ 16 ∧ 1 ≤ o.dot.seq ∧ o.dot.seq ≤ 2147483647) && decide (checkV o.deps = 0) && decide (getV o.deps o.dot.site = o.dot.seq - 1) && rightB o
def opE (o : Opr) : Int := if okOp o then 0 else 10
set_option maxRecDepth 100000 in
set_option maxHeartbeats 1600000 in
theorem ochk_none (ds dq kind it is rt rs site : Int) (deps : List Dt) (text : ByteArray) (dA gA : Option Addr) (dc gl gc : Nat) (w : World)
    (HOF : Hid (∀ W, Calls Try.prog 45 #[.agg #[.int .i64 ds, .int .i64 dq, .slice dA deps.length dc, .int .i64 kind, .int .i64 it, .int .i64 is, .int .i64 rt, .int .i64 rs, .string text, .slice gA gl gc, .int .i64 site]] W (OfPost W .nilIface))) :
    Calls Try.prog 15 #[.agg #[.int .i64 ds, .int .i64 dq, .slice dA deps.length dc, .int .i64 kind, .int .i64 it, .int .i64 is, .int .i64 rt, .int .i64 rs, .string text, .slice gA gl gc, .int .i64 site]] w (IntPost w 10) := by
  have hnil : ∀ W : World, (binOp .eql 85 .nilIface .nilIface).run Try.prog W = .ok (.bool true) W := fun _ => rfl
  have HK := Lib.hid ((Kept.refl (fun _ => False) w).alloc (.cells #[.int .i64 ds, .int .i64 dq, .slice dA deps.length dc, .int .i64 kind, .int .i64 it, .int .i64 is, .int .i64 rt, .int .i64 rs, .string text, .slice gA gl gc, .int .i64 site] 30))
  go_enter Try.func15, Try.ntmps15
  go_wp2_with (fail)
  refine (HOF.out _).mono ?_
  unfold OfPost
  rintro e w1 ⟨rfl, hk⟩
  have HK1 := Lib.hid (HK.out.trans hk fun _ _ e => e)
  clear hk HK
  go_wp2
  go_ret
  exact ⟨rfl, HK1.out⟩
theorem opcheck_kind (ds dq kind it is rt rs site : Int) (deps : List Dt) (text : ByteArray) (dA gA : Option Addr) (dc gl gc : Nat) (w : World) (T : TypeId) (x : Value) (K : Nat) (r : Value) (b : Bool)
    (HOF : Hid (∀ W, Calls Try.prog 45 #[.agg #[.int .i64 ds, .int .i64 dq, .slice dA deps.length dc, .int .i64 kind, .int .i64 it, .int .i64 is, .int .i64 rt, .int .i64 rs, .string text, .slice gA gl gc, .int .i64 site]] W (OfPost W (.iface T x))))
    (hm : ∀ W : World, (method 270 T x "hearsay/op.right").run Try.prog W = .ok (K, r) W) (hcf : ∀ (W : World) (a : Array Value), (callFunc K a).run Try.prog W = .ok (.enter K a) W)
    (HR : Hid (∀ W, Kept (fun _ => False) w W → Calls Try.prog K #[r, .agg #[.int .i64 ds, .int .i64 dq, .slice dA deps.length dc, .int .i64 kind, .int .i64 it, .int .i64 is, .int .i64 rt, .int .i64 rs, .string text, .slice gA gl gc, .int .i64 site]] W (BoolPost W b)))
    (hd : DotsAt w dA deps) (hl : deps.length ≤ 4611686018427387904) :
    Calls Try.prog 15 #[.agg #[.int .i64 ds, .int .i64 dq, .slice dA deps.length dc, .int .i64 kind, .int .i64 it, .int .i64 is, .int .i64 rt, .int .i64 rs, .string text, .slice gA gl gc, .int .i64 site]] w
      (IntPost w (if (decide (1 ≤ ds ∧ ds ≤ 16 ∧ 1 ≤ dq ∧ dq ≤ 2147483647) && decide (checkV deps = 0) && decide (getV deps ds = dq - 1) && b) = true then 0 else 10)) := by
  by_cases h1 : 1 ≤ ds
  · by_cases h2 : ds ≤ 16
    · by_cases h3 : 1 ≤ dq
      · by_cases h4 : dq ≤ 2147483647
        · rw [decide_eq_true (⟨h1, h2, h3, h4⟩ : 1 ≤ ds ∧ ds ≤ 16 ∧ 1 ≤ dq ∧ dq ≤ 2147483647), Bool.true_and]
          by_cases h5 : checkV deps = 0
          · rw [decide_eq_true h5, Bool.true_and]
            by_cases h6 : getV deps ds = dq - 1
            · rw [decide_eq_true h6, Bool.true_and]
              cases h7 : b with
              | false => exact ochk_7 ds dq kind it is rt rs site deps text dA gA dc gl gc w T x K r b HOF hm hcf HR hd hl h1 h2 h3 h4 h5 h6 h7
              | true => exact ochk_8 ds dq kind it is rt rs site deps text dA gA dc gl gc w T x K r b HOF hm hcf HR hd hl h1 h2 h3 h4 h5 h6 h7
            · rw [decide_eq_false h6, Bool.false_and]
              exact ochk_6 ds dq kind it is rt rs site deps text dA gA dc gl gc w T x HOF hd hl h1 h2 h3 h4 h5 h6
          · rw [decide_eq_false h5, Bool.false_and, Bool.false_and]
            exact ochk_5 ds dq kind it is rt rs site deps text dA gA dc gl gc w T x HOF hd hl h1 h2 h3 h4 h5
        · rw [decide_eq_false (by omega), Bool.false_and, Bool.false_and, Bool.false_and]
          exact ochk_4 ds dq kind it is rt rs site deps text dA gA dc gl gc w T x HOF hd h1 h2 h3 (by omega)
      · rw [decide_eq_false (by omega), Bool.false_and, Bool.false_and, Bool.false_and]
        exact ochk_3 ds dq kind it is rt rs site deps text dA gA dc gl gc w T x HOF hd h1 h2 (by omega)
    · rw [decide_eq_false (by omega), Bool.false_and, Bool.false_and, Bool.false_and]
      exact ochk_2 ds dq kind it is rt rs site deps text dA gA dc gl gc w T x HOF hd h1 (by omega)
  · rw [decide_eq_false (by omega), Bool.false_and, Bool.false_and, Bool.false_and]
    exact ochk_1 ds dq kind it is rt rs site deps text dA gA dc gl gc w T x HOF hd (by omega)
/-- An operation's lists, where they lie, and how much there is of it. -/
structure OprAt (w : World) (dA gA : Option Addr) (o : Opr) : Prop where
  dots : DotsAt w dA o.deps
  runs : RunsAt w gA o.gone
  counts : ∀ r ∈ o.gone, inI r.count
  dl : o.deps.length ≤ 1000000
  gl : o.gone.length ≤ 1000000
  tl : o.text.size ≤ 1000000
theorem OpCheck_any (o : Opr) (dA gA : Option Addr) (dc gc : Nat) (w : World) (h : OprAt w dA gA o) : Calls Try.prog 15 #[.agg (o.cells dA dc gA gc)] w (IntPost w (opE o)) := by
  have hof := fun W => opof_any o dA gA dc gc W
  have hi := fun W => insert_any o dA gA dc gc W h.gl h.tl
  have hr := fun W (hk : Kept (fun _ => False) w W) => remove_any o dA gA dc gc W (h.runs.kept hk fun _ _ _ => id) h.counts h.gl
  have hj := fun W => join_any o dA gA dc gc W h.gl
  have hlv := fun W => leave_any o dA gA dc gc W h.gl
  have hd := h.dots
  have hdl := h.dl
  clear h
  obtain ⟨⟨ds, dq⟩, deps, kind, ⟨it, is⟩, ⟨rt, rs⟩, text, gone, site⟩ := o
  unfold opE okOp rightB
  unfold Opr.cells ofV at *
  simp only at hof hi hr hj hlv hd hdl ⊢
  generalize insB ⟨⟨ds, dq⟩, deps, kind, ⟨it, is⟩, ⟨rt, rs⟩, text, gone, site⟩ = bi at *
  generalize removeB ⟨⟨ds, dq⟩, deps, kind, ⟨it, is⟩, ⟨rt, rs⟩, text, gone, site⟩ = br at *
  generalize joinB ⟨⟨ds, dq⟩, deps, kind, ⟨it, is⟩, ⟨rt, rs⟩, text, gone, site⟩ = bj at *
  generalize (decide (gone.length = 0) && bareB ⟨⟨ds, dq⟩, deps, kind, ⟨it, is⟩, ⟨rt, rs⟩, text, gone, site⟩ 0) = bl at *
  by_cases k1 : kind = 1
  · simp only [k1, if_true] at hof ⊢
    exact opcheck_kind ds dq 1 it is rt rs site deps text dA gA dc gone.length gc w _ _ 100 (.agg #[.int .i64 it, .int .i64 is, .int .i64 rt, .int .i64 rs, .string text]) bi (Lib.hid hof) (fun _ => by kernel_rfl) (fun _ _ => by kernel_rfl) (Lib.hid fun W _ => by simpa only [k1] using hi W) hd (by omega)
  by_cases k2 : kind = 2
  · simp only [k2, if_true, if_neg (show ¬ (2 : Int) = 1 by decide)] at hof ⊢
    exact opcheck_kind ds dq 2 it is rt rs site deps text dA gA dc gone.length gc w _ _ 112 (.agg #[.slice gA gone.length gc]) br (Lib.hid hof) (fun _ => by kernel_rfl) (fun _ _ => by kernel_rfl) (Lib.hid fun W hk => by simpa only [k2] using hr W hk) hd (by omega)
  by_cases k3 : kind = 3
  · simp only [k3, if_true, if_neg (show ¬ (3 : Int) = 1 by decide), if_neg (show ¬ (3 : Int) = 2 by decide)] at hof ⊢
    exact opcheck_kind ds dq 3 it is rt rs site deps text dA gA dc gone.length gc w _ _ 122 (.agg #[.int .i64 site]) bj (Lib.hid hof) (fun _ => by kernel_rfl) (fun _ _ => by kernel_rfl) (Lib.hid fun W _ => by simpa only [k3] using hj W) hd (by omega)
  by_cases k4 : kind = 4
  · simp only [k4, if_true, if_neg (show ¬ (4 : Int) = 1 by decide), if_neg (show ¬ (4 : Int) = 2 by decide), if_neg (show ¬ (4 : Int) = 3 by decide)] at hof ⊢
    exact opcheck_kind ds dq 4 it is rt rs site deps text dA gA dc gone.length gc w _ _ 126 (.agg #[]) bl (Lib.hid hof) (fun _ => by kernel_rfl) (fun _ _ => by kernel_rfl) (Lib.hid fun W _ => by simpa only [k4] using hlv W) hd (by omega)
  · simp only [if_neg k1, if_neg k2, if_neg k3, if_neg k4, Bool.and_false] at hof ⊢
    exact ochk_none ds dq kind it is rt rs site deps text dA gA dc gone.length gc w (Lib.hid hof)
end Go.Proofs.Ytnlklhlnnoihiaa

namespace Go.Proofs.Ytnlklhlnnoihiaa

theorem take_inv (l : List Int) : ∀ (n acc v k : Nat), isByte l → takeFrom n acc l = (0, v, k) → n < k ∧ k - n ≤ l.length ∧ ∃ x, v = acc + x * 128 ^ n ∧ l.take (k - n) = enc x ∧ (n = 0 ∨ 0 < x) := by
  induction l with
  | nil => intro n acc v k _ h; rw [take_nil] at h; injection h with h; cases h
  | cons c t ih =>
    intro n acc v k hb h
    obtain ⟨hc0, hc1⟩ := hb c (by simp)
    have hbt : isByte t := fun x hx => hb x (by simp [hx])
    by_cases h1 : 128 ≤ c
    · by_cases h8 : n = 8
      · subst h8; rw [take_long h1] at h; injection h with h; cases h
      · rw [take_more' h1 h8] at h
        obtain ⟨hk, hkl, x, hv, ht, hx⟩ := ih _ _ _ _ hbt h
        have hx0 : 0 < x := by omega
        obtain ⟨y, rfl⟩ : ∃ y : Nat, c = y := ⟨c.toNat, by omega⟩
        have e1 : ((y : Int) - 128).toNat = y - 128 := by omega
        rw [e1] at hv
        refine ⟨by omega, by simp only [List.length_cons]; omega, (y - 128) + x * 128, ?_, ?_, .inr (by omega)⟩
        · rw [hv, Nat.pow_succ, Nat.add_mul, Nat.mul_assoc x, Nat.mul_comm 128 (128 ^ n)]
          omega
        · have e2 : k - n = k - (n + 1) + 1 := by omega
          rw [e2, List.take_succ_cons, ht, enc_big (show ¬ (y - 128) + x * 128 < 128 by omega)]
          have e3 : ((y - 128) + x * 128) % 128 + 128 = y := by omega
          have e4 : ((y - 128) + x * 128) / 128 = x := by omega
          rw [e3, e4]
    · by_cases h0 : c = 0 ∧ 0 < n
      · obtain ⟨rfl, hn⟩ := h0
        rw [take_zero hn] at h; injection h with h; cases h
      · rw [take_end h1 h0] at h
        injection h with _ h
        injection h with hv hk
        obtain ⟨y, rfl⟩ : ∃ y : Nat, c = y := ⟨c.toNat, by omega⟩
        subst hk hv
        refine ⟨by omega, by simp only [List.length_cons]; omega, y, by simp, ?_, by omega⟩
        have e2 : n + 1 - n = 1 := by omega
        rw [e2, enc_small (show y < 128 by omega)]
        rfl
theorem Rd.inv {s : Rd} (hb : isByte s.l) (he : s.e = 0) (hn : s.nx.e = 0) : s.l = enc s.val ++ s.nx.l ∧ isByte s.nx.l := by
  obtain ⟨l, e⟩ := s
  simp only at hb he
  subst he
  rcases ht : takeFrom 0 0 l with ⟨er, v, k⟩
  have h1 : (⟨l, 0⟩ : Rd).val = v := by simp [Rd.val, ht]
  have h2 : (⟨l, 0⟩ : Rd).nx = ⟨l.drop k, er⟩ := by simp [Rd.nx, ht]
  rw [h2] at hn
  simp only at hn
  subst hn
  obtain ⟨_, hkl, x, hv, hx, _⟩ := take_inv l 0 0 v k hb ht
  rw [h1, h2]
  simp only [Nat.sub_zero, Nat.pow_zero, Nat.mul_one, Nat.zero_add] at hx hv
  subst hv
  exact ⟨by rw [← hx]; exact (List.take_append_drop k l).symm, fun b hb' => hb b (List.mem_of_mem_drop hb')⟩
theorem takeLoop_inv : ∀ (k : Nat) (last : Int) (acc V : List Dt) (s s' : Rd), isByte s.l → s.e = 0 → takeLoop k last acc s = (0, V, s') → ∃ U, V = acc ++ U ∧ U.length = k ∧ s.l = encs (dotNums U) ++ s'.l ∧ s'.e = 0 ∧ checkFrom last U = 0 := by
  intro k
  induction k with
  | zero =>
    intro last acc V s s' _ he h
    rw [takeLoop] at h
    injection h with _ h
    injection h with h1 h2
    subst h1 h2
    exact ⟨[], by simp, rfl, by simp [dotNums, encs], he, rfl⟩
  | succ k ih =>
    intro last acc V s s' hb he h
    by_cases h1 : s.nx.e = 0
    · by_cases h2 : siteB s.val = false ∨ (s.val : Int) ≤ last
      · rw [tl2 h1 h2] at h; injection h with h; cases h
      · by_cases h3 : s.nx.nx.e = 0
        · by_cases h4 : s.nx.val < 1 ∨ 2147483647 < s.nx.val
          · rw [tl4 h1 h2 h3 h4] at h; injection h with h; cases h
          · rw [tl5 h1 h2 h3 h4] at h
            obtain ⟨i1, b1⟩ := Rd.inv hb he h1
            obtain ⟨i2, b2⟩ := Rd.inv b1 h1 h3
            obtain ⟨U, hV, hU, hl, he', hc⟩ := ih _ _ _ _ _ b2 h3 h
            refine ⟨⟨s.val, s.nx.val⟩ :: U, by rw [hV]; simp, by simp [hU], ?_, he', ?_⟩
            · rw [i1, i2, hl]
              simp [dotNums, encs]
            · simp only [checkFrom]
              rw [if_neg (fun e => h2 (.inl e)), if_neg (by omega), if_neg (fun e => h2 (.inr e))]
              exact hc
        · rw [tl3 h1 h2 h3] at h
          injection h with h
          exact absurd h h3
    · rw [tl1 h1] at h
      injection h with h
      exact absurd h h1
theorem takeLoop_len : ∀ (k : Nat) (last : Int) (acc : List Dt) (s : Rd), (takeLoop k last acc s).2.1.length ≤ acc.length + k := by
  intro k
  induction k with
  | zero => intro last acc s; simp [takeLoop]
  | succ k ih =>
    intro last acc s
    simp only [takeLoop]
    split
    · simp
    · split
      · simp
      · split
        · simp
        · split
          · simp
          · refine Nat.le_trans (ih _ _ _) ?_
            simp only [List.length_append, List.length_cons, List.length_nil]
            omega
theorem takeV_len (s : Rd) : (takeV s).2.1.length ≤ 16 := by
  unfold takeV
  split
  · simp
  · split
    · simp
    · refine Nat.le_trans (takeLoop_len _ _ _ _) ?_
      simp only [List.length_nil]
      omega
theorem takeV_inv {b : List Int} (hb : isByte b) {V : List Dt} {s : Rd} (h : takeV ⟨b, 0⟩ = (0, V, s)) : b = encs (vnums V) ++ s.l ∧ s.e = 0 ∧ checkV V = 0 ∧ V.length ≤ 16 := by
  unfold takeV at h
  by_cases h1 : (⟨b, 0⟩ : Rd).nx.e = 0
  · rw [if_neg (fun e => e h1)] at h
    by_cases h2 : 16 < (⟨b, 0⟩ : Rd).val
    · rw [if_pos h2] at h; injection h with h; cases h
    · rw [if_neg h2] at h
      obtain ⟨i1, b1⟩ := Rd.inv (s := ⟨b, 0⟩) hb rfl h1
      obtain ⟨U, hV, hU, hl, he', hc⟩ := takeLoop_inv _ _ _ _ _ _ b1 h1 h
      simp only [List.nil_append] at hV
      subst hV
      refine ⟨?_, he', hc, by omega⟩
      have : (⟨b, 0⟩ : Rd).l = b := rfl
      rw [this] at i1
      rw [i1, hl, ← hU]
      simp [vnums, encs]
  · rw [if_pos h1] at h
    injection h with h
    exact absurd h h1

theorem check_split (d : Dt) : ∀ (l : List Dt) (last : Int), checkFrom last (l ++ [d]) = 0 → checkFrom last l = 0 ∧ okDot d = true ∧ last < d.site ∧ ∀ e ∈ l, e.site < d.site := by
  intro l
  induction l with
  | nil =>
    intro last h
    simp only [List.nil_append, checkFrom] at h
    by_cases h1 : siteB d.site = false
    · rw [if_pos h1] at h; simp at h
    · rw [if_neg h1] at h
      by_cases h2 : d.seq < 1 ∨ 2147483647 < d.seq
      · rw [if_pos h2] at h; simp at h
      · rw [if_neg h2] at h
        by_cases h3 : d.site ≤ last
        · rw [if_pos h3] at h; simp at h
        · refine ⟨rfl, ?_, by omega, by simp⟩
          simp [siteB] at h1
          simp [okDot]
          omega
  | cons e l ih =>
    intro last h
    simp only [List.cons_append, checkFrom] at h ⊢
    by_cases h1 : siteB e.site = false
    · rw [if_pos h1] at h; simp at h
    · rw [if_neg h1] at h ⊢
      by_cases h2 : e.seq < 1 ∨ 2147483647 < e.seq
      · rw [if_pos h2] at h; simp at h
      · rw [if_neg h2] at h ⊢
        by_cases h3 : e.site ≤ last
        · rw [if_pos h3] at h; simp at h
        · rw [if_neg h3] at h ⊢
          obtain ⟨a, b, c, d'⟩ := ih _ h
          refine ⟨a, b, by omega, fun x hx => ?_⟩
          rcases List.mem_cons.1 hx with rfl | hx
          · exact c
          · exact d' x hx
theorem vecTo_zeros {r : List Int} {j : Nat} (h : ∀ i, j ≤ i → rg r i = 0) (m : Nat) : vecTo r (j + m) = vecTo r j := by
  induction m with
  | zero => rfl
  | succ m ih =>
    have e : vecTo r (j + m + 1) = vecTo r (j + m) := vecTo_no r (j + m) (by rw [h _ (by omega)]; omega)
    exact e.trans ih
theorem vecTo_set (r : List Int) (j : Nat) (x : Int) (hj : j < r.length) (k : Nat) (hk : k ≤ j) : vecTo (r.set j x) k = vecTo r k := by
  induction k with
  | zero => rfl
  | succ k ih =>
    simp only [vecTo]
    rw [rg_set _ _ _ _ hj, if_neg (show ¬ k = j by omega), ih (by omega)]
theorem says_zeros (V : List Dt) (j : Int) (h : ∀ e ∈ V, e.site < j) (i : Nat) (hi : j ≤ i) : rg (says V) i = 0 := by
  have : ∀ (V : List Dt) (r : List Int), Row r → (∀ e ∈ V, e.site < j) → rg (V.foldl lay r) i = rg r i := by
    intro V
    induction V with
    | nil => intro r _ _; rfl
    | cons d V ih =>
      intro r hr h
      rw [List.foldl_cons, ih _ (hr.lay d) (fun e he => h e (by simp [he])), rg_lay hr.len, if_neg]
      rintro ⟨_, e⟩
      have := h d (by simp)
      omega
  rw [says, this V row0 Row.row0 h, rg_row0]
theorem vec_says_aux (n : Nat) : ∀ V : List Dt, V.length = n → checkV V = 0 → vec (says V) = V := by
  induction n with
  | zero => intro V h _; obtain rfl := List.eq_nil_of_length_eq_zero h; decide
  | succ n ih =>
    intro V hn h
    obtain ⟨U, d, rfl⟩ : ∃ U d, V = U ++ [d] := ⟨V.dropLast, V.getLast (by intro e; rw [e] at hn; simp at hn), (List.dropLast_concat_getLast _).symm⟩
    have hU : U.length = n := by simpa using hn
    obtain ⟨hc, hd, _, hlt⟩ := check_split d U 0 h
    have ih := ih U hU hc
    have hd' : 1 ≤ d.site ∧ d.site ≤ 16 ∧ 1 ≤ d.seq ∧ d.seq ≤ 2147483647 := by simpa [okDot] using hd
    obtain ⟨site, seq⟩ := d
    simp only at hd' hlt
    obtain ⟨j, rfl⟩ : ∃ j : Nat, site = j := ⟨site.toNat, by omega⟩
    have hrow := Row.says U
    have hz : ∀ i, j ≤ i → rg (says U) i = 0 := fun i hi => says_zeros U j hlt i (by omega)
    have es : says (U ++ [⟨j, seq⟩]) = (says U).set j seq := by
      unfold says
      rw [List.foldl_append]
      show lay _ _ = _
      rw [lay_ok hd]
      simp only [Int.toNat_natCast]
      have : rg (List.foldl lay row0 U) j = 0 := hz j (Nat.le_refl _)
      rw [this]
      congr 1
      omega
    have hj : j < (says U).length := by rw [hrow.len]; omega
    have e17 : ∀ r : List Int, vec r = vecTo r (j + 1 + (16 - j)) := fun r => by unfold vec; congr 1; omega
    have hz' : ∀ i, j + 1 ≤ i → rg ((says U).set j seq) i = 0 := fun i hi => by rw [rg_set _ _ _ _ hj, if_neg (by omega)]; exact hz i (by omega)
    rw [es, e17, vecTo_zeros hz']
    have e1 : vecTo ((says U).set j seq) (j + 1) = vecTo (says U) j ++ [⟨j, seq⟩] := by
      rw [vecTo_yes _ _ (by rw [rg_set _ _ _ _ hj, if_pos rfl]; omega), vecTo_set _ _ _ hj _ (Nat.le_refl _), rg_set _ _ _ _ hj, if_pos rfl]
    rw [e1]
    have e2 : vec (says U) = vecTo (says U) j := by
      have : vec (says U) = vecTo (says U) (j + (17 - j)) := by unfold vec; congr 1; omega
      rw [this, vecTo_zeros hz]
    rw [← e2, ih]
theorem vec_says {V : List Dt} (h : checkV V = 0) : vec (says V) = V := vec_says_aux _ V rfl h
end Go.Proofs.Ytnlklhlnnoihiaa
