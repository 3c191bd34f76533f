/- op.Check = okOp. Conditions: the lists lie in memory, and nothing is longer than a million. · The plain law of taking: what is taken is what would be laid. No program in sight. · What an operation is laid as; what it says of one that may be. No program in sight but for the words. · The walks of the kinds' put and of op.Put. Conditions: the Writer and the operation lie in memory, apart; nothing is longer than a million. · The walks of op.Put and op.Encode. Conditions: the Writer and the operation lie in memory, apart; nothing is longer than a million. -/
import Derived.Test.YtnajbkccaclkcaaGreatIM18
import Derived.Test.YtnajbkccaclkcaaGreatIM21
import Derived.Test.YtnajbkccaclkcaaGreatIM17
import Derived.Test.YtnajbkccaclkcaaGreatIM6
import Derived.Test.YtnajbkccaclkcaaGreatIM14
namespace Go.Proofs.YtnajbkccaclkcaaGreat
open Go Go.RowKit

/-- What the kind asks for. -/
def rightB (o : Opr) : Bool := if o.kind = 1 then insB o else if o.kind = 2 then removeB o else if o.kind = 3 then joinB o else if o.kind = 4 then decide (o.gone.length = 0) && bareB o 0 else false
/-- Is it an operation? -/
def okOp (o : Opr) : Bool :=
  decide (1 ≤ o.dot.site ∧ o.dot.site ≤ 16 ∧ 1 ≤ o.dot.seq ∧ o.dot.seq ≤ 2147483647) && decide (checkV o.deps = 0) && decide (getV o.deps o.dot.site = o.dot.seq - 1) && rightB o
def opE (o : Opr) : Int := if okOp o then 0 else 10
set_option maxRecDepth 100000 in
set_option maxHeartbeats 1600000 in
theorem ochk_none (ds dq kind it is rt rs site : Int) (deps : List Dt) (text : ByteArray) (dA gA : Option Addr) (dc gl gc : Nat) (w : World)
    (HOF : Hid (∀ W, Calls Tryz.prog 77 #[.agg #[.int .i64 ds, .int .i64 dq, .slice dA deps.length dc, .int .i64 kind, .int .i64 it, .int .i64 is, .int .i64 rt, .int .i64 rs, .string text, .slice gA gl gc, .int .i64 site]] W (OfPost W .nilIface))) :
    Calls Tryz.prog 60 #[.agg #[.int .i64 ds, .int .i64 dq, .slice dA deps.length dc, .int .i64 kind, .int .i64 it, .int .i64 is, .int .i64 rt, .int .i64 rs, .string text, .slice gA gl gc, .int .i64 site]] w (IntPost w 10) := by
  have hnil : ∀ W : World, (binOp .eql 134 .nilIface .nilIface).run Tryz.prog W = .ok (.bool true) W := fun _ => rfl
  have HK := Lib.hid ((Kept.refl (fun _ => False) w).alloc (.cells #[.int .i64 ds, .int .i64 dq, .slice dA deps.length dc, .int .i64 kind, .int .i64 it, .int .i64 is, .int .i64 rt, .int .i64 rs, .string text, .slice gA gl gc, .int .i64 site] 64))
  go_enter Tryz.func60, Tryz.ntmps60
  go_wp2_with (fail)
  refine (HOF.out _).mono ?_
  unfold OfPost
  rintro e w1 ⟨rfl, hk⟩
  have HK1 := Lib.hid (HK.out.trans hk fun _ _ e => e)
  clear hk HK
  go_wp2
  go_ret
  exact ⟨rfl, HK1.out⟩
theorem opcheck_kind (ds dq kind it is rt rs site : Int) (deps : List Dt) (text : ByteArray) (dA gA : Option Addr) (dc gl gc : Nat) (w : World) (T : TypeId) (x : Value) (K : Nat) (r : Value) (b : Bool)
    (HOF : Hid (∀ W, Calls Tryz.prog 77 #[.agg #[.int .i64 ds, .int .i64 dq, .slice dA deps.length dc, .int .i64 kind, .int .i64 it, .int .i64 is, .int .i64 rt, .int .i64 rs, .string text, .slice gA gl gc, .int .i64 site]] W (OfPost W (.iface T x))))
    (hm : ∀ W : World, (method 307 T x "hearsay/op.right").run Tryz.prog W = .ok (K, r) W) (hcf : ∀ (W : World) (a : Array Value), (callFunc K a).run Tryz.prog W = .ok (.enter K a) W)
    (HR : Hid (∀ W, Kept (fun _ => False) w W → Calls Tryz.prog K #[r, .agg #[.int .i64 ds, .int .i64 dq, .slice dA deps.length dc, .int .i64 kind, .int .i64 it, .int .i64 is, .int .i64 rt, .int .i64 rs, .string text, .slice gA gl gc, .int .i64 site]] W (BoolPost W b)))
    (hd : DotsAt w dA deps) (hl : deps.length ≤ 4611686018427387904) :
    Calls Tryz.prog 60 #[.agg #[.int .i64 ds, .int .i64 dq, .slice dA deps.length dc, .int .i64 kind, .int .i64 it, .int .i64 is, .int .i64 rt, .int .i64 rs, .string text, .slice gA gl gc, .int .i64 site]] w
      (IntPost w (if (decide (1 ≤ ds ∧ ds ≤ 16 ∧ 1 ≤ dq ∧ dq ≤ 2147483647) && decide (checkV deps = 0) && decide (getV deps ds = dq - 1) && b) = true then 0 else 10)) := by
  by_cases h1 : 1 ≤ ds
  · by_cases h2 : ds ≤ 16
    · by_cases h3 : 1 ≤ dq
      · by_cases h4 : dq ≤ 2147483647
        · rw [decide_eq_true (⟨h1, h2, h3, h4⟩ : 1 ≤ ds ∧ ds ≤ 16 ∧ 1 ≤ dq ∧ dq ≤ 2147483647), Bool.true_and]
          by_cases h5 : checkV deps = 0
          · rw [decide_eq_true h5, Bool.true_and]
            by_cases h6 : getV deps ds = dq - 1
            · rw [decide_eq_true h6, Bool.true_and]
              cases h7 : b with
              | false => exact ochk_7 ds dq kind it is rt rs site deps text dA gA dc gl gc w T x K r b HOF hm hcf HR hd hl h1 h2 h3 h4 h5 h6 h7
              | true => exact ochk_8 ds dq kind it is rt rs site deps text dA gA dc gl gc w T x K r b HOF hm hcf HR hd hl h1 h2 h3 h4 h5 h6 h7
            · rw [decide_eq_false h6, Bool.false_and]
              exact ochk_6 ds dq kind it is rt rs site deps text dA gA dc gl gc w T x HOF hd hl h1 h2 h3 h4 h5 h6
          · rw [decide_eq_false h5, Bool.false_and, Bool.false_and]
            exact ochk_5 ds dq kind it is rt rs site deps text dA gA dc gl gc w T x HOF hd hl h1 h2 h3 h4 h5
        · rw [decide_eq_false (by omega), Bool.false_and, Bool.false_and, Bool.false_and]
          exact ochk_4 ds dq kind it is rt rs site deps text dA gA dc gl gc w T x HOF hd h1 h2 h3 (by omega)
      · rw [decide_eq_false (by omega), Bool.false_and, Bool.false_and, Bool.false_and]
        exact ochk_3 ds dq kind it is rt rs site deps text dA gA dc gl gc w T x HOF hd h1 h2 (by omega)
    · rw [decide_eq_false (by omega), Bool.false_and, Bool.false_and, Bool.false_and]
      exact ochk_2 ds dq kind it is rt rs site deps text dA gA dc gl gc w T x HOF hd h1 (by omega)
  · rw [decide_eq_false (by omega), Bool.false_and, Bool.false_and, Bool.false_and]
    exact ochk_1 ds dq kind it is rt rs site deps text dA gA dc gl gc w T x HOF hd (by omega)
/-- An operation's lists, where they lie, and how much there is of it. -/
structure OprAt (w : World) (dA gA : Option Addr) (o : Opr) : Prop where
  dots : DotsAt w dA o.deps
  runs : RunsAt w gA o.gone
  counts : ∀ r ∈ o.gone, inI r.count
  dl : o.deps.length ≤ 1000000
  gl : o.gone.length ≤ 1000000
  tl : o.text.size ≤ 1000000
theorem OpCheck_any (o : Opr) (dA gA : Option Addr) (dc gc : Nat) (w : World) (h : OprAt w dA gA o) : Calls Tryz.prog 60 #[.agg (o.cells dA dc gA gc)] w (IntPost w (opE o)) := by
  have hof := fun W => opof_any o dA gA dc gc W
  have hi := fun W => insert_any o dA gA dc gc W h.gl h.tl
  have hr := fun W (hk : Kept (fun _ => False) w W) => remove_any o dA gA dc gc W (h.runs.kept hk fun _ _ _ => id) h.counts h.gl
  have hj := fun W => join_any o dA gA dc gc W h.gl
  have hlv := fun W => leave_any o dA gA dc gc W h.gl
  have hd := h.dots
  have hdl := h.dl
  clear h
  obtain ⟨⟨ds, dq⟩, deps, kind, ⟨it, is⟩, ⟨rt, rs⟩, text, gone, site⟩ := o
  unfold opE okOp rightB
  unfold Opr.cells ofV at *
  simp only at hof hi hr hj hlv hd hdl ⊢
  generalize insB ⟨⟨ds, dq⟩, deps, kind, ⟨it, is⟩, ⟨rt, rs⟩, text, gone, site⟩ = bi at *
  generalize removeB ⟨⟨ds, dq⟩, deps, kind, ⟨it, is⟩, ⟨rt, rs⟩, text, gone, site⟩ = br at *
  generalize joinB ⟨⟨ds, dq⟩, deps, kind, ⟨it, is⟩, ⟨rt, rs⟩, text, gone, site⟩ = bj at *
  generalize (decide (gone.length = 0) && bareB ⟨⟨ds, dq⟩, deps, kind, ⟨it, is⟩, ⟨rt, rs⟩, text, gone, site⟩ 0) = bl at *
  by_cases k1 : kind = 1
  · simp only [k1, if_true] at hof ⊢
    exact opcheck_kind ds dq 1 it is rt rs site deps text dA gA dc gone.length gc w _ _ 140 (.agg #[.int .i64 it, .int .i64 is, .int .i64 rt, .int .i64 rs, .string text]) bi (Lib.hid hof) (fun _ => by kernel_rfl) (fun _ _ => by kernel_rfl) (Lib.hid fun W _ => by simpa only [k1] using hi W) hd (by omega)
  by_cases k2 : kind = 2
  · simp only [k2, if_true, if_neg (show ¬ (2 : Int) = 1 by decide)] at hof ⊢
    exact opcheck_kind ds dq 2 it is rt rs site deps text dA gA dc gone.length gc w _ _ 151 (.agg #[.slice gA gone.length gc]) br (Lib.hid hof) (fun _ => by kernel_rfl) (fun _ _ => by kernel_rfl) (Lib.hid fun W hk => by simpa only [k2] using hr W hk) hd (by omega)
  by_cases k3 : kind = 3
  · simp only [k3, if_true, if_neg (show ¬ (3 : Int) = 1 by decide), if_neg (show ¬ (3 : Int) = 2 by decide)] at hof ⊢
    exact opcheck_kind ds dq 3 it is rt rs site deps text dA gA dc gone.length gc w _ _ 157 (.agg #[.int .i64 site]) bj (Lib.hid hof) (fun _ => by kernel_rfl) (fun _ _ => by kernel_rfl) (Lib.hid fun W _ => by simpa only [k3] using hj W) hd (by omega)
  by_cases k4 : kind = 4
  · simp only [k4, if_true, if_neg (show ¬ (4 : Int) = 1 by decide), if_neg (show ¬ (4 : Int) = 2 by decide), if_neg (show ¬ (4 : Int) = 3 by decide)] at hof ⊢
    exact opcheck_kind ds dq 4 it is rt rs site deps text dA gA dc gone.length gc w _ _ 161 (.agg #[]) bl (Lib.hid hof) (fun _ => by kernel_rfl) (fun _ _ => by kernel_rfl) (Lib.hid fun W _ => by simpa only [k4] using hlv W) hd (by omega)
  · simp only [if_neg k1, if_neg k2, if_neg k3, if_neg k4, Bool.and_false] at hof ⊢
    exact ochk_none ds dq kind it is rt rs site deps text dA gA dc gone.length gc w (Lib.hid hof)
end Go.Proofs.YtnajbkccaclkcaaGreat

namespace Go.Proofs.YtnajbkccaclkcaaGreat

theorem take_inv (l : List Int) : ∀ (n acc v k : Nat), isByte l → takeFrom n acc l = (0, v, k) → n < k ∧ k - n ≤ l.length ∧ ∃ x, v = acc + x * 128 ^ n ∧ l.take (k - n) = enc x ∧ (n = 0 ∨ 0 < x) := by
  induction l with
  | nil => intro n acc v k _ h; rw [take_nil] at h; injection h with h; cases h
  | cons c t ih =>
    intro n acc v k hb h
    obtain ⟨hc0, hc1⟩ := hb c (by simp)
    have hbt : isByte t := fun x hx => hb x (by simp [hx])
    by_cases h1 : 128 ≤ c
    · by_cases h8 : n = 8
      · subst h8; rw [take_long h1] at h; injection h with h; cases h
      · rw [take_more' h1 h8] at h
        obtain ⟨hk, hkl, x, hv, ht, hx⟩ := ih _ _ _ _ hbt h
        have hx0 : 0 < x := by omega
        obtain ⟨y, rfl⟩ : ∃ y : Nat, c = y := ⟨c.toNat, by omega⟩
        have e1 : ((y : Int) - 128).toNat = y - 128 := by omega
        rw [e1] at hv
        refine ⟨by omega, by simp only [List.length_cons]; omega, (y - 128) + x * 128, ?_, ?_, .inr (by omega)⟩
        · rw [hv, Nat.pow_succ, Nat.add_mul, Nat.mul_assoc x, Nat.mul_comm 128 (128 ^ n)]
          omega
        · have e2 : k - n = k - (n + 1) + 1 := by omega
          rw [e2, List.take_succ_cons, ht, enc_big (show ¬ (y - 128) + x * 128 < 128 by omega)]
          have e3 : ((y - 128) + x * 128) % 128 + 128 = y := by omega
          have e4 : ((y - 128) + x * 128) / 128 = x := by omega
          rw [e3, e4]
    · by_cases h0 : c = 0 ∧ 0 < n
      · obtain ⟨rfl, hn⟩ := h0
        rw [take_zero hn] at h; injection h with h; cases h
      · rw [take_end h1 h0] at h
        injection h with _ h
        injection h with hv hk
        obtain ⟨y, rfl⟩ : ∃ y : Nat, c = y := ⟨c.toNat, by omega⟩
        subst hk hv
        refine ⟨by omega, by simp only [List.length_cons]; omega, y, by simp, ?_, by omega⟩
        have e2 : n + 1 - n = 1 := by omega
        rw [e2, enc_small (show y < 128 by omega)]
        rfl
theorem Rd.inv {s : Rd} (hb : isByte s.l) (he : s.e = 0) (hn : s.nx.e = 0) : s.l = enc s.val ++ s.nx.l ∧ isByte s.nx.l := by
  obtain ⟨l, e⟩ := s
  simp only at hb he
  subst he
  rcases ht : takeFrom 0 0 l with ⟨er, v, k⟩
  have h1 : (⟨l, 0⟩ : Rd).val = v := by simp [Rd.val, ht]
  have h2 : (⟨l, 0⟩ : Rd).nx = ⟨l.drop k, er⟩ := by simp [Rd.nx, ht]
  rw [h2] at hn
  simp only at hn
  subst hn
  obtain ⟨_, hkl, x, hv, hx, _⟩ := take_inv l 0 0 v k hb ht
  rw [h1, h2]
  simp only [Nat.sub_zero, Nat.pow_zero, Nat.mul_one, Nat.zero_add] at hx hv
  subst hv
  exact ⟨by rw [← hx]; exact (List.take_append_drop k l).symm, fun b hb' => hb b (List.mem_of_mem_drop hb')⟩
theorem takeLoop_inv : ∀ (k : Nat) (last : Int) (acc V : List Dt) (s s' : Rd), isByte s.l → s.e = 0 → takeLoop k last acc s = (0, V, s') → ∃ U, V = acc ++ U ∧ U.length = k ∧ s.l = encs (dotNums U) ++ s'.l ∧ s'.e = 0 ∧ checkFrom last U = 0 := by
  intro k
  induction k with
  | zero =>
    intro last acc V s s' _ he h
    rw [takeLoop] at h
    injection h with _ h
    injection h with h1 h2
    subst h1 h2
    exact ⟨[], by simp, rfl, by simp [dotNums, encs], he, rfl⟩
  | succ k ih =>
    intro last acc V s s' hb he h
    by_cases h1 : s.nx.e = 0
    · by_cases h2 : siteB s.val = false ∨ (s.val : Int) ≤ last
      · rw [tl2 h1 h2] at h; injection h with h; cases h
      · by_cases h3 : s.nx.nx.e = 0
        · by_cases h4 : s.nx.val < 1 ∨ 2147483647 < s.nx.val
          · rw [tl4 h1 h2 h3 h4] at h; injection h with h; cases h
          · rw [tl5 h1 h2 h3 h4] at h
            obtain ⟨i1, b1⟩ := Rd.inv hb he h1
            obtain ⟨i2, b2⟩ := Rd.inv b1 h1 h3
            obtain ⟨U, hV, hU, hl, he', hc⟩ := ih _ _ _ _ _ b2 h3 h
            refine ⟨⟨s.val, s.nx.val⟩ :: U, by rw [hV]; simp, by simp [hU], ?_, he', ?_⟩
            · rw [i1, i2, hl]
              simp [dotNums, encs]
            · simp only [checkFrom]
              rw [if_neg (fun e => h2 (.inl e)), if_neg (by omega), if_neg (fun e => h2 (.inr e))]
              exact hc
        · rw [tl3 h1 h2 h3] at h
          injection h with h
          exact absurd h h3
    · rw [tl1 h1] at h
      injection h with h
      exact absurd h h1
theorem takeLoop_len : ∀ (k : Nat) (last : Int) (acc : List Dt) (s : Rd), (takeLoop k last acc s).2.1.length ≤ acc.length + k := by
  intro k
  induction k with
  | zero => intro last acc s; simp [takeLoop]
  | succ k ih =>
    intro last acc s
    simp only [takeLoop]
    split
    · simp
    · split
      · simp
      · split
        · simp
        · split
          · simp
          · refine Nat.le_trans (ih _ _ _) ?_
            simp only [List.length_append, List.length_cons, List.length_nil]
            omega
theorem takeV_len (s : Rd) : (takeV s).2.1.length ≤ 16 := by
  unfold takeV
  split
  · simp
  · split
    · simp
    · refine Nat.le_trans (takeLoop_len _ _ _ _) ?_
      simp only [List.length_nil]
      omega
theorem takeV_inv {b : List Int} (hb : isByte b) {V : List Dt} {s : Rd} (h : takeV ⟨b, 0⟩ = (0, V, s)) : b = encs (vnums V) ++ s.l ∧ s.e = 0 ∧ checkV V = 0 ∧ V.length ≤ 16 := by
  unfold takeV at h
  by_cases h1 : (⟨b, 0⟩ : Rd).nx.e = 0
  · rw [if_neg (fun e => e h1)] at h
    by_cases h2 : 16 < (⟨b, 0⟩ : Rd).val
    · rw [if_pos h2] at h; injection h with h; cases h
    · rw [if_neg h2] at h
      obtain ⟨i1, b1⟩ := Rd.inv (s := ⟨b, 0⟩) hb rfl h1
      obtain ⟨U, hV, hU, hl, he', hc⟩ := takeLoop_inv _ _ _ _ _ _ b1 h1 h
      simp only [List.nil_append] at hV
      subst hV
      refine ⟨?_, he', hc, by omega⟩
      have : (⟨b, 0⟩ : Rd).l = b := rfl
      rw [this] at i1
      rw [i1, hl, ← hU]
      simp [vnums, encs]
  · rw [if_pos h1] at h
    injection h with h
    exact absurd h h1

theorem check_split (d : Dt) : ∀ (l : List Dt) (last : Int), checkFrom last (l ++ [d]) = 0 → checkFrom last l = 0 ∧ okDot d = true ∧ last < d.site ∧ ∀ e ∈ l, e.site < d.site := by
  intro l
  induction l with
  | nil =>
    intro last h
    simp only [List.nil_append, checkFrom] at h
    by_cases h1 : siteB d.site = false
    · rw [if_pos h1] at h; simp at h
    · rw [if_neg h1] at h
      by_cases h2 : d.seq < 1 ∨ 2147483647 < d.seq
      · rw [if_pos h2] at h; simp at h
      · rw [if_neg h2] at h
        by_cases h3 : d.site ≤ last
        · rw [if_pos h3] at h; simp at h
        · refine ⟨rfl, ?_, by omega, by simp⟩
          simp [siteB] at h1
          simp [okDot]
          omega
  | cons e l ih =>
    intro last h
    simp only [List.cons_append, checkFrom] at h ⊢
    by_cases h1 : siteB e.site = false
    · rw [if_pos h1] at h; simp at h
    · rw [if_neg h1] at h ⊢
      by_cases h2 : e.seq < 1 ∨ 2147483647 < e.seq
      · rw [if_pos h2] at h; simp at h
      · rw [if_neg h2] at h ⊢
        by_cases h3 : e.site ≤ last
        · rw [if_pos h3] at h; simp at h
        · rw [if_neg h3] at h ⊢
          obtain ⟨a, b, c, d'⟩ := ih _ h
          refine ⟨a, b, by omega, fun x hx => ?_⟩
          rcases List.mem_cons.1 hx with rfl | hx
          · exact c
          · exact d' x hx
theorem vecTo_zeros {r : List Int} {j : Nat} (h : ∀ i, j ≤ i → rg r i = 0) (m : Nat) : vecTo r (j + m) = vecTo r j := by
  induction m with
  | zero => rfl
  | succ m ih =>
    have e : vecTo r (j + m + 1) = vecTo r (j + m) := vecTo_no r (j + m) (by rw [h _ (by omega)]; omega)
    exact e.trans ih
theorem vecTo_set (r : List Int) (j : Nat) (x : Int) (hj : j < r.length) (k : Nat) (hk : k ≤ j) : vecTo (r.set j x) k = vecTo r k := by
  induction k with
  | zero => rfl
  | succ k ih =>
    simp only [vecTo]
    rw [rg_set _ _ _ _ hj, if_neg (show ¬ k = j by omega), ih (by omega)]
theorem says_zeros (V : List Dt) (j : Int) (h : ∀ e ∈ V, e.site < j) (i : Nat) (hi : j ≤ i) : rg (says V) i = 0 := by
  have : ∀ (V : List Dt) (r : List Int), Row r → (∀ e ∈ V, e.site < j) → rg (V.foldl lay r) i = rg r i := by
    intro V
    induction V with
    | nil => intro r _ _; rfl
    | cons d V ih =>
      intro r hr h
      rw [List.foldl_cons, ih _ (hr.lay d) (fun e he => h e (by simp [he])), rg_lay hr.len, if_neg]
      rintro ⟨_, e⟩
      have := h d (by simp)
      omega
  rw [says, this V row0 Row.row0 h, rg_row0]
theorem vec_says_aux (n : Nat) : ∀ V : List Dt, V.length = n → checkV V = 0 → vec (says V) = V := by
  induction n with
  | zero => intro V h _; obtain rfl := List.eq_nil_of_length_eq_zero h; decide
  | succ n ih =>
    intro V hn h
    obtain ⟨U, d, rfl⟩ : ∃ U d, V = U ++ [d] := ⟨V.dropLast, V.getLast (by intro e; rw [e] at hn; simp at hn), (List.dropLast_concat_getLast _).symm⟩
    have hU : U.length = n := by simpa using hn
    obtain ⟨hc, hd, _, hlt⟩ := check_split d U 0 h
    have ih := ih U hU hc
    have hd' : 1 ≤ d.site ∧ d.site ≤ 16 ∧ 1 ≤ d.seq ∧ d.seq ≤ 2147483647 := by simpa [okDot] using hd
    obtain ⟨site, seq⟩ := d
    simp only at hd' hlt
    obtain ⟨j, rfl⟩ : ∃ j : Nat, site = j := ⟨site.toNat, by omega⟩
    have hrow := Row.says U
    have hz : ∀ i, j ≤ i → rg (says U) i = 0 := fun i hi => says_zeros U j hlt i (by omega)
    have es : says (U ++ [⟨j, seq⟩]) = (says U).set j seq := by
      unfold says
      rw [List.foldl_append]
      show lay _ _ = _
      rw [lay_ok hd]
      simp only [Int.toNat_natCast]
      have : rg (List.foldl lay row0 U) j = 0 := hz j (Nat.le_refl _)
      rw [this]
      congr 1
      omega
    have hj : j < (says U).length := by rw [hrow.len]; omega
    have e17 : ∀ r : List Int, vec r = vecTo r (j + 1 + (16 - j)) := fun r => by unfold vec; congr 1; omega
    have hz' : ∀ i, j + 1 ≤ i → rg ((says U).set j seq) i = 0 := fun i hi => by rw [rg_set _ _ _ _ hj, if_neg (by omega)]; exact hz i (by omega)
    rw [es, e17, vecTo_zeros hz']
    have e1 : vecTo ((says U).set j seq) (j + 1) = vecTo (says U) j ++ [⟨j, seq⟩] := by
      rw [vecTo_yes _ _ (by rw [rg_set _ _ _ _ hj, if_pos rfl]; omega), vecTo_set _ _ _ hj _ (Nat.le_refl _), rg_set _ _ _ _ hj, if_pos rfl]
    rw [e1]
    have e2 : vec (says U) = vecTo (says U) j := by
      have : vec (says U) = vecTo (says U) (j + (17 - j)) := by unfold vec; congr 1; omega
      rw [this, vecTo_zeros hz]
    rw [← e2, ih]
theorem vec_says {V : List Dt} (h : checkV V = 0) : vec (says V) = V := vec_says_aux _ V rfl h
end Go.Proofs.YtnajbkccaclkcaaGreat

namespace Go.Proofs.YtnajbkccaclkcaaGreat
open Go Go.RowKit

def goneNums (l : List Rn) : List Nat := l.flatMap fun r => [r.id.time.toNat, r.id.site.toNat, r.count.toNat]
/-- Behind the dots. -/
def encT (o : Opr) : List Int :=
  if o.kind = 1 then encs [o.id.time.toNat, o.ref.time.toNat, o.ref.site.toNat] ++ (enc o.text.size ++ tb o.text) else if o.kind = 2 then encs (o.gone.length :: goneNums o.gone) else if o.kind = 3 then encs [o.site.toNat] else []
def encOp (o : Opr) : List Int := encs [o.kind.toNat, o.dot.site.toNat, o.dot.seq.toNat] ++ (encs (vnums o.deps) ++ encT o)
theorem chkR_all : ∀ (l p : List Rn), chkR p l = 0 → ∀ r ∈ l, okRn r = true
  | [], _, _, r, hr => absurd hr (by simp)
  | x :: l, p, h, r, hr => by
    rw [chkR] at h
    by_cases hs : stepR p x = 0
    · rw [if_pos hs] at h
      rcases List.mem_cons.1 hr with rfl | hr
      · unfold stepR at hs
        cases hx : okRn r with
        | true => rfl
        | false => rw [if_pos hx] at hs; cases hs
      · exact chkR_all l _ h r hr
    · rw [if_neg hs] at h
      exact absurd h hs
theorem okRn_iff (r : Rn) : okRn r = true ↔ 1 ≤ r.count ∧ okId r.id = true ∧ r.count - 1 ≤ 2147483647 - r.id.time := by
  unfold okRn
  simp only [Bool.and_eq_true, decide_eq_true_eq, and_assoc]
/-- What is so of an operation that may be. -/
structure OkF (o : Opr) : Prop where
  s1 : 1 ≤ o.dot.site
  s2 : o.dot.site ≤ 16
  q1 : 1 ≤ o.dot.seq
  q2 : o.dot.seq ≤ 2147483647
  dv : checkV o.deps = 0
  kd : (o.kind = 1 ∧ o.gone = [] ∧ o.site = 0 ∧ 0 < cnt o.text ∧ cnt o.text ≤ 1024 ∧ badAt o.text < 0 ∧ o.id.site = o.dot.site ∧ okId o.id = true ∧ (cnt o.text : Int) - 1 ≤ 2147483647 - o.id.time ∧ (o.ref = noId ∨ okId o.ref = true) ∧ o.ref.time < o.id.time) ∨
    (o.kind = 2 ∧ o.id = noId ∧ o.ref = noId ∧ o.text = ⟨#[]⟩ ∧ o.site = 0 ∧ 0 < o.gone.length ∧ o.gone.length ≤ 1024 ∧ chkR [] o.gone = 0) ∨
    (o.kind = 3 ∧ o.gone = [] ∧ o.id = noId ∧ o.ref = noId ∧ o.text = ⟨#[]⟩ ∧ 1 ≤ o.site ∧ o.site ≤ 16) ∨
    (o.kind = 4 ∧ o.gone = [] ∧ o.id = noId ∧ o.ref = noId ∧ o.text = ⟨#[]⟩ ∧ o.site = 0)
theorem sameRest_iff (i r : Idt) (t : ByteArray) (s : Int) (i' r' : Idt) (t' : ByteArray) (s' : Int) : sameRest i r t s i' r' t' s' = true ↔ i = i' ∧ r = r' ∧ t = t' ∧ s = s' := by
  unfold sameRest
  simp only [Bool.and_eq_true, decide_eq_true_eq]
theorem okOp_f {o : Opr} (h : okOp o = true) : OkF o := by
  unfold okOp at h
  simp only [Bool.and_eq_true, decide_eq_true_eq] at h
  obtain ⟨⟨⟨⟨d1, d2, d3, d4⟩, hc⟩, -⟩, hr⟩ := h
  refine ⟨d1, d2, d3, d4, hc, ?_⟩
  unfold rightB at hr
  by_cases k1 : o.kind = 1
  · rw [if_pos k1] at hr
    unfold insB at hr
    simp only [Bool.and_eq_true, Bool.or_eq_true, decide_eq_true_eq, sameRest_iff, Bool.not_eq_true', decide_eq_false_iff_not] at hr
    obtain ⟨g0, ⟨-, -, -, hs⟩, c0, c1, hb, hi, ha, hrf, hlt⟩ := hr
    refine .inl ⟨k1, List.eq_nil_of_length_eq_zero g0, hs, c0, c1, hb, hi, ?_⟩
    have hok : okId o.id = true ∧ (0 : Int) ≤ (cnt o.text : Int) - 1 ∧ (cnt o.text : Int) - 1 ≤ 2147483647 - o.id.time := by
      by_cases hx : okId o.id = true ∧ (0 : Int) ≤ (cnt o.text : Int) - 1 ∧ (cnt o.text : Int) - 1 ≤ 2147483647 - o.id.time
      · exact hx
      · unfold afterI at ha
        rw [if_neg hx] at ha
        exact absurd rfl ha
    refine ⟨hok.1, hok.2.2, ?_, hlt⟩
    rcases hrf with h | h
    · exact .inl h
    · by_cases hx : okId o.ref = true
      · exact .inr hx
      · unfold afterI at h
        rw [if_neg (fun e => hx e.1)] at h
        exact .inl h.symm
  · rw [if_neg k1] at hr
    by_cases k2 : o.kind = 2
    · rw [if_pos k2] at hr
      unfold removeB at hr
      simp only [Bool.and_eq_true, decide_eq_true_eq, sameRest_iff] at hr
      obtain ⟨⟨a, b, c, d⟩, g0, g1, hk⟩ := hr
      exact .inr (.inl ⟨k2, a, b, c, d, g0, g1, hk⟩)
    · rw [if_neg k2] at hr
      by_cases k3 : o.kind = 3
      · rw [if_pos k3] at hr
        unfold joinB bareB at hr
        simp only [Bool.and_eq_true, decide_eq_true_eq, sameRest_iff] at hr
        obtain ⟨g0, ⟨a, b, c, -⟩, s1, s2⟩ := hr
        exact .inr (.inr (.inl ⟨k3, List.eq_nil_of_length_eq_zero g0, a, b, c, s1, s2⟩))
      · rw [if_neg k3] at hr
        by_cases k4 : o.kind = 4
        · rw [if_pos k4] at hr
          unfold bareB at hr
          simp only [Bool.and_eq_true, decide_eq_true_eq, sameRest_iff] at hr
          obtain ⟨g0, a, b, c, d⟩ := hr
          exact .inr (.inr (.inr ⟨k4, List.eq_nil_of_length_eq_zero g0, a, b, c, d⟩))
        · rw [if_neg k4] at hr
          cases hr
theorem encs_app (m n : List Nat) : encs (m ++ n) = encs m ++ encs n := by simp [encs]
theorem encs_one (x : Nat) : encs [x] = enc x := by simp [encs]
theorem encs_nil : encs [] = [] := rfl
theorem encs_le (m : List Nat) (h : ∀ x ∈ m, x ≤ 9223372036854775807) : (encs m).length ≤ 9 * m.length := encs_len m h
theorem goneNums_snoc (l : List Rn) (k : Nat) (h : k < l.length) : goneNums (l.take (k + 1)) = goneNums (l.take k) ++ [l[k].id.time.toNat, l[k].id.site.toNat, l[k].count.toNat] := by
  unfold goneNums
  rw [List.take_succ_eq_append_getElem h, List.flatMap_append]
  simp only [List.flatMap_cons, List.flatMap_nil, List.append_nil]
theorem goneNums_len (l : List Rn) : (goneNums l).length = 3 * l.length := by
  induction l with
  | nil => rfl
  | cons d l ih => simp only [goneNums, List.flatMap_cons, List.length_append, List.length_cons, List.length_nil] at ih ⊢; omega
theorem goneNums_bd (l : List Rn) (h : ∀ r ∈ l, okRn r = true) : ∀ x ∈ goneNums l, x ≤ 2147483648 := by
  intro x hx
  obtain ⟨r, hr, hx⟩ := List.mem_flatMap.1 hx
  have hk := h r hr
  rw [okRn_iff, okId_iff] at hk
  simp only [List.mem_cons, List.not_mem_nil, or_false] at hx
  rcases hx with rfl | rfl | rfl <;> omega
/-- In the middle of laying: m was laid since w. -/
def WL (w : World) (base g : Nat) (sv : Value) (l : List Int) (e : Int) (m : List Int) (W : World) : Prop := WNext w base g sv (layB l e m) e W
section
variable {w W W' : World} {base g : Nat} {sv : Value} {l m : List Int} {e : Int}
theorem WL.start (h : WriterAt w base g sv l e) : WL w base g sv l e [] w := by
  unfold WL
  rw [layB_nil]
  exact WNext.refl h
theorem WL.fresh (h : WL w base g sv l e m W) (hk : Kept (fun _ => False) W W') : WL w base g sv l e m W' := WNext.fresh h hk
theorem WL.box {b : Nat} {T : TypeId} {cs : Array Value} (h : WL w base g sv l e m W) (hb : Box w b T cs) (hn : ¬ OwnsW g sv b) : Box W b T cs := by
  obtain ⟨sv', _, hk, _⟩ := h
  exact hb.kept hk hn
theorem WL.kept (h : WL w base g sv l e m W) : Kept (OwnsW g sv) w W := by
  obtain ⟨sv', _, hk, _⟩ := h
  exact hk
theorem WL.num (h : WL w base g sv l e m W) (x : Nat) (hx : x ≤ 9223372036854775807) (hl : l.length + m.length ≤ 1000000) :
    Calls Tryz.prog 20 #[.pointer (some ⟨g, 0, none⟩), .int .i64 x] W fun r w' => r = .returned (.tuple #[]) ∧ WL w base g sv l e (m ++ enc x) w' := by
  obtain ⟨sv', h1, h2, h3⟩ := h
  have hll := layB_len l e m
  refine (Number_any base g sv' _ e x W h1 (by omega) (by omega)).mono ?_
  rw [(layB_num (layB l e m) e x).1, (layB_num (layB l e m) e x).2, layB_app]
  rintro r w' ⟨hr, hn⟩
  exact ⟨hr, WNext.trans h2 h3 hn⟩
theorem WL.text (h : WL w base g sv l e m W) (s : ByteArray) (hs : s.size ≤ 1000000) (hl : l.length + m.length ≤ 1000000) :
    Calls Tryz.prog 143 #[.pointer (some ⟨g, 0, none⟩), .string s] W fun r w' => r = .returned (.tuple #[]) ∧ WL w base g sv l e (m ++ (enc s.size ++ tb s)) w' := by
  obtain ⟨sv', h1, h2, h3⟩ := h
  have hll := layB_len l e m
  refine (WText_any base g sv' _ e s W h1 (by omega) hs).mono ?_
  rw [layB_app]
  rintro r w' ⟨hr, hn⟩
  exact ⟨hr, WNext.trans h2 h3 hn⟩
theorem WL.dots (h : WL w base g sv l e m W) (A : Option Addr) (v : List Dt) (c : Nat) (hv : DotsAt W A v) (hlen : v.length ≤ 4611686018427387904) (hc : checkV v = 0) (hl : l.length + m.length ≤ 900000) :
    Calls Tryz.prog 36 #[.pointer (some ⟨g, 0, none⟩), .slice A v.length c] W fun r w' => r = .returned (.tuple #[]) ∧ WL w base g sv l e (m ++ encs (vnums v)) w' := by
  obtain ⟨sv', h1, h2, h3⟩ := h
  have hll := layB_len l e m
  refine (Put_any base g sv' _ e A v c W h1 hv hlen (by omega)).mono ?_
  rw [vec_says hc, layB_puts, layB_app]
  rintro r w' ⟨hr, hn⟩
  exact ⟨hr, WNext.trans h2 h3 hn⟩
/-- What lies elsewhere stays while it is laid. -/
theorem WL.dotsAt {A : Option Addr} {v : List Dt} (h : WL w base g sv l e m W) (hv : DotsAt w A v) (hn : v ≠ [] → ∀ a, A = some a → ¬ OwnsW g sv a.block) : DotsAt W A v := by
  rcases v with _ | ⟨x, v⟩
  · exact DotsAt.nil
  · exact hv.kept h.kept (hn (by simp))
theorem WL.runsAt {A : Option Addr} {v : List Rn} (h : WL w base g sv l e m W) (hv : RunsAt w A v) (hn : v ≠ [] → ∀ a, A = some a → ¬ OwnsW g sv a.block) : RunsAt W A v := by
  rcases v with _ | ⟨x, v⟩
  · exact RunsAt.nil
  · exact hv.kept h.kept (fun _ => hn (by simp))
theorem WL.post (h : WL w base g sv l e m W) {r : Ending} (hr : r = .returned (.tuple #[])) : WPost w base g sv (layB l e m) e r W := ⟨hr, h⟩
end
/-- An operation's lists lie elsewhere than what a Writer has. -/
structure OffW (g : Nat) (sv : Value) (x : Lop) : Prop where
  d : x.o.deps ≠ [] → ∀ a, x.dA = some a → ¬ OwnsW g sv a.block
  g : x.o.gone ≠ [] → ∀ a, x.gA = some a → ¬ OwnsW g sv a.block
end Go.Proofs.YtnajbkccaclkcaaGreat

namespace Go.Proofs.YtnajbkccaclkcaaGreat
open Go Go.RowKit

section
variable {w w1 W W' : World} {base g : Nat} {sv sv' : Value} {l m n : List Int} {e : Int}
theorem WL.join (_h1 : WriterAt W base g sv' (layB l e m) e) (h2 : Kept (OwnsW g sv) w W) (h3 : MovedW w sv sv') (h' : WL W base g sv' (layB l e m) e n W') : WL w base g sv l e (m ++ n) W' := by
  unfold WL at *
  rw [layB_app] at h'
  exact WNext.trans h2 h3 h'
theorem WL.before (h : WL w1 base g sv l e m W) (hk : Kept (fun _ => False) w w1) : WL w base g sv l e m W := WNext.before h hk
theorem WriterAt.off (h : WriterAt w base g sv l e) {k : Nat} (hk : w.heap.size ≤ k) : ¬ OwnsW g sv k := fun ho => by have := (h.own_lt _ ho).2; omega
end
theorem runs_lt {w : World} {A : Option Addr} {l : List Rn} (h : RunsAt w A l) (hne : l ≠ []) : ∀ a, A = some a → a.block < w.heap.size := by
  rintro a rfl
  obtain ⟨ad, e, x0, _⟩ := h 0 (by cases l with | nil => exact absurd rfl hne | cons x l => simp)
  injection e with e
  subst e
  have := World.block_lt_of_cell? w _ x0
  have hb : (a.add (0 * 3)).block = a.block := by unfold Addr.add; split <;> rfl
  rwa [hb] at this
theorem dots_lt0 {w : World} {A : Option Addr} {l : List Dt} (h : DotsAt w A l) (hne : l ≠ []) : ∀ a, A = some a → a.block < w.heap.size := by
  rintro a rfl
  obtain ⟨ad, e, x0, _⟩ := h 0 (by cases l with | nil => exact absurd rfl hne | cons x l => simp)
  injection e with e
  subst e
  have := World.block_lt_of_cell? w _ x0
  have hb : (a.add (0 * 2)).block = a.block := by unfold Addr.add; split <;> rfl
  rwa [hb] at this
theorem Lop.At.opr {w : World} {x : Lop} (h : x.At w) (hs : x.o.Small) : OprAt w x.dA x.gA x.o := ⟨h.d, h.g, hs.counts, hs.dl, hs.gl, hs.tl⟩
set_option maxRecDepth 100000 in
set_option maxHeartbeats 1600000 in
theorem putI_any (base g : Nat) (sv : Value) (l : List Int) (e : Int) (it rt rs : Nat) (is : Int) (text : ByteArray) (w : World) (h : WriterAt w base g sv l e) (h1 : it ≤ 2147483648) (h2 : rt ≤ 2147483648) (h3 : rs ≤ 2147483648) (ht : text.size ≤ 1000000) (hl : l.length ≤ 950000) :
    Calls Tryz.prog 139 #[.agg #[.int .i64 it, .int .i64 is, .int .i64 rt, .int .i64 rs, .string text], .pointer (some ⟨g, 0, none⟩)] w (WPost w base g sv (layB l e (encs [it, rt, rs] ++ (enc text.size ++ tb text))) e) := by
  have hk0 : Kept (fun _ => False) w (w.alloc (.cells #[.int .i64 it, .int .i64 is, .int .i64 rt, .int .i64 rs, .string text] 158)) := (Kept.refl _ _).alloc _
  have HK0 := Lib.hid hk0
  have HB := Lib.hid (Box.new w 158 #[.int .i64 it, .int .i64 is, .int .i64 rt, .int .i64 rs, .string text])
  have HN := Lib.hid (show ¬ OwnsW g sv w.heap.size from h.off (Nat.le_refl _))
  have HW := Lib.hid (WL.start (h.fresh hk0))
  have e1 := enc_len9 it (by omega)
  have e2 := enc_len9 rt (by omega)
  have e3 := enc_len9 rs (by omega)
  clear h hk0
  go_enter Tryz.func139, Tryz.ntmps139
  go_upto_region 1 with (fail)
  generalize w.alloc (.cells #[.int .i64 it, .int .i64 is, .int .i64 rt, .int .i64 rs, .string text] 158) = w0 at HK0 HB HW ⊢
  have b0 : w0.cell? ⟨w.heap.size, 0, none⟩ = some (.int .i64 it) := by simpa using HB.out.cell 0
  go_wp2_with (fail)
  refine (HW.out.num it (by omega) (by simp only [List.length_nil]; omega)).mono ?_
  rintro r w2 ⟨rfl, hw2⟩
  have HW2 := Lib.hid hw2
  have b2 : w2.cell? ⟨w.heap.size, 2, none⟩ = some (.int .i64 rt) := by simpa using (hw2.box HB.out HN.out).cell 2
  clear hw2 HW b0
  go_wp2_with (fail)
  refine (HW2.out.num rt (by omega) (by simp only [List.length_append, List.length_nil]; omega)).mono ?_
  rintro r w3 ⟨rfl, hw3⟩
  have HW3 := Lib.hid hw3
  have b3 : w3.cell? ⟨w.heap.size, 3, none⟩ = some (.int .i64 rs) := by simpa using (hw3.box HB.out HN.out).cell 3
  clear hw3 HW2 b2
  go_wp2_with (fail)
  refine (HW3.out.num rs (by omega) (by simp only [List.length_append, List.length_nil]; omega)).mono ?_
  rintro r w4 ⟨rfl, hw4⟩
  have HW4 := Lib.hid hw4
  have b4 : w4.cell? ⟨w.heap.size, 4, none⟩ = some (.string text) := by simpa using (hw4.box HB.out HN.out).cell 4
  clear hw4 HW3 b3
  go_wp2_with (fail)
  refine (HW4.out.text text ht (by simp only [List.length_append, List.length_nil]; omega)).mono ?_
  rintro r w5 ⟨rfl, hw5⟩
  have HW5 := Lib.hid (hw5.before HK0.out)
  clear hw5 HW4 b4 HK0 HB HN
  go_wp2_with (fail)
  go_end0
  have := HW5.out.post (r := .returned (.tuple #[])) rfl
  rw [show [] ++ enc it ++ enc rt ++ enc rs ++ (enc text.size ++ tb text) = encs [it, rt, rs] ++ (enc text.size ++ tb text) by simp [encs]] at this
  exact this
set_option maxRecDepth 100000 in
set_option maxHeartbeats 1600000 in
theorem putJ_any (base g : Nat) (sv : Value) (l : List Int) (e : Int) (s : Nat) (w : World) (h : WriterAt w base g sv l e) (h1 : s ≤ 2147483648) (hl : l.length ≤ 950000) :
    Calls Tryz.prog 156 #[.agg #[.int .i64 s], .pointer (some ⟨g, 0, none⟩)] w (WPost w base g sv (layB l e (encs [s])) e) := by
  have hk0 : Kept (fun _ => False) w (w.alloc (.cells #[.int .i64 s] 162)) := (Kept.refl _ _).alloc _
  have HK0 := Lib.hid hk0
  have HB := Lib.hid (Box.new w 162 #[.int .i64 s])
  have HW := Lib.hid (WL.start (h.fresh hk0))
  clear h hk0
  go_enter Tryz.func156, Tryz.ntmps156
  go_upto_region 1 with (fail)
  generalize w.alloc (.cells #[.int .i64 s] 162) = w0 at HK0 HB HW ⊢
  have b0 : w0.cell? ⟨w.heap.size, 0, none⟩ = some (.int .i64 s) := by simpa using HB.out.cell 0
  go_wp2_with (fail)
  refine (HW.out.num s (by omega) (by simp only [List.length_nil]; omega)).mono ?_
  rintro r w2 ⟨rfl, hw2⟩
  have HW2 := Lib.hid (hw2.before HK0.out)
  clear hw2 HW b0 HB HK0
  go_wp2_with (fail)
  go_end0
  have := HW2.out.post (r := .returned (.tuple #[])) rfl
  rw [show [] ++ enc s = encs [s] by simp [encs]] at this
  exact this
set_option maxRecDepth 100000 in
theorem putL_any (base g : Nat) (sv : Value) (l : List Int) (e : Int) (w : World) (h : WriterAt w base g sv l e) :
    Calls Tryz.prog 160 #[.agg #[], .pointer (some ⟨g, 0, none⟩)] w (WPost w base g sv (layB l e []) e) := by
  have hk0 : Kept (fun _ => False) w (w.alloc (.cells #[] 164)) := (Kept.refl _ _).alloc _
  have HW := Lib.hid (WPost.same (r := .returned (.tuple #[])) rfl (h.fresh hk0) (hk0.more fun _ _ e => e.elim))
  clear h hk0
  rw [layB_nil]
  go_enter Tryz.func160, Tryz.ntmps160
  go_wp2_with (fail)
  go_end0
  exact HW.out
set_option maxRecDepth 100000 in
set_option maxHeartbeats 3200000 in
theorem putR_any (base g : Nat) (sv : Value) (l : List Int) (e : Int) (A : Option Addr) (gone : List Rn) (c : Nat) (w : World) (h : WriterAt w base g sv l e) (hr : RunsAt w A gone) (hoff : gone ≠ [] → ∀ a, A = some a → ¬ OwnsW g sv a.block) (hk : ∀ r ∈ gone, okRn r = true) (hg : gone.length ≤ 1024) (hl : l.length ≤ 950000) :
    Calls Tryz.prog 150 #[.agg #[.slice A gone.length c], .pointer (some ⟨g, 0, none⟩)] w (WPost w base g sv (layB l e (encs (gone.length :: goneNums gone))) e) := by
  have hk0 : Kept (fun _ => False) w (w.alloc (.cells #[.slice A gone.length c] 160)) := (Kept.refl _ _).alloc _
  have HK0 := Lib.hid hk0
  have HB := Lib.hid (Box.new w 160 #[.slice A gone.length c])
  have HN := Lib.hid (show ¬ OwnsW g sv w.heap.size from h.off (Nat.le_refl _))
  have HW := Lib.hid (WL.start (h.fresh hk0))
  have HR := Lib.hid (hr.fresh hk0)
  have HOFF := Lib.hid hoff
  have HOKR := Lib.hid hk
  have e1 := enc_len9 gone.length (by omega)
  clear h hk0 hr hoff hk
  go_enter Tryz.func150, Tryz.ntmps150
  go_upto_region 1 with (fail)
  generalize w.alloc (.cells #[.slice A gone.length c] 160) = w0 at HK0 HB HW HR ⊢
  have b0 : w0.cell? ⟨w.heap.size, 0, none⟩ = some (.slice A gone.length c) := by simpa using HB.out.cell 0
  go_wp2_with (fail)
  refine (HW.out.num gone.length (by omega) (by simp only [List.length_nil]; omega)).mono ?_
  rintro r w2 ⟨rfl, hw2⟩
  have HW2 := Lib.hid (show WL w0 base g sv l e (encs (gone.length :: goneNums (gone.take 0))) w2 from by have := hw2; rw [show [] ++ enc gone.length = encs (gone.length :: goneNums (gone.take 0)) by simp [encs, goneNums]] at this; exact this)
  have b1 : w2.cell? ⟨w.heap.size, 0, none⟩ = some (.slice A gone.length c) := by simpa using (hw2.box HB.out HN.out).cell 0
  clear hw2 HW b0
  go_wp2_with (fail)
  go_loopw [14] (fun i wr => ∃ k : Nat, i = .int .i64 k ∧ k ≤ gone.length ∧ WL w0 base g sv l e (encs (gone.length :: goneNums (gone.take k))) wr) (fun i _ => gone.length - (intOf i).toNat)
  case atStart => exact ⟨0, rfl, Nat.zero_le _, HW2.out⟩
  case round =>
    obtain ⟨k, rfl, hk, hw⟩ := hrel
    clear HW2 b1
    by_cases hlt : k < gone.length
    · obtain ⟨sv', hw1, hw2, hw3⟩ := hw
      have hll := layB_len l e (encs (gone.length :: goneNums (gone.take k)))
      have hel : (encs (gone.length :: goneNums (gone.take k))).length ≤ 9 * (1 + 3 * 1024) := by
        refine Nat.le_trans (encs_le _ fun x hx => ?_) ?_
        · rcases List.mem_cons.1 hx with rfl | hx
          · omega
          · have := goneNums_bd (gone.take k) (fun r hr => HOKR.out r (List.mem_of_mem_take hr)) x hx
            omega
        · have h1 := goneNums_len (gone.take k)
          have h2 := List.length_take_le k gone
          simp only [List.length_cons]
          omega
      have hne : gone ≠ [] := by intro e; rw [e] at hlt; simp at hlt
      obtain ⟨ad, rfl, x0, x1, x2⟩ := (HR.out.kept hw2 (fun _ => HOFF.out hne)) k hlt
      have hsn := goneNums_snoc gone k hlt
      have hok := HOKR.out gone[k] (List.getElem_mem hlt)
      generalize gone[k] = q at x0 x1 x2 hsn hok
      obtain ⟨⟨t, s⟩, n⟩ := q
      simp only at x0 x1 x2 hsn
      rw [okRn_iff, okId_iff] at hok
      simp only at hok
      obtain ⟨t', rfl⟩ : ∃ n : Nat, t = n := ⟨t.toNat, by omega⟩
      obtain ⟨s', rfl⟩ : ∃ n : Nat, s = n := ⟨s.toNat, by omega⟩
      obtain ⟨n', rfl⟩ : ∃ n' : Nat, n = n' := ⟨n.toNat, by omega⟩
      simp only [Int.toNat_natCast] at hsn
      have ht := enc_len9 t' (by omega)
      have hs := enc_len9 s' (by omega)
      have HSN := Lib.hid hsn
      have hka : Kept (fun _ => False) wr (wr.alloc (.cells #[.int .i64 (t' : Int), .int .i64 (s' : Int), .int .i64 (n' : Int)] 68)) := (Kept.refl _ _).alloc _
      have HX := Lib.hid (Box.new wr 68 #[.int .i64 (t' : Int), .int .i64 (s' : Int), .int .i64 (n' : Int)])
      have HG := Lib.hid (show ¬ OwnsW g sv' wr.heap.size from hw1.off (Nat.le_refl _))
      have HV := Lib.hid (WL.start (hw1.fresh hka))
      have HJ := Lib.hid (fun (n : List Int) (W' : World) (h' : WL (wr.alloc (.cells #[.int .i64 (t' : Int), .int .i64 (s' : Int), .int .i64 (n' : Int)] 68)) base g sv' (layB l e (encs (gone.length :: goneNums (gone.take k)))) e n W') => WL.join (hw1.fresh hka) (hw2.trans hka fun _ _ e => e.elim) hw3 h')
      obtain ⟨LL, hLL⟩ : ∃ LL, layB l e (encs (gone.length :: goneNums (gone.take k))) = LL := ⟨_, rfl⟩
      rw [hLL] at HV HJ hll
      clear hw1 hw2 hw3 hsn hka hne hLL
      go_upto_region 5 with (fail)
      generalize wr.alloc (.cells #[.int .i64 (t' : Int), .int .i64 (s' : Int), .int .i64 (n' : Int)] 68) = w3 at HX HV HJ ⊢
      obtain ⟨N, hN⟩ : ∃ N, wr.heap.size = N := ⟨_, rfl⟩
      rw [hN] at HX HG ⊢
      clear x0 x1 x2 hN
      have y0 : w3.cell? ⟨N, 0, none⟩ = some (.int .i64 (t' : Int)) := by simpa using HX.out.cell 0
      go_wp2_with (fail)
      refine (HV.out.num t' (by omega) (by simp only [List.length_nil]; omega)).mono ?_
      rintro r w4 ⟨rfl, hw4⟩
      have HV4 := Lib.hid hw4
      have y1 : w4.cell? ⟨N, 1, none⟩ = some (.int .i64 (s' : Int)) := by simpa using (hw4.box HX.out HG.out).cell 1
      clear hw4 HV y0
      go_wp2_with (fail)
      refine (HV4.out.num s' (by omega) (by simp only [List.length_append, List.length_nil]; omega)).mono ?_
      rintro r w5 ⟨rfl, hw5⟩
      have HV5 := Lib.hid hw5
      have y2 : w5.cell? ⟨N, 2, none⟩ = some (.int .i64 (n' : Int)) := by simpa using (hw5.box HX.out HG.out).cell 2
      clear hw5 HV4 y1
      go_wp2_with (fail)
      refine (HV5.out.num n' (by omega) (by simp only [List.length_append, List.length_nil]; omega)).mono ?_
      rintro r w6 ⟨rfl, hw6⟩
      have HW6 := Lib.hid (show WL w0 base g sv l e (encs (gone.length :: goneNums (gone.take (k + 1)))) w6 from by
        have := HJ.out _ _ hw6
        rw [show encs (gone.length :: goneNums (gone.take k)) ++ ([] ++ enc t' ++ enc s' ++ enc n') = encs (gone.length :: goneNums (gone.take (k + 1))) by rw [HSN.out]; simp [encs]] at this
        exact this)
      clear hw6 HV5 y2 HJ HX HG
      go_wp2_with (fail)
      go_roundw
      case rel => exact ⟨k + 1, by go_num, by omega, HW6.out⟩
      case measure => simp [intOf]; omega
    · obtain rfl : k = gone.length := by omega
      rw [List.take_length] at hw
      have HW6 := Lib.hid (hw.before HK0.out)
      clear hw
      go_wp2_with (fail)
      go_end0
      exact HW6.out.post rfl

theorem OffW.moved {w1 w2 : World} {g : Nat} {sv sv' : Value} {x : Lop} (h : OffW g sv x) (hx : x.At w1) (hm : MovedW w1 sv sv') (_hs : w1.heap.size ≤ w2.heap.size) : OffW g sv' x := by
  refine ⟨fun hne a ha ho => ?_, fun hne a ha ho => ?_⟩
  · rcases ho with e | e
    · exact h.d hne a ha (.inl e)
    · rcases hm _ e with e | e
      · exact h.d hne a ha (.inr e)
      · have := dots_lt0 hx.d hne a ha; omega
  · rcases ho with e | e
    · exact h.g hne a ha (.inl e)
    · rcases hm _ e with e | e
      · exact h.g hne a ha (.inr e)
      · have := runs_lt hx.g hne a ha; omega
def layO (l : List Int) (e : Int) (o : Opr) : List Int := if okOp o = true then layB l e (encOp o) else l
set_option maxRecDepth 100000 in
set_option maxHeartbeats 3200000 in
theorem OpPut_kind (base g : Nat) (sv : Value) (l : List Int) (e : Int) (x : Lop) (w : World) (T : TypeId) (v : Value) (K : Nat) (r : Value) (h : WriterAt w base g sv l e) (hx : x.At w) (hs : x.o.Small) (hoff : OffW g sv x) (hok : okOp x.o = true) (hl : l.length ≤ 800000)
    (HOF : Hid (∀ W, Calls Tryz.prog 77 #[.agg x.c] W (OfPost W (.iface T v))))
    (hm : ∀ W : World, (method 307 T v "hearsay/op.put").run Tryz.prog W = .ok (K, r) W) (hcf : ∀ (W : World) (a : Array Value), (callFunc K a).run Tryz.prog W = .ok (.enter K a) W)
    (HP : Hid (∀ (W : World) (sv' : Value) (l' : List Int), WriterAt W base g sv' l' e → x.At W → OffW g sv' x → l'.length ≤ 950000 → Calls Tryz.prog K #[r, .pointer (some ⟨g, 0, none⟩)] W (WPost W base g sv' (layB l' e (encT x.o)) e))) :
    Calls Tryz.prog 38 #[.pointer (some ⟨g, 0, none⟩), .agg x.c] w (WPost w base g sv (layB l e (encOp x.o)) e) := by
  have hf := okOp_f hok
  have hk0 : Kept (fun _ => False) w (w.alloc (.cells x.c 64)) := (Kept.refl _ _).alloc _
  have HK0 := Lib.hid hk0
  have HC := Lib.hid (fun W (hW : x.At W) => OpCheck_any x.o x.dA x.gA x.dc x.gc W (hW.opr hs))
  have HXC := Lib.hid (show x.o.cells x.dA x.dc x.gA x.gc = x.c from rfl)
  have HE := Lib.hid (show opE x.o = 0 by unfold opE; rw [hok]; rfl)
  have HN := Lib.hid (show ¬ OwnsW g sv w.heap.size from h.off (Nat.le_refl _))
  have HB := Lib.hid (Box.new w 64 x.c)
  have HW := Lib.hid (WL.start (h.fresh hk0))
  have HX := Lib.hid (hx.fresh hk0)
  have HOFF := Lib.hid hoff
  have HDV := Lib.hid hf.dv
  have hdl := hs.dl
  obtain ⟨kd, hkd⟩ : ∃ kd : Nat, x.o.kind = kd := ⟨x.o.kind.toNat, by have := hf.kd; omega⟩
  obtain ⟨st, hst⟩ : ∃ st : Nat, x.o.dot.site = st := ⟨x.o.dot.site.toNat, by have := hf.s1; omega⟩
  obtain ⟨sq, hsq⟩ : ∃ sq : Nat, x.o.dot.seq = sq := ⟨x.o.dot.seq.toNat, by have := hf.q1; omega⟩
  have hkb : kd ≤ 4 := by have := hf.kd; omega
  have hsb : st ≤ 16 := by have := hf.s2; omega
  have hqb : sq ≤ 2147483647 := by have := hf.q2; omega
  have e1 := enc_len9 kd (by omega)
  have e2 := enc_len9 st (by omega)
  have e3 := enc_len9 sq (by omega)
  have HEO := Lib.hid (show encOp x.o = [] ++ enc kd ++ enc st ++ enc sq ++ encs (vnums x.o.deps) ++ encT x.o by unfold encOp; rw [hkd, hst, hsq]; simp [encs])
  have hvl : (encs (vnums x.o.deps)).length ≤ 9 * 33 := by
    have hv := vec_len (Row.says x.o.deps)
    rw [vec_says hf.dv] at hv
    refine Nat.le_trans (encs_le _ fun z hz => ?_) ?_
    · unfold vnums at hz
      rcases List.mem_cons.1 hz with rfl | hz
      · omega
      · have := dotNums_bd x.o.deps (by have := vec_ok (Row.says x.o.deps) 17 (Nat.le_refl _); rw [show vecTo (says x.o.deps) 17 = x.o.deps from vec_says hf.dv] at this; exact this) z hz
        omega
    · unfold vnums
      rw [List.length_cons, dotNums_len]
      omega
  obtain ⟨cs, hcs⟩ : ∃ cs, x.c = cs := ⟨_, rfl⟩
  have HSZ := Lib.hid (show cs.size = 11 by rw [← hcs]; rfl)
  have HC3 := Lib.hid (show cs[3]? = some (.int .i64 (kd : Int)) by rw [← hcs, ← hkd]; rfl)
  have HC0 := Lib.hid (show cs[0]? = some (.int .i64 (st : Int)) by rw [← hcs, ← hst]; rfl)
  have HC1 := Lib.hid (show cs[1]? = some (.int .i64 (sq : Int)) by rw [← hcs, ← hsq]; rfl)
  have HC2 := Lib.hid (show cs[2]? = some (.slice x.dA x.o.deps.length x.dc) by rw [← hcs]; rfl)
  rw [hcs] at HXC HB HW HX HK0 HOF ⊢
  clear h hx hs hoff hok hk0 hf hcs hkd hst hsq
  go_enter Tryz.func38, Tryz.ntmps38
  go_upto_region 1 with (fail)
  generalize w.alloc (.cells cs 64) = w0 at HK0 HB HW HX ⊢
  go_wp2_with (refine wpList_load_op rfl _ rfl w.heap.size rfl _ cs HSZ.out HB.out ?_)
  have hcall := HC.out w0 HX.out
  rw [HXC.out, HE.out] at hcall
  refine hcall.mono ?_
  unfold IntPost
  rintro r1 w1 ⟨rfl, hk1⟩
  have HW1 := Lib.hid (HW.out.fresh hk1)
  have b3 : w1.cell? ⟨w.heap.size, 3, none⟩ = some (.int .i64 (kd : Int)) := ((HB.out.kept hk1 id).cell 3).trans HC3.out
  clear hk1 HW hcall HC HXC HE
  go_wp2_with (fail)
  refine (HW1.out.num kd (by omega) (by simp only [List.length_nil]; omega)).mono ?_
  rintro r2 w2 ⟨rfl, hw2⟩
  have HW2 := Lib.hid hw2
  have b0 : w2.cell? ⟨w.heap.size, 0, none⟩ = some (.int .i64 (st : Int)) := ((hw2.box HB.out HN.out).cell 0).trans HC0.out
  clear hw2 HW1 b3
  go_wp2_with (fail)
  refine (HW2.out.num st (by omega) (by simp only [List.length_append, List.length_nil]; omega)).mono ?_
  rintro r2 w3 ⟨rfl, hw3⟩
  have HW3 := Lib.hid hw3
  have b1 : w3.cell? ⟨w.heap.size, 1, none⟩ = some (.int .i64 (sq : Int)) := ((hw3.box HB.out HN.out).cell 1).trans HC1.out
  clear hw3 HW2 b0
  go_wp2_with (fail)
  refine (HW3.out.num sq (by omega) (by simp only [List.length_append, List.length_nil]; omega)).mono ?_
  rintro r2 w4 ⟨rfl, hw4⟩
  have HW4 := Lib.hid hw4
  have b2 : w4.cell? ⟨w.heap.size, 2, none⟩ = some (.slice x.dA x.o.deps.length x.dc) := ((hw4.box HB.out HN.out).cell 2).trans HC2.out
  clear hw4 HW3 b1
  go_wp2_with (fail)
  refine (HW4.out.dots x.dA x.o.deps x.dc (HW4.out.dotsAt HX.out.d HOFF.out.d) (by omega) HDV.out (by simp only [List.length_append, List.length_nil]; omega)).mono ?_
  rintro r2 w5 ⟨rfl, hw5⟩
  have HW5 := Lib.hid hw5
  have HB5 := Lib.hid (hw5.box HB.out HN.out)
  clear hw5 HW4 b2
  go_wp2_with (refine wpList_load_op rfl _ rfl w.heap.size rfl _ cs HSZ.out HB5.out ?_)
  refine (HOF.out w5).mono ?_
  unfold OfPost
  rintro r2 w6 ⟨rfl, hk6⟩
  obtain ⟨sv', hw6, hk6', hm6⟩ := HW5.out.fresh hk6
  have hll := layB_len l e ([] ++ enc kd ++ enc st ++ enc sq ++ encs (vnums x.o.deps))
  have hll2 : ([] ++ enc kd ++ enc st ++ enc sq ++ encs (vnums x.o.deps)).length ≤ 400 := by simp only [List.length_append, List.length_nil]; omega
  have hW6 : WL w0 base g sv l e ([] ++ enc kd ++ enc st ++ enc sq ++ encs (vnums x.o.deps)) w6 := ⟨sv', hw6, hk6', hm6⟩
  have hcall := HP.out w6 sv' _ hw6 ⟨hW6.dotsAt HX.out.d HOFF.out.d, hW6.runsAt HX.out.g HOFF.out.g⟩ (HOFF.out.moved HX.out hm6 (Nat.le_refl _)) (by omega)
  have HJ := Lib.hid (fun (W' : World) (hn : WNext w6 base g sv' (layB (layB l e ([] ++ enc kd ++ enc st ++ enc sq ++ encs (vnums x.o.deps))) e (encT x.o)) e W') => (WL.join (m := [] ++ enc kd ++ enc st ++ enc sq ++ encs (vnums x.o.deps)) (n := encT x.o) hw6 hk6' hm6 hn).before HK0.out)
  clear hk6 hw6 hk6' hm6 hW6 HW5 HB5 hll hll2
  go_wp2_with (fail)
  refine hcall.mono ?_
  rintro r3 w7 ⟨rfl, hn7⟩
  have HW7 := Lib.hid (HJ.out w7 hn7)
  clear hn7 HJ hcall
  go_wp2_with (fail)
  go_end0
  rw [HEO.out]
  exact HW7.out.post rfl
end Go.Proofs.YtnajbkccaclkcaaGreat

namespace Go.Proofs.YtnajbkccaclkcaaGreat
open Go Go.RowKit

set_option maxRecDepth 100000 in
set_option maxHeartbeats 1600000 in
theorem OpPut_no (base g : Nat) (sv : Value) (l : List Int) (e : Int) (x : Lop) (w : World) (h : WriterAt w base g sv l e) (hx : x.At w) (hs : x.o.Small) (hok : okOp x.o = false) :
    Calls Tryz.prog 38 #[.pointer (some ⟨g, 0, none⟩), .agg x.c] w (WPost w base g sv l e) := by
  have hk0 : Kept (fun _ => False) w (w.alloc (.cells x.c 64)) := (Kept.refl _ _).alloc _
  have HK0 := Lib.hid hk0
  have HC := Lib.hid (fun W (hW : x.At W) => OpCheck_any x.o x.dA x.gA x.dc x.gc W (hW.opr hs))
  have HXC := Lib.hid (show x.o.cells x.dA x.dc x.gA x.gc = x.c from rfl)
  have HE := Lib.hid (show opE x.o = 10 by unfold opE; rw [hok]; rfl)
  have HB := Lib.hid (Box.new w 64 x.c)
  have HX := Lib.hid (hx.fresh hk0)
  have H := Lib.hid h
  obtain ⟨cs, hcs⟩ : ∃ cs, x.c = cs := ⟨_, rfl⟩
  have HSZ := Lib.hid (show cs.size = 11 by rw [← hcs]; rfl)
  rw [hcs] at HXC HB HX HK0 ⊢
  clear h hx hs hok hk0 hcs
  go_enter Tryz.func38, Tryz.ntmps38
  go_upto_region 1 with (fail)
  generalize w.alloc (.cells cs 64) = w0 at HK0 HB HX ⊢
  go_wp2_with (refine wpList_load_op rfl _ rfl w.heap.size rfl _ cs HSZ.out HB.out ?_)
  have hcall := HC.out w0 HX.out
  rw [HXC.out, HE.out] at hcall
  refine hcall.mono ?_
  unfold IntPost
  rintro r1 w1 ⟨rfl, hk1⟩
  have hk := HK0.out.trans hk1 fun _ _ e => e
  have HW := Lib.hid (WPost.same (r := .returned (.tuple #[])) rfl (H.out.fresh hk) (hk.more fun _ _ e => e.elim))
  clear hk1 hcall hk
  go_wp2_with (fail)
  go_end0
  exact HW.out
theorem nat_of {n : Int} (h : 0 ≤ n) : n = (n.toNat : Int) := by omega
theorem OpPut_any (base g : Nat) (sv : Value) (l : List Int) (e : Int) (x : Lop) (w : World) (h : WriterAt w base g sv l e) (hx : x.At w) (hs : x.o.Small) (hoff : OffW g sv x) (hl : l.length ≤ 800000) :
    Calls Tryz.prog 38 #[.pointer (some ⟨g, 0, none⟩), .agg x.c] w (WPost w base g sv (layO l e x.o) e) := by
  unfold layO
  cases hok : okOp x.o with
  | false => exact OpPut_no base g sv l e x w h hx hs hok
  | true =>
    rw [if_pos rfl]
    have hf := okOp_f hok
    have hof := fun W => opof_any x.o x.dA x.gA x.dc x.gc W
    unfold ofV at hof
    rcases hf.kd with ⟨k1, hgo, hsi, hc0, hc1, hb, his, hid, hti, href, hlt⟩ | ⟨k2, hid, href, htx, hsi, hg0, hg1, hck⟩ | ⟨k3, hgo, hid, href, htx, hs1, hs2⟩ | ⟨k4, hgo, hid, href, htx, hsi⟩
    · simp only [if_pos k1] at hof
      refine OpPut_kind base g sv l e x w _ _ 139 (.agg #[.int .i64 x.o.id.time, .int .i64 x.o.id.site, .int .i64 x.o.ref.time, .int .i64 x.o.ref.site, .string x.o.text]) h hx hs hoff hok hl (Lib.hid hof) (fun _ => by kernel_rfl) (fun _ _ => by kernel_rfl) (Lib.hid fun W sv' l' hW hxW hoW hl' => ?_)
      rw [okId_iff] at hid
      have hr0 : 0 ≤ x.o.ref.time ∧ 0 ≤ x.o.ref.site ∧ x.o.ref.site ≤ 16 := by
        rcases href with h | h
        · rw [h]; exact ⟨by decide, by decide, by decide⟩
        · rw [okId_iff] at h; omega
      have := putI_any base g sv' l' e x.o.id.time.toNat x.o.ref.time.toNat x.o.ref.site.toNat x.o.id.site x.o.text W hW (by omega) (by omega) (by omega) hs.tl hl'
      rw [← nat_of (by omega : 0 ≤ x.o.id.time), ← nat_of hr0.1, ← nat_of hr0.2.1] at this
      rw [show encT x.o = encs [x.o.id.time.toNat, x.o.ref.time.toNat, x.o.ref.site.toNat] ++ (enc x.o.text.size ++ tb x.o.text) from if_pos k1]
      exact this
    · simp only [k2, if_true, if_neg (show ¬ (2 : Int) = 1 by decide)] at hof
      refine OpPut_kind base g sv l e x w _ _ 150 (.agg #[.slice x.gA x.o.gone.length x.gc]) h hx hs hoff hok hl (Lib.hid hof) (fun _ => by kernel_rfl) (fun _ _ => by kernel_rfl) (Lib.hid fun W sv' l' hW hxW hoW hl' => ?_)
      rw [show encT x.o = encs (x.o.gone.length :: goneNums x.o.gone) by unfold encT; rw [if_neg (by rw [k2]; decide), if_pos k2]]
      exact putR_any base g sv' l' e x.gA x.o.gone x.gc W hW hxW.g hoW.g (chkR_all _ _ hck) hg1 hl'
    · simp only [k3, if_true, if_neg (show ¬ (3 : Int) = 1 by decide), if_neg (show ¬ (3 : Int) = 2 by decide)] at hof
      refine OpPut_kind base g sv l e x w _ _ 156 (.agg #[.int .i64 x.o.site]) h hx hs hoff hok hl (Lib.hid hof) (fun _ => by kernel_rfl) (fun _ _ => by kernel_rfl) (Lib.hid fun W sv' l' hW hxW hoW hl' => ?_)
      have := putJ_any base g sv' l' e x.o.site.toNat W hW (by omega) hl'
      rw [← nat_of (by omega : 0 ≤ x.o.site)] at this
      rw [show encT x.o = encs [x.o.site.toNat] by unfold encT; rw [if_neg (by rw [k3]; decide), if_neg (by rw [k3]; decide), if_pos k3]]
      exact this
    · simp only [k4, if_true, if_neg (show ¬ (4 : Int) = 1 by decide), if_neg (show ¬ (4 : Int) = 2 by decide), if_neg (show ¬ (4 : Int) = 3 by decide)] at hof
      refine OpPut_kind base g sv l e x w _ _ 160 (.agg #[]) h hx hs hoff hok hl (Lib.hid hof) (fun _ => by kernel_rfl) (fun _ _ => by kernel_rfl) (Lib.hid fun W sv' l' hW hxW hoW hl' => ?_)
      rw [show encT x.o = [] by unfold encT; rw [if_neg (by rw [k4]; decide), if_neg (by rw [k4]; decide), if_neg (by rw [k4]; decide)]]
      exact putL_any base g sv' l' e W hW
theorem encOp_len (o : Opr) (hok : okOp o = true) (hs : o.Small) : (encOp o).length ≤ 1100000 := by
  have hf := okOp_f hok
  have hv := vec_len (Row.says o.deps)
  rw [vec_says hf.dv] at hv
  have hvl : (encs (vnums o.deps)).length ≤ 9 * 33 := by
    refine Nat.le_trans (encs_le _ fun z hz => ?_) ?_
    · unfold vnums at hz
      rcases List.mem_cons.1 hz with rfl | hz
      · omega
      · have := dotNums_bd o.deps (by have := vec_ok (Row.says o.deps) 17 (Nat.le_refl _); rw [show vecTo (says o.deps) 17 = o.deps from vec_says hf.dv] at this; exact this) z hz
        omega
    · unfold vnums
      rw [List.length_cons, dotNums_len]
      omega
  have hh : (encs [o.kind.toNat, o.dot.site.toNat, o.dot.seq.toNat]).length ≤ 27 := by
    refine Nat.le_trans (encs_le _ fun z hz => ?_) (by simp)
    have := hf.s2; have := hf.q2; have := hf.kd
    simp only [List.mem_cons, List.not_mem_nil, or_false] at hz
    rcases hz with rfl | rfl | rfl <;> omega
  have ht : (encT o).length ≤ 1050000 := by
    have htl := hs.tl
    unfold encT
    split
    · rename_i k1
      have h1 : (encs [o.id.time.toNat, o.ref.time.toNat, o.ref.site.toNat]).length ≤ 27 := by
        refine Nat.le_trans (encs_le _ fun z hz => ?_) (by simp)
        rcases hf.kd with ⟨-, -, -, -, -, -, -, hid, -, href, -⟩ | ⟨k, -⟩ | ⟨k, -⟩ | ⟨k, -⟩
        · rw [okId_iff] at hid
          have hr0 : o.ref.time ≤ 2147483647 ∧ o.ref.site ≤ 16 := by
            rcases href with h | h
            · rw [h]; exact ⟨by decide, by decide⟩
            · rw [okId_iff] at h; omega
          simp only [List.mem_cons, List.not_mem_nil, or_false] at hz
          rcases hz with rfl | rfl | rfl <;> omega
        all_goals (rw [k1] at k; exact absurd k (by decide))
      have h2 := enc_len9 o.text.size (by omega)
      simp only [List.length_append, tb_len]
      omega
    · split
      · rename_i k2
        rcases hf.kd with ⟨k, -⟩ | ⟨-, -, -, -, -, hg0, hg1, hck⟩ | ⟨k, -⟩ | ⟨k, -⟩
        · rw [k2] at k; exact absurd k (by decide)
        · refine Nat.le_trans (encs_le _ fun z hz => ?_) ?_
          · rcases List.mem_cons.1 hz with rfl | hz
            · omega
            · have := goneNums_bd o.gone (chkR_all _ _ hck) z hz; omega
          · rw [List.length_cons, goneNums_len]; omega
        all_goals (rw [k2] at k; exact absurd k (by decide))
      · split
        · rename_i k3
          refine Nat.le_trans (encs_le _ fun z hz => ?_) (by simp)
          rcases hf.kd with ⟨k, -⟩ | ⟨k, -⟩ | ⟨-, -, -, -, -, h1, h2⟩ | ⟨k, -⟩
          · rw [k3] at k; exact absurd k (by decide)
          · rw [k3] at k; exact absurd k (by decide)
          · simp only [List.mem_cons, List.not_mem_nil, or_false] at hz
            omega
          · rw [k3] at k; exact absurd k (by decide)
        · simp
  unfold encOp
  simp only [List.length_append]
  omega
/-- The bytes in new memory, or the error. -/
def EncPost (w : World) (o : Opr) (e : Ending) (w' : World) : Prop :=
  if okOp o = true then ∃ A c, e = .returned (.tuple #[.slice A (encOp o).length c, .int .i64 0]) ∧ w'.ownsRow w.heap.size 5 1 (.slice A (encOp o).length c) (encOp o).length (bys (encOp o)) ∧ Kept (fun _ => False) w w'
  else e = .returned (.tuple #[.slice none 0 0, .int .i64 10]) ∧ Kept (fun _ => False) w w'
theorem WriterAt.new (w : World) : WriterAt (w.alloc (.cells #[.slice none 0 0, .int .i64 0] 39)) w.heap.size w.heap.size (.slice none 0 0) [] 0 := ⟨Box.new _ _ _, World.ownsRow_nil _ _ _ _, Nat.le_refl _⟩
theorem WNext.new {w w1 w2 : World} {g : Nat} {l : List Int} {e : Int} (h : WNext w1 w.heap.size g (.slice none 0 0) l e w2) (hk : Kept (fun _ => False) w w1) (hg : w.heap.size ≤ g) : Kept (fun _ => False) w w2 := by
  obtain ⟨sv', h1, h2, h3⟩ := h
  refine hk.trans h2 fun k hk ho => ?_
  rcases ho with rfl | e
  · omega
  · cases e
theorem OffW.new {w1 : World} {x : Lop} (h : x.At w1) : OffW w1.heap.size (.slice none 0 0) x := by
  refine ⟨fun hne a ha ho => ?_, fun hne a ha ho => ?_⟩
  · rcases ho with e | e
    · have := dots_lt0 h.d hne a ha; omega
    · cases e
  · rcases ho with e | e
    · have := runs_lt h.g hne a ha; omega
    · cases e
end Go.Proofs.YtnajbkccaclkcaaGreat
