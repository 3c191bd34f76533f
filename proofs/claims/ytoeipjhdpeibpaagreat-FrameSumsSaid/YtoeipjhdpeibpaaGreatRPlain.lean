/- Identifiers and runs of them, as plain data: what may be one, which runs may follow one another. No program. -/
import Derived.Maps.Views
import Derived.Maps.OwnSet
import Derived.Maps.OwnOps
namespace Go.Proofs.YtoeipjhdpeibpaaGreat
open Go

structure Idt where
  time : Int
  site : Int
deriving DecidableEq
structure Rn where
  id : Idt
  count : Int
deriving DecidableEq
def idV (i : Idt) : Value := .agg #[.int .i64 i.time, .int .i64 i.site]
def rnV (r : Rn) : Value := .agg #[.int .i64 r.id.time, .int .i64 r.id.site, .int .i64 r.count]
def okId (i : Idt) : Bool := decide (1 ≤ i.time ∧ i.time ≤ 2147483647 ∧ 1 ≤ i.site ∧ i.site ≤ 16)
theorem okId_iff (i : Idt) : okId i = true ↔ 1 ≤ i.time ∧ i.time ≤ 2147483647 ∧ 1 ≤ i.site ∧ i.site ≤ 16 := by simp [okId]
def noId : Idt := ⟨0, 0⟩
def afterI (i : Idt) (n : Int) : Idt := if okId i = true ∧ 0 ≤ n ∧ n ≤ 2147483647 - i.time then ⟨i.time + n, i.site⟩ else noId
def lastI (r : Rn) : Idt := if r.count < 1 then noId else afterI r.id (r.count - 1)
def cmpI (a b : Int) : Int := if a < b then -1 else if b < a then 1 else 0
def cmpId (a b : Idt) : Int := if cmpI a.time b.time ≠ 0 then cmpI a.time b.time else cmpI a.site b.site
def ltId (a b : Idt) : Prop := a.time < b.time ∨ a.time = b.time ∧ a.site < b.site
instance (a b : Idt) : Decidable (ltId a b) := by unfold ltId; infer_instance
theorem cmpId_le (a b : Idt) : cmpId a b ≤ 0 ↔ ¬ ltId b a := by
  unfold cmpId cmpI ltId
  split <;> rename_i h <;> (repeat' split) <;> (try simp_all) <;> omega
/-- May a run be one? -/
def okRn (r : Rn) : Bool := decide (1 ≤ r.count) && okId r.id && decide (r.count - 1 ≤ 2147483647 - r.id.time)
theorem lastI_eq (r : Rn) : lastI r = if okRn r = true then ⟨r.id.time + (r.count - 1), r.id.site⟩ else noId := by
  unfold lastI afterI okRn
  simp only [Bool.and_eq_true, decide_eq_true_eq]
  split
  · rw [if_neg (by omega)]
  · by_cases h : okId r.id = true
    · by_cases h2 : r.count - 1 ≤ 2147483647 - r.id.time
      · rw [if_pos ⟨h, by omega, h2⟩, if_pos ⟨⟨by omega, h⟩, h2⟩]
      · rw [if_neg (by omega), if_neg (by omega)]
    · rw [if_neg fun e => h e.1, if_neg fun e => h e.1.2]
theorem lastI_no (r : Rn) : lastI r = noId ↔ okRn r = false := by
  rw [lastI_eq]
  cases h : okRn r with
  | false => simp
  | true =>
    rw [if_pos rfl]
    unfold okRn at h
    simp only [Bool.and_eq_true, okId_iff] at h
    constructor
    · intro e
      injection e with _ e2
      have : r.id.site = 0 := e2
      omega
    · intro e; cases e
/-- Does a run not rise above the last of these? -/
def notUp (p : List Rn) (r : Rn) : Bool := match p.getLast? with | none => false | some q => !decide (ltId q.id r.id)
/-- Does one of these reach up to a run of its site? -/
def meets (p : List Rn) (r : Rn) : Bool := p.any fun q => decide (q.id.site = r.id.site ∧ r.id.time ≤ q.id.time + q.count)
theorem meets_iff (p : List Rn) (r : Rn) : meets p r = true ↔ ∃ q ∈ p, q.id.site = r.id.site ∧ r.id.time ≤ q.id.time + q.count := by simp [meets]
/-- What a run is told behind others: 0: it may follow. -/
def stepR (p : List Rn) (r : Rn) : Int := if okRn r = false then 1 else if notUp p r = true then 9 else if meets p r = true then 6 else 0
/-- What runs are told, behind others that may be. -/
def chkR : List Rn → List Rn → Int
  | _, [] => 0
  | p, r :: t => if stepR p r = 0 then chkR (p ++ [r]) t else stepR p r
theorem chkR_step (l : List Rn) {k : Nat} (h : k < l.length) : chkR (l.take k) (l.drop k) = if stepR (l.take k) l[k] = 0 then chkR (l.take (k + 1)) (l.drop (k + 1)) else stepR (l.take k) l[k] := by
  rw [List.drop_eq_getElem_cons h, chkR, List.take_succ_eq_append_getElem h]
theorem chkR_end (l : List Rn) : chkR (l.take l.length) (l.drop l.length) = 0 := by rw [List.drop_length]; rfl
theorem getLast_take (l : List Rn) {k : Nat} (h : k + 1 < l.length) : (l.take (k + 1)).getLast? = some (l[k]'(by omega)) := by
  rw [List.take_succ_eq_append_getElem (by omega)]
  exact List.getLast?_concat
theorem notUp_zero (l : List Rn) (r : Rn) : notUp (l.take 0) r = false := rfl
theorem notUp_succ (l : List Rn) {k : Nat} (h : k + 1 < l.length) (r : Rn) : notUp (l.take (k + 1)) r = !decide (ltId (l[k]'(by omega)).id r.id) := by
  unfold notUp
  rw [getLast_take l h]

section
variable {H : Type} {D : DataW H}
open Go.Maps
/-- The map of ends tells of each site the greatest time so far. -/
def EndsAt (D : DataW H) (p : List Rn) : Prop := IsMap D ∧ ∀ s : Int,
  (has D (.int .i64 s) = true ↔ ∃ q ∈ p, q.id.site = s) ∧
  ((∃ q ∈ p, q.id.site = s) → ∃ m : Int, (0 ≤ m ∧ m ≤ 2147483647) ∧ (∀ zd, D.atKey (.int .i64 s) zd = .lit (.int .i64 m)) ∧ (∀ q ∈ p, q.id.site = s → q.id.time + q.count - 1 ≤ m) ∧ ∃ q ∈ p, q.id.site = s ∧ q.id.time + q.count - 1 = m)
theorem EndsAt.nil : EndsAt (H := H) (.map []) [] := ⟨⟨[], rfl⟩, fun s => ⟨by simp [has], by simp⟩⟩
theorem EndsAt.test {p : List Rn} (h : EndsAt D p) (r : Rn) {c : Int} {zd : DataW H} (hc : D.atKey (.int .i64 r.id.site) zd = .lit (.int .i64 c)) : meets p r = (has D (.int .i64 r.id.site) && decide (r.id.time ≤ c + 1)) := by
  obtain ⟨h1, h2⟩ := h.2 r.id.site
  rw [Bool.eq_iff_iff, meets_iff, Bool.and_eq_true, decide_eq_true_eq, h1]
  constructor
  · rintro ⟨q, hq, e, ht⟩
    obtain ⟨m, _, hm, hb, _⟩ := h2 ⟨q, hq, e⟩
    rw [hm zd] at hc
    injection hc with hc
    injection hc with _ hc
    have := hb q hq e
    exact ⟨⟨q, hq, e⟩, by omega⟩
  · rintro ⟨he, ht⟩
    obtain ⟨m, _, hm, _, q, hq, e, hqm⟩ := h2 he
    rw [hm zd] at hc
    injection hc with hc
    injection hc with _ hc
    exact ⟨q, hq, e, by omega⟩
theorem EndsAt.bound {p : List Rn} (h : EndsAt D p) (s : Int) {c : Int} (hc : D.atKey (.int .i64 s) (.lit (.int .i64 0)) = .lit (.int .i64 c)) (hh : has D (.int .i64 s) = true) : 0 ≤ c ∧ c ≤ 2147483647 := by
  obtain ⟨h1, h2⟩ := h.2 s
  obtain ⟨m, hb, hm, _⟩ := h2 (h1.1 hh)
  rw [hm] at hc
  injection hc with hc
  injection hc with _ hc
  rw [← hc]
  exact hb
theorem EndsAt.put {p : List Rn} (h : EndsAt D p) {r : Rn} (hr : okRn r = true) (hm : meets p r = false) : EndsAt (D.put (.int .i64 r.id.site) (.lit (.int .i64 (r.id.time + (r.count - 1))))) (p ++ [r]) := by
  have hn : ∀ q ∈ p, q.id.site = r.id.site → q.id.time + q.count < r.id.time := fun q hq e => by
    rcases Int.lt_or_le (q.id.time + q.count) r.id.time with h1 | h1
    · exact h1
    · have := (meets_iff p r).2 ⟨q, hq, e, h1⟩
      rw [hm] at this
      cases this
  have hc : 1 ≤ r.count := by
    unfold okRn at hr
    simp only [Bool.and_eq_true, decide_eq_true_eq] at hr
    exact hr.1.1
  have hrb : 0 ≤ r.id.time + (r.count - 1) ∧ r.id.time + (r.count - 1) ≤ 2147483647 := by
    unfold okRn at hr
    simp only [Bool.and_eq_true, decide_eq_true_eq, okId_iff] at hr
    omega
  refine ⟨IsMap.put h.1 _ _, fun s => ?_⟩
  by_cases hs : s = r.id.site
  · subst hs
    refine ⟨⟨fun _ => ⟨r, by simp, rfl⟩, fun _ => has_put_same h.1 (show WideAt.IsKeyLit (.int .i64 r.id.site) from trivial) _⟩, fun _ => ⟨r.id.time + (r.count - 1), hrb, fun zd => atKey_put_same h.1 (show WideAt.IsKeyLit (.int .i64 r.id.site) from trivial) _ zd, fun q hq e => ?_, r, by simp, rfl, by omega⟩⟩
    rcases List.mem_append.1 hq with hq | hq
    · have := hn q hq e; omega
    · obtain rfl : q = r := by simpa using hq
      omega
  · have hne : (Lit.int .i64 s) ≠ (Lit.int .i64 r.id.site) := fun e => hs (by injection e)
    obtain ⟨h1, h2⟩ := h.2 s
    have hmem : ∀ q, q ∈ p ++ [r] → q.id.site = s → q ∈ p := fun q hq e => by
      rcases List.mem_append.1 hq with hq | hq
      · exact hq
      · obtain rfl : q = r := by simpa using hq
        exact absurd e.symm hs
    have hex : (∃ q ∈ p ++ [r], q.id.site = s) ↔ ∃ q ∈ p, q.id.site = s := ⟨fun ⟨q, hq, e⟩ => ⟨q, hmem q hq e, e⟩, fun ⟨q, hq, e⟩ => ⟨q, List.mem_append_left _ hq, e⟩⟩
    rw [has_put_other hne, hex]
    refine ⟨h1, fun he => ?_⟩
    obtain ⟨m, hmb, hm1, hm2, q, hq, e, hqm⟩ := h2 he
    exact ⟨m, hmb, fun zd => by rw [atKey_put_other hne]; exact hm1 zd, fun q hq e => hm2 q (hmem q hq e) e, q, List.mem_append_left _ hq, e, hqm⟩
end
end Go.Proofs.YtoeipjhdpeibpaaGreat
