/- Plain words about worlds, used by all walks of this seat: a block known whole (Box), a step that turns only the blocks of a set and makes new ones (Kept), numbers in a slice (Seq). No condition. · Identifiers and runs of them, as plain data: what may be one, which runs may follow one another. No program. · Texts: how the model cuts one into runes, and how the document does: the same. No program. -/
import Derived.WalkKit
import Derived.WalkSpells
import Derived.WalkLawsBesides
import Derived.Deep.QuietTactic
import Derived.BigQuiet
import Derived.Lib.Hide
import Derived.Deep.DeepCutAuto
import Derived.Deep.DeepFit
import Derived.Maps.Views
import Derived.Maps.OwnSet
import Derived.Maps.OwnOps
import Derived.Laws.RangeAny
import Derived.Lib.OthersKept
namespace Go.Proofs.YtnajbkccaclkcaaGreat
open Go.RowKit

/-- Block g is just the cells cs of type t, none frozen. -/
def Box (w : World) (g : Nat) (t : TypeId) (cs : Array Value) : Prop := w.heap[g]? = some (.cells cs t (0, 0))

/-- Of the blocks of w only those of S may have turned; there may be new ones. -/
structure Kept (S : Nat → Prop) (w w' : World) : Prop where
  os : w'.os = w.os
  tape : w'.tape = w.tape
  output : w'.output = w.output
  size : w.heap.size ≤ w'.heap.size
  block : ∀ k, k < w.heap.size → ¬ S k → w'.heap[k]? = w.heap[k]?

section
variable {w w' w1 w2 : World} {g : Nat} {t : TypeId} {cs : Array Value} {S T : Nat → Prop}

theorem Box.lt (h : Box w g t cs) : g < w.heap.size := by
  rcases Nat.lt_or_ge g w.heap.size with hlt | hge
  · exact hlt
  · unfold Box at h; rw [Array.getElem?_eq_none hge] at h; cases h
theorem Box.cell (h : Box w g t cs) (i : Nat) : w.cell? ⟨g, i, none⟩ = cs[i]? := cell_of_row w g i cs t (0, 0) h
theorem Box.frozen (h : Box w g t cs) (i : Nat) : w.frozen? ⟨g, i, none⟩ = false := by
  unfold Box at h
  simp [World.frozen?, h]
theorem Box.new (w : World) (t : TypeId) (cs : Array Value) : Box (w.alloc (.cells cs t)) w.heap.size t cs := heap_alloc_new w _
theorem Box.drew (h : Box w g t cs) : Box w.drew g t cs := h
theorem Box.drewN (h : Box w g t cs) (n : Nat) : Box (w.drewN n) g t cs := h
theorem Box.alloc (h : Box w g t cs) (o : Obj) : Box (w.alloc o) g t cs := (Below.heap_alloc w o g h.lt).trans h
theorem Box.set (h : Box w g t cs) (i : Nat) (u : Value) : Box (w.setCell ⟨g, i, none⟩ u) g t (cs.setIfInBounds i u) := by
  unfold Box at h ⊢
  simp [World.setCell, Array.getElem?_modify, h]
theorem Box.far (h : Box w g t cs) {p : Addr} (hp : g ≠ p.block) (u : Value) : Box (w.setCell p u) g t cs := (Below.heap_setCell w p u g hp).trans h
theorem Box.kept (h : Box w g t cs) (hk : Kept S w w') (hg : ¬ S g) : Box w' g t cs := (hk.block g h.lt hg).trans h
theorem Box.ne {g' : Nat} {t' : TypeId} {cs' : Array Value} (h : Box w g t cs) (h' : Box w g' t' cs') (hne : t ≠ t') : g ≠ g' := by
  rintro rfl
  unfold Box at h h'
  rw [h] at h'
  injection h' with h'
  injection h' with _ ht
  exact hne ht

theorem Kept.refl (S : Nat → Prop) (w : World) : Kept S w w := ⟨rfl, rfl, rfl, Nat.le_refl _, fun _ _ _ => rfl⟩
theorem Kept.trans (h : Kept S w w1) (h' : Kept T w1 w2) (hT : ∀ k, k < w.heap.size → T k → S k) : Kept S w w2 :=
  ⟨h'.os.trans h.os, h'.tape.trans h.tape, h'.output.trans h.output, Nat.le_trans h.size h'.size, fun k hk hs =>
    (h'.block k (Nat.lt_of_lt_of_le hk h.size) (fun ht => hs (hT k hk ht))).trans (h.block k hk hs)⟩
theorem Kept.more (h : Kept S w w') (hT : ∀ k, k < w.heap.size → S k → T k) : Kept T w w' :=
  ⟨h.os, h.tape, h.output, h.size, fun k hk ht => h.block k hk (fun hs => ht (hT k hk hs))⟩
theorem Kept.drew (h : Kept S w w') : Kept S w w'.drew := ⟨h.os, h.tape, h.output, h.size, h.block⟩
theorem Kept.drewN (h : Kept S w w') (n : Nat) : Kept S w (w'.drewN n) := ⟨h.os, h.tape, h.output, h.size, h.block⟩
theorem Kept.alloc (h : Kept S w w') (o : Obj) : Kept S w (w'.alloc o) :=
  ⟨h.os, h.tape, h.output, Nat.le_trans h.size (by simp), fun k hk hs => (Below.heap_alloc w' o k (Nat.lt_of_lt_of_le hk h.size)).trans (h.block k hk hs)⟩
theorem Kept.set (h : Kept S w w') {p : Addr} (hp : S p.block ∨ w.heap.size ≤ p.block) (u : Value) : Kept S w (w'.setCell p u) :=
  ⟨h.os, h.tape, h.output, by simpa [World.setCell] using h.size, fun k hk hs => (Below.heap_setCell w' p u k (by
    rintro rfl
    rcases hp with hp | hp
    · exact hs hp
    · omega)).trans (h.block k hk hs)⟩
theorem Kept.at (h : Kept S w w') (i : Nat) (u : Value) (hp : S g ∨ w.heap.size ≤ g) : Kept S w (w'.setCell ⟨g, i, none⟩ u) := h.set (p := ⟨g, i, none⟩) hp u
theorem Kept.grown {row : Option Nat} (h : Kept S w w1) (hg : w1.grownBy w2 row) (hr : ∀ k, k < w.heap.size → row = some k → S k) : Kept S w w2 :=
  h.trans (T := fun k => row = some k) ⟨hg.os, hg.tape, hg.output, hg.size, fun k hk hne => hg.block k hk (fun e => hne e.symm)⟩ hr
theorem Kept.below {B : Nat} (h : Kept S w w') (hB : B ≤ w.heap.size) (hS : ∀ k, S k → B ≤ k) : Below B w w' :=
  ⟨h.os, h.tape, h.output, h.size, fun k hk => h.block k (by omega) (fun hs => by have := hS k hs; omega)⟩
theorem Kept.of_below {B : Nat} (h : Below B w w') (hS : ∀ k, B ≤ k → k < w.heap.size → S k) : Kept S w w' :=
  ⟨h.os, h.tape, h.output, h.size, fun k hk hs => h.block k (by
    rcases Nat.lt_or_ge k B with h1 | h1
    · exact h1
    · exact absurd (hS k h1 hk) hs)⟩
theorem Kept.drewN_eq (n : Nat) : Kept S w (w.drewN n) := (Kept.refl S w).drewN n
theorem Kept.own {base : Nat} {e : TypeId} {size n : Nat} {v : Value} {xs : List Value} (hk : Kept S w w') (h : w.ownsRow base e size v n xs) (hne : ∀ k, v.ownBlock = some k → ¬ S k) : w'.ownsRow base e size v n xs := by
  refine ⟨h.1, ?_⟩
  rcases h.2 with hn | ⟨g, cap, cur, rfl, hb, hgg, rest⟩
  · exact .inl hn
  · refine .inr ⟨g, cap, cur, rfl, hb, ?_, rest⟩
    rw [hk.block g (Array.getElem?_eq_some_iff.1 hgg).1 (hne g rfl)]
    exact hgg
theorem own_box_ne {base : Nat} {e : TypeId} {size n : Nat} {v : Value} {xs : List Value} (h : w.ownsRow base e size v n xs) (hg : Box w g t cs) (hne : e ≠ t) : v.ownBlock ≠ some g := by
  rcases h.2 with ⟨rfl, _⟩ | ⟨g', cap, cur, rfl, _, hh, _⟩
  · simp [Value.ownBlock]
  · intro he
    have : g' = g := by simpa [Value.ownBlock] using he
    subst this
    exact Box.ne (t := e) hh hg hne rfl
end

theorem own_base {w : World} {base base' : Nat} {e : TypeId} {size n : Nat} {v : Value} {xs : List Value} (h : w.ownsRow base e size v n xs) (hb : base' ≤ base) : w.ownsRow base' e size v n xs := by
  refine ⟨h.1, ?_⟩
  rcases h.2 with hn | ⟨g, cap, cur, hv, hg, rest⟩
  · exact .inl hn
  · exact .inr ⟨g, cap, cur, hv, by omega, rest⟩

theorem ret_bool {a b : Bool} (h : a = b) : Ending.returned (.bool a) = .returned (.bool b) := by rw [h]
theorem ret_int {a b : Int} (h : a = b) : Ending.returned (.int .i64 a) = .returned (.int .i64 b) := by rw [h]
theorem dd (w : World) (n m : Nat) : (w.drewN n).drewN m = w.drewN (n + m) := World.drewN_drewN ..

theorem news_one (W : World) (u : Value) (T : TypeId) (g : Nat) (hg : g = W.heap.size) : ∀ (j : Nat) (v : Value), [u][j]? = some v → (W.alloc (.cells #[u] T)).cell? ((⟨g, 0, none⟩ : Addr).add j) = some v := by
  subst hg
  exact cell_one_new _ _ _

theorem one_int (k : IntKind) (x : Int) : ∀ u ∈ [Value.int k x], u.oneCell' = true := by intro u hu; simp at hu; subst hu; rfl

theorem add_none (g i : Nat) : (⟨g, 0, none⟩ : Addr).add i = ⟨g, i, none⟩ := by unfold Addr.add; split <;> simp_all

/-- The slice from address A on holds the numbers zs (nil let in). -/
def Seq (w : World) (A : Option Addr) (zs : List Int) : Prop := ∀ k (h : k < zs.length), ∃ ad, A = some ad ∧ w.cell? (ad.add k) = some (.int .i64 zs[k])

section
variable {w w' : World} {A : Option Addr} {zs : List Int}
theorem Seq.drewN (h : Seq w A zs) (n : Nat) : Seq (w.drewN n) A zs := h
theorem Seq.kept {S : Nat → Prop} (h : Seq w A zs) (hk : Kept S w w') (hA : ∀ a, A = some a → ¬ S a.block) : Seq w' A zs := fun k hlt => by
  obtain ⟨ad, he, hc⟩ := h k hlt
  have hb : (ad.add k).block = ad.block := by unfold Addr.add; split <;> rfl
  refine ⟨ad, he, ?_⟩
  have hlt' : (ad.add k).block < w.heap.size := World.block_lt_of_cell? w _ hc
  rw [World.cell?_of_block (w := w) (hk.block _ hlt' (by rw [hb]; exact hA ad he))]
  exact hc
theorem Seq.of_own {base : Nat} {e : TypeId} {n c : Nat} (h : w.ownsRow base e 1 (.slice A n c) n (zs.map (Value.int .i64))) : Seq w A zs := fun k hlt => by
  have hz := h.1
  simp only [List.length_map, Nat.mul_one] at hz
  rcases h.2 with ⟨_, h0⟩ | ⟨g, cap, cur, hv, _⟩
  · omega
  · injection hv with hA
    subst hA
    exact ⟨_, rfl, h.cells (g := g) rfl k _ (by simp [hlt])⟩
end
end Go.Proofs.YtnajbkccaclkcaaGreat

namespace Go.Proofs.YtnajbkccaclkcaaGreat
open Go

structure Idt where
  time : Int
  site : Int
deriving DecidableEq
structure Rn where
  id : Idt
  count : Int
deriving DecidableEq
def idV (i : Idt) : Value := .agg #[.int .i64 i.time, .int .i64 i.site]
def rnV (r : Rn) : Value := .agg #[.int .i64 r.id.time, .int .i64 r.id.site, .int .i64 r.count]
def okId (i : Idt) : Bool := decide (1 ≤ i.time ∧ i.time ≤ 2147483647 ∧ 1 ≤ i.site ∧ i.site ≤ 16)
theorem okId_iff (i : Idt) : okId i = true ↔ 1 ≤ i.time ∧ i.time ≤ 2147483647 ∧ 1 ≤ i.site ∧ i.site ≤ 16 := by simp [okId]
def noId : Idt := ⟨0, 0⟩
def afterI (i : Idt) (n : Int) : Idt := if okId i = true ∧ 0 ≤ n ∧ n ≤ 2147483647 - i.time then ⟨i.time + n, i.site⟩ else noId
def lastI (r : Rn) : Idt := if r.count < 1 then noId else afterI r.id (r.count - 1)
def cmpI (a b : Int) : Int := if a < b then -1 else if b < a then 1 else 0
def cmpId (a b : Idt) : Int := if cmpI a.time b.time ≠ 0 then cmpI a.time b.time else cmpI a.site b.site
def ltId (a b : Idt) : Prop := a.time < b.time ∨ a.time = b.time ∧ a.site < b.site
instance (a b : Idt) : Decidable (ltId a b) := by unfold ltId; infer_instance
theorem cmpId_le (a b : Idt) : cmpId a b ≤ 0 ↔ ¬ ltId b a := by
  unfold cmpId cmpI ltId
  split <;> rename_i h <;> (repeat' split) <;> (try simp_all) <;> omega
/-- May a run be one? -/
def okRn (r : Rn) : Bool := decide (1 ≤ r.count) && okId r.id && decide (r.count - 1 ≤ 2147483647 - r.id.time)
theorem lastI_eq (r : Rn) : lastI r = if okRn r = true then ⟨r.id.time + (r.count - 1), r.id.site⟩ else noId := by
  unfold lastI afterI okRn
  simp only [Bool.and_eq_true, decide_eq_true_eq]
  split
  · rw [if_neg (by omega)]
  · by_cases h : okId r.id = true
    · by_cases h2 : r.count - 1 ≤ 2147483647 - r.id.time
      · rw [if_pos ⟨h, by omega, h2⟩, if_pos ⟨⟨by omega, h⟩, h2⟩]
      · rw [if_neg (by omega), if_neg (by omega)]
    · rw [if_neg fun e => h e.1, if_neg fun e => h e.1.2]
theorem lastI_no (r : Rn) : lastI r = noId ↔ okRn r = false := by
  rw [lastI_eq]
  cases h : okRn r with
  | false => simp
  | true =>
    rw [if_pos rfl]
    unfold okRn at h
    simp only [Bool.and_eq_true, okId_iff] at h
    constructor
    · intro e
      injection e with _ e2
      have : r.id.site = 0 := e2
      omega
    · intro e; cases e
/-- Does a run not rise above the last of these? -/
def notUp (p : List Rn) (r : Rn) : Bool := match p.getLast? with | none => false | some q => !decide (ltId q.id r.id)
/-- Does one of these reach up to a run of its site? -/
def meets (p : List Rn) (r : Rn) : Bool := p.any fun q => decide (q.id.site = r.id.site ∧ r.id.time ≤ q.id.time + q.count)
theorem meets_iff (p : List Rn) (r : Rn) : meets p r = true ↔ ∃ q ∈ p, q.id.site = r.id.site ∧ r.id.time ≤ q.id.time + q.count := by simp [meets]
/-- What a run is told behind others: 0: it may follow. -/
def stepR (p : List Rn) (r : Rn) : Int := if okRn r = false then 1 else if notUp p r = true then 9 else if meets p r = true then 6 else 0
/-- What runs are told, behind others that may be. -/
def chkR : List Rn → List Rn → Int
  | _, [] => 0
  | p, r :: t => if stepR p r = 0 then chkR (p ++ [r]) t else stepR p r
theorem chkR_step (l : List Rn) {k : Nat} (h : k < l.length) : chkR (l.take k) (l.drop k) = if stepR (l.take k) l[k] = 0 then chkR (l.take (k + 1)) (l.drop (k + 1)) else stepR (l.take k) l[k] := by
  rw [List.drop_eq_getElem_cons h, chkR, List.take_succ_eq_append_getElem h]
theorem chkR_end (l : List Rn) : chkR (l.take l.length) (l.drop l.length) = 0 := by rw [List.drop_length]; rfl
theorem getLast_take (l : List Rn) {k : Nat} (h : k + 1 < l.length) : (l.take (k + 1)).getLast? = some (l[k]'(by omega)) := by
  rw [List.take_succ_eq_append_getElem (by omega)]
  exact List.getLast?_concat
theorem notUp_zero (l : List Rn) (r : Rn) : notUp (l.take 0) r = false := rfl
theorem notUp_succ (l : List Rn) {k : Nat} (h : k + 1 < l.length) (r : Rn) : notUp (l.take (k + 1)) r = !decide (ltId (l[k]'(by omega)).id r.id) := by
  unfold notUp
  rw [getLast_take l h]

section
variable {H : Type} {D : DataW H}
open Go.Maps
/-- The map of ends tells of each site the greatest time so far. -/
def EndsAt (D : DataW H) (p : List Rn) : Prop := IsMap D ∧ ∀ s : Int,
  (has D (.int .i64 s) = true ↔ ∃ q ∈ p, q.id.site = s) ∧
  ((∃ q ∈ p, q.id.site = s) → ∃ m : Int, (0 ≤ m ∧ m ≤ 2147483647) ∧ (∀ zd, D.atKey (.int .i64 s) zd = .lit (.int .i64 m)) ∧ (∀ q ∈ p, q.id.site = s → q.id.time + q.count - 1 ≤ m) ∧ ∃ q ∈ p, q.id.site = s ∧ q.id.time + q.count - 1 = m)
theorem EndsAt.nil : EndsAt (H := H) (.map []) [] := ⟨⟨[], rfl⟩, fun s => ⟨by simp [has], by simp⟩⟩
theorem EndsAt.test {p : List Rn} (h : EndsAt D p) (r : Rn) {c : Int} {zd : DataW H} (hc : D.atKey (.int .i64 r.id.site) zd = .lit (.int .i64 c)) : meets p r = (has D (.int .i64 r.id.site) && decide (r.id.time ≤ c + 1)) := by
  obtain ⟨h1, h2⟩ := h.2 r.id.site
  rw [Bool.eq_iff_iff, meets_iff, Bool.and_eq_true, decide_eq_true_eq, h1]
  constructor
  · rintro ⟨q, hq, e, ht⟩
    obtain ⟨m, _, hm, hb, _⟩ := h2 ⟨q, hq, e⟩
    rw [hm zd] at hc
    injection hc with hc
    injection hc with _ hc
    have := hb q hq e
    exact ⟨⟨q, hq, e⟩, by omega⟩
  · rintro ⟨he, ht⟩
    obtain ⟨m, _, hm, _, q, hq, e, hqm⟩ := h2 he
    rw [hm zd] at hc
    injection hc with hc
    injection hc with _ hc
    exact ⟨q, hq, e, by omega⟩
theorem EndsAt.bound {p : List Rn} (h : EndsAt D p) (s : Int) {c : Int} (hc : D.atKey (.int .i64 s) (.lit (.int .i64 0)) = .lit (.int .i64 c)) (hh : has D (.int .i64 s) = true) : 0 ≤ c ∧ c ≤ 2147483647 := by
  obtain ⟨h1, h2⟩ := h.2 s
  obtain ⟨m, hb, hm, _⟩ := h2 (h1.1 hh)
  rw [hm] at hc
  injection hc with hc
  injection hc with _ hc
  rw [← hc]
  exact hb
theorem EndsAt.put {p : List Rn} (h : EndsAt D p) {r : Rn} (hr : okRn r = true) (hm : meets p r = false) : EndsAt (D.put (.int .i64 r.id.site) (.lit (.int .i64 (r.id.time + (r.count - 1))))) (p ++ [r]) := by
  have hn : ∀ q ∈ p, q.id.site = r.id.site → q.id.time + q.count < r.id.time := fun q hq e => by
    rcases Int.lt_or_le (q.id.time + q.count) r.id.time with h1 | h1
    · exact h1
    · have := (meets_iff p r).2 ⟨q, hq, e, h1⟩
      rw [hm] at this
      cases this
  have hc : 1 ≤ r.count := by
    unfold okRn at hr
    simp only [Bool.and_eq_true, decide_eq_true_eq] at hr
    exact hr.1.1
  have hrb : 0 ≤ r.id.time + (r.count - 1) ∧ r.id.time + (r.count - 1) ≤ 2147483647 := by
    unfold okRn at hr
    simp only [Bool.and_eq_true, decide_eq_true_eq, okId_iff] at hr
    omega
  refine ⟨IsMap.put h.1 _ _, fun s => ?_⟩
  by_cases hs : s = r.id.site
  · subst hs
    refine ⟨⟨fun _ => ⟨r, by simp, rfl⟩, fun _ => has_put_same h.1 (show WideAt.IsKeyLit (.int .i64 r.id.site) from trivial) _⟩, fun _ => ⟨r.id.time + (r.count - 1), hrb, fun zd => atKey_put_same h.1 (show WideAt.IsKeyLit (.int .i64 r.id.site) from trivial) _ zd, fun q hq e => ?_, r, by simp, rfl, by omega⟩⟩
    rcases List.mem_append.1 hq with hq | hq
    · have := hn q hq e; omega
    · obtain rfl : q = r := by simpa using hq
      omega
  · have hne : (Lit.int .i64 s) ≠ (Lit.int .i64 r.id.site) := fun e => hs (by injection e)
    obtain ⟨h1, h2⟩ := h.2 s
    have hmem : ∀ q, q ∈ p ++ [r] → q.id.site = s → q ∈ p := fun q hq e => by
      rcases List.mem_append.1 hq with hq | hq
      · exact hq
      · obtain rfl : q = r := by simpa using hq
        exact absurd e.symm hs
    have hex : (∃ q ∈ p ++ [r], q.id.site = s) ↔ ∃ q ∈ p, q.id.site = s := ⟨fun ⟨q, hq, e⟩ => ⟨q, hmem q hq e, e⟩, fun ⟨q, hq, e⟩ => ⟨q, List.mem_append_left _ hq, e⟩⟩
    rw [has_put_other hne, hex]
    refine ⟨h1, fun he => ?_⟩
    obtain ⟨m, hmb, hm1, hm2, q, hq, e, hqm⟩ := h2 he
    exact ⟨m, hmb, fun zd => by rw [atKey_put_other hne]; exact hm1 zd, fun q hq e => hm2 q (hmem q hq e) e, q, List.mem_append_left _ hq, e, hqm⟩
end
end Go.Proofs.YtnajbkccaclkcaaGreat

namespace Go.Proofs.YtnajbkccaclkcaaGreat
open Go

/-- A byte of a text; 0 behind its end. -/
def byt (s : ByteArray) (k : Nat) : Nat := (s.get! k).toNat
theorem byt_lt (s : ByteArray) (k : Nat) : byt s k < 256 := (s.get! k).toNat_lt
theorem byt_end {s : ByteArray} {k : Nat} (h : s.size ≤ k) : byt s k = 0 := by
  obtain ⟨bs⟩ := s
  have h1 : bs.size ≤ k := h
  have h' : ¬ k < bs.size := by omega
  show ((bs[k]! : UInt8)).toNat = 0
  rw [getElem!_neg bs k h']
  rfl
theorem byt_get {s : ByteArray} {k : Nat} (h : k < s.size) : (s[k]'h).toNat = byt s k := by
  have := get_at s k h
  rw [Nat.add_zero] at this
  rw [byt, this]

/-- The rune that four bytes begin with, as the model says. -/
def dec4 (a b c d : Nat) : Nat × Nat :=
  if a < 128 then (a, 1)
  else if (a / 32 = 6 ∧ b / 64 = 2) ∧ 128 ≤ a % 32 * 64 + b % 64 then (a % 32 * 64 + b % 64, 2)
  else if (a / 16 = 14 ∧ b / 64 = 2 ∧ c / 64 = 2) ∧ 2048 ≤ a % 16 * 4096 + b % 64 * 64 + c % 64 ∧ (a % 16 * 4096 + b % 64 * 64 + c % 64 < 55296 ∨ 57344 ≤ a % 16 * 4096 + b % 64 * 64 + c % 64 ∧ a % 16 * 4096 + b % 64 * 64 + c % 64 ≤ 1114111) then (a % 16 * 4096 + b % 64 * 64 + c % 64, 3)
  else if (a / 8 = 30 ∧ b / 64 = 2 ∧ c / 64 = 2 ∧ d / 64 = 2) ∧ 65536 ≤ a % 8 * 262144 + b % 64 * 4096 + c % 64 * 64 + d % 64 ∧ (a % 8 * 262144 + b % 64 * 4096 + c % 64 * 64 + d % 64 < 55296 ∨ 57344 ≤ a % 8 * 262144 + b % 64 * 4096 + c % 64 * 64 + d % 64 ∧ a % 8 * 262144 + b % 64 * 4096 + c % 64 * 64 + d % 64 ≤ 1114111) then (a % 8 * 262144 + b % 64 * 4096 + c % 64 * 64 + d % 64, 4)
  else (65533, 1)
/-- Does a byte go on a rune? -/
def goesOn (b : Nat) : Bool := decide (128 ≤ b ∧ b ≤ 191)
/-- How many bytes the rune has that four bytes begin with, as the document says; 0: none begins. -/
def beg4 (a b c d : Nat) : Nat :=
  if a ≤ 127 then 1
  else if (194 ≤ a ∧ a ≤ 223) ∧ goesOn b then 2
  else if (a = 224 ∧ 160 ≤ b ∨ 225 ≤ a ∧ a ≤ 236 ∨ a = 237 ∧ b ≤ 159 ∨ 238 ≤ a ∧ a ≤ 239) ∧ goesOn b ∧ goesOn c then 3
  else if (a = 240 ∧ 144 ≤ b ∨ 241 ≤ a ∧ a ≤ 243 ∨ a = 244 ∧ b ≤ 143) ∧ goesOn b ∧ goesOn c ∧ goesOn d then 4
  else 0
theorem goesOn_iff (b : Nat) : goesOn b = true ↔ 128 ≤ b ∧ b ≤ 191 := by simp [goesOn]
theorem two_iff (a b : Nat) (ha : a < 256) (hb : b < 256) : ((a / 32 = 6 ∧ b / 64 = 2) ∧ 128 ≤ a % 32 * 64 + b % 64) ↔ (194 ≤ a ∧ a ≤ 223) ∧ 128 ≤ b ∧ b ≤ 191 := by omega
theorem three_iff (a b c : Nat) (ha : a < 256) (hb : b < 256) (hc : c < 256) : ((a / 16 = 14 ∧ b / 64 = 2 ∧ c / 64 = 2) ∧ 2048 ≤ a % 16 * 4096 + b % 64 * 64 + c % 64 ∧ (a % 16 * 4096 + b % 64 * 64 + c % 64 < 55296 ∨ 57344 ≤ a % 16 * 4096 + b % 64 * 64 + c % 64 ∧ a % 16 * 4096 + b % 64 * 64 + c % 64 ≤ 1114111)) ↔
    (a = 224 ∧ 160 ≤ b ∨ 225 ≤ a ∧ a ≤ 236 ∨ a = 237 ∧ b ≤ 159 ∨ 238 ≤ a ∧ a ≤ 239) ∧ (128 ≤ b ∧ b ≤ 191) ∧ 128 ≤ c ∧ c ≤ 191 := by omega
theorem four_iff (a b c d : Nat) (ha : a < 256) (hb : b < 256) (hc : c < 256) (hd : d < 256) : ((a / 8 = 30 ∧ b / 64 = 2 ∧ c / 64 = 2 ∧ d / 64 = 2) ∧ 65536 ≤ a % 8 * 262144 + b % 64 * 4096 + c % 64 * 64 + d % 64 ∧ (a % 8 * 262144 + b % 64 * 4096 + c % 64 * 64 + d % 64 < 55296 ∨ 57344 ≤ a % 8 * 262144 + b % 64 * 4096 + c % 64 * 64 + d % 64 ∧ a % 8 * 262144 + b % 64 * 4096 + c % 64 * 64 + d % 64 ≤ 1114111)) ↔
    (a = 240 ∧ 144 ≤ b ∨ 241 ≤ a ∧ a ≤ 243 ∨ a = 244 ∧ b ≤ 143) ∧ (128 ≤ b ∧ b ≤ 191) ∧ (128 ≤ c ∧ c ≤ 191) ∧ 128 ≤ d ∧ d ≤ 191 := by omega
theorem beg_dec (a b c d : Nat) (ha : a < 256) (hb : b < 256) (hc : c < 256) (hd : d < 256) : (dec4 a b c d = (65533, 1) ∧ beg4 a b c d = 0) ∨ (dec4 a b c d ≠ (65533, 1) ∧ beg4 a b c d = (dec4 a b c d).2) := by
  unfold dec4 beg4
  simp only [goesOn_iff, ← two_iff a b ha hb, ← three_iff a b c ha hb hc, ← four_iff a b c d ha hb hc hd]
  by_cases h0 : a < 128
  · right
    simp only [if_pos h0, if_pos (show a ≤ 127 by omega)]
    exact ⟨fun e => by injection e; omega, trivial⟩
  simp only [if_neg h0, if_neg (show ¬ a ≤ 127 by omega)]
  by_cases h1 : (a / 32 = 6 ∧ b / 64 = 2) ∧ 128 ≤ a % 32 * 64 + b % 64
  · right
    simp only [if_pos h1]
    exact ⟨fun e => by simp at e, trivial⟩
  simp only [if_neg h1]
  by_cases h2 : (a / 16 = 14 ∧ b / 64 = 2 ∧ c / 64 = 2) ∧ 2048 ≤ a % 16 * 4096 + b % 64 * 64 + c % 64 ∧ (a % 16 * 4096 + b % 64 * 64 + c % 64 < 55296 ∨ 57344 ≤ a % 16 * 4096 + b % 64 * 64 + c % 64 ∧ a % 16 * 4096 + b % 64 * 64 + c % 64 ≤ 1114111)
  · right
    simp only [if_pos h2]
    exact ⟨fun e => by simp at e, trivial⟩
  simp only [if_neg h2]
  by_cases h3 : (a / 8 = 30 ∧ b / 64 = 2 ∧ c / 64 = 2 ∧ d / 64 = 2) ∧ 65536 ≤ a % 8 * 262144 + b % 64 * 4096 + c % 64 * 64 + d % 64 ∧ (a % 8 * 262144 + b % 64 * 4096 + c % 64 * 64 + d % 64 < 55296 ∨ 57344 ≤ a % 8 * 262144 + b % 64 * 4096 + c % 64 * 64 + d % 64 ∧ a % 8 * 262144 + b % 64 * 4096 + c % 64 * 64 + d % 64 ≤ 1114111)
  · right
    simp only [if_pos h3]
    exact ⟨fun e => by simp at e, trivial⟩
  · left
    simp only [if_neg h3]
    exact ⟨trivial, trivial⟩

/-- The rune at a place, as the model cuts. -/
def dec (s : ByteArray) (i : Nat) : Nat × Nat := Utf8.decode s i
theorem valid_iff (v : Nat) : Utf8.valid (v : Int) = true ↔ v < 55296 ∨ 57344 ≤ v ∧ v ≤ 1114111 := by
  unfold Utf8.valid
  simp only [Bool.or_eq_true, Bool.and_eq_true, decide_eq_true_eq]
  omega
/-- The same, its tests nested as the model's. -/
def decM (a b c d : Nat) : Nat × Nat :=
  if a < 128 then (a, 1)
  else if a / 32 = 6 ∧ b / 64 = 2 then (if 128 ≤ a % 32 * 64 + b % 64 then (a % 32 * 64 + b % 64, 2) else (65533, 1))
  else if a / 16 = 14 ∧ b / 64 = 2 ∧ c / 64 = 2 then (if 2048 ≤ a % 16 * 4096 + b % 64 * 64 + c % 64 ∧ (a % 16 * 4096 + b % 64 * 64 + c % 64 < 55296 ∨ 57344 ≤ a % 16 * 4096 + b % 64 * 64 + c % 64 ∧ a % 16 * 4096 + b % 64 * 64 + c % 64 ≤ 1114111) then (a % 16 * 4096 + b % 64 * 64 + c % 64, 3) else (65533, 1))
  else if a / 8 = 30 ∧ b / 64 = 2 ∧ c / 64 = 2 ∧ d / 64 = 2 then (if 65536 ≤ a % 8 * 262144 + b % 64 * 4096 + c % 64 * 64 + d % 64 ∧ (a % 8 * 262144 + b % 64 * 4096 + c % 64 * 64 + d % 64 < 55296 ∨ 57344 ≤ a % 8 * 262144 + b % 64 * 4096 + c % 64 * 64 + d % 64 ∧ a % 8 * 262144 + b % 64 * 4096 + c % 64 * 64 + d % 64 ≤ 1114111) then (a % 8 * 262144 + b % 64 * 4096 + c % 64 * 64 + d % 64, 4) else (65533, 1))
  else (65533, 1)
theorem nest {α : Type} {p1 q1 p2 q2 p3 q3 : Prop} [Decidable p1] [Decidable q1] [Decidable p2] [Decidable q2] [Decidable p3] [Decidable q3] (h12 : p1 → ¬ p2) (h13 : p1 → ¬ p3) (h23 : p2 → ¬ p3) (x1 x2 x3 z : α) :
    (if p1 then (if q1 then x1 else z) else if p2 then (if q2 then x2 else z) else if p3 then (if q3 then x3 else z) else z) = (if p1 ∧ q1 then x1 else if p2 ∧ q2 then x2 else if p3 ∧ q3 then x3 else z) := by
  by_cases a1 : p1 <;> by_cases a2 : p2 <;> by_cases a3 : p3 <;> by_cases b1 : q1 <;> by_cases b2 : q2 <;> by_cases b3 : q3 <;> simp_all
theorem decM_eq (a b c d : Nat) : decM a b c d = dec4 a b c d := by
  unfold decM dec4
  rw [nest (by omega) (by omega) (by omega)]
theorem dec_eq (s : ByteArray) (i : Nat) : dec s i = dec4 (byt s i) (byt s (i + 1)) (byt s (i + 2)) (byt s (i + 3)) := by
  have h : ∀ k, (i + k < s.size ∧ (s.get! (i + k)).toNat / 64 = 2) ↔ byt s (i + k) / 64 = 2 := fun k => by
    by_cases hk : i + k < s.size
    · simp [hk, byt]
    · have e := byt_end (s := s) (k := i + k) (by omega)
      rw [e]
      simp [hk]
  rw [← decM_eq]
  unfold dec Utf8.decode decM
  simp only [Bool.and_eq_true, decide_eq_true_eq, beq_iff_eq, h, Utf8.runeError, ge_iff_le, valid_iff]
  simp only [and_assoc]
  rfl
/-- Does no rune begin at a place? -/
def bad (s : ByteArray) (i : Nat) : Bool := decide (dec s i = (65533, 1))
def begN (s : ByteArray) (i : Nat) : Nat := beg4 (byt s i) (byt s (i + 1)) (byt s (i + 2)) (byt s (i + 3))
theorem beg_bad (s : ByteArray) (i : Nat) : begN s i = if bad s i then 0 else (dec s i).2 := by
  have h := beg_dec _ _ _ _ (byt_lt s i) (byt_lt s (i + 1)) (byt_lt s (i + 2)) (byt_lt s (i + 3))
  unfold begN bad
  rw [dec_eq]
  rcases h with ⟨h1, h2⟩ | ⟨h1, h2⟩
  · rw [if_pos (by simpa using h1), h2]
  · rw [if_neg (by simpa using h1), h2]
theorem dec_pos (s : ByteArray) (i : Nat) : 1 ≤ (dec s i).2 ∧ (dec s i).2 ≤ 4 := by
  rw [dec_eq]
  unfold dec4
  repeat' split
  all_goals exact ⟨by simp, by simp⟩
theorem dec_fits {s : ByteArray} {i : Nat} (h : i < s.size) : i + (dec s i).2 ≤ s.size := by
  have hz : ∀ k, byt s k / 64 = 2 → k < s.size := fun k hk => by
    rcases Nat.lt_or_ge k s.size with h | h
    · exact h
    · rw [byt_end h] at hk; omega
  rw [dec_eq]
  unfold dec4
  split
  · exact h
  split
  · rename_i h1; have := hz _ h1.1.2; exact this
  split
  · rename_i h1; have := hz _ h1.1.2.2; exact this
  split
  · rename_i h1; have := hz _ h1.1.2.2.2; exact this
  · exact h

/-- The pieces of a text: where each begins, how many bytes it has, whether it is a rune. -/
def pcs (s : ByteArray) : Nat → Nat → List (Nat × Nat × Bool)
  | 0, _ => []
  | f + 1, i => if i < s.size then (i, (dec s i).2, !bad s i) :: pcs s f (i + (dec s i).2) else []
theorem pcs_end {s : ByteArray} {i : Nat} (f : Nat) (h : s.size ≤ i) : pcs s f i = [] := by
  cases f with
  | zero => rfl
  | succ f => rw [pcs, if_neg (by omega)]
theorem pcs_more {s : ByteArray} : ∀ (f i : Nat), s.size ≤ i + f → pcs s (f + 1) i = pcs s f i
  | 0, i, h => by rw [pcs_end _ (by omega), pcs_end _ (by omega)]
  | f + 1, i, h => by
    rw [pcs]
    conv => rhs; rw [pcs]
    split
    · rw [pcs_more f _ (by have := dec_pos s i; omega)]
    · rfl
def cuts (s : ByteArray) : List (Nat × Nat × Bool) := pcs s s.size 0
def cnt (s : ByteArray) : Nat := (cuts s).length
def firstBad : List (Nat × Nat × Bool) → Int
  | [] => -1
  | (i, _, ok) :: l => if ok then firstBad l else i
def badAt (s : ByteArray) : Int := firstBad (cuts s)
theorem pcs_len (s : ByteArray) : ∀ f i, (pcs s f i).length ≤ f
  | 0, _ => Nat.le_refl _
  | f + 1, i => by
    rw [pcs]
    split
    · have := pcs_len s f (i + (dec s i).2)
      simp only [List.length_cons]
      omega
    · simp
theorem cnt_le (s : ByteArray) : cnt s ≤ s.size := pcs_len s _ _
/-- One step of a walk through them. -/
theorem pcs_step {s : ByteArray} {i f : Nat} (h : i < s.size) (hf : s.size ≤ i + f) : pcs s f i = (i, (dec s i).2, !bad s i) :: pcs s f (i + (dec s i).2) := by
  obtain ⟨f, rfl⟩ : ∃ k, f = k + 1 := ⟨f - 1, by omega⟩
  rw [pcs, if_pos h, pcs_more f _ (by have := dec_pos s i; omega)]
end Go.Proofs.YtnajbkccaclkcaaGreat
