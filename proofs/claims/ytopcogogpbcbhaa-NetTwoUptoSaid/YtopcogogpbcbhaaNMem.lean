/- Networks in memory: the program's (a map of pointers) and the reference's (a row). No condition. -/
import Derived.Test.YtopcogogpbcbhaaNPln
import Derived.Test.YtopcogogpbcbhaaNKit
import Derived.Maps.OwnOps
import Derived.Maps.OwnSet
import Derived.Maps.Views
import Derived.Carry
namespace Go.Proofs.Ytopcogogpbcbhaa
open Go Go.RowKit

/-- A copy under way, and where it lies: its block, its frame's, its bytes', its frame's bytes'. -/
structure Ce where
  c : Cp
  q : Nat
  f : Nat
  dA : Option Addr
  dc : Nat
  cA : Option Addr
  cc : Nat
def Ce.dV (x : Ce) : Value := .slice x.dA x.c.data.length x.dc
def Ce.cV (x : Ce) : Value := .slice x.cA x.c.clean.length x.cc
def Ce.qC (x : Ce) : Array Value := #[.pointer (some ⟨x.f, 0, none⟩), .int .i64 x.c.num, x.dV, .bool x.c.bad]
def Ce.fC (x : Ce) : Array Value := #[.int .i64 x.c.src, .int .i64 x.c.dst, .int .i64 x.c.sent, x.cV]
structure CeAt (w : World) (F : Nat → Prop) (x : Ce) : Prop where
  q : Box w x.q 87 x.qC
  f : Box w x.f 84 x.fC
  d : w.ownsRow 0 5 1 x.dV x.c.data.length (bys x.c.data)
  cl : w.ownsRow 0 5 1 x.cV x.c.clean.length (bys x.c.clean)
  Fq : F x.q
  Ff : F x.f
  Fd : ∀ k, x.dV.ownBlock = some k → F k
  Fc : ∀ k, x.cV.ownBlock = some k → F k
/-- How a map's value reads: the block that it points to. -/
def ptrElem : Value → Option (DataW Unit × List MemPlace)
  | .pointer (some ⟨q, 0, none⟩) => some (.lit (.int .i64 q), [])
  | .pointer none => some (.lit (.bool false), [])
  | _ => none
theorem ptrElem_mk (q : Nat) : ptrElem (.pointer (some ⟨q, 0, none⟩)) = some (.lit (.int .i64 q), []) := rfl
theorem ptrElem_inv {v : Value} {q : Nat} {ps : List MemPlace} (h : ptrElem v = some (.lit (.int .i64 q), ps)) : v = .pointer (some ⟨q, 0, none⟩) := by
  unfold ptrElem at h
  split at h
  · injection h with h
    injection h with h _
    injection h with h
    injection h with _ h
    have := Int.ofNat.inj h
    subst this
    rfl
  · injection h with h
    injection h with h _
    injection h with h
    cases h
  · cases h
/-- The map of copies, as data: each number's block. -/
structure MapIs (D : DataW Unit) (es : List Ce) : Prop where
  is : Maps.IsMap D
  has : ∀ n : Int, Maps.has D (.int .i64 n) = es.any fun x => x.c.is n
  at_ : ∀ x ∈ es, ∀ z, D.atKey (.int .i64 (x.c.num : Int)) z = .lit (.int .i64 (x.q : Int))
theorem MapIs.nil : MapIs (.map []) [] := ⟨Maps.isMap_empty, fun _ => rfl, fun x hx => by simp at hx⟩
theorem MapIs.add {D : DataW Unit} {es : List Ce} {x : Ce} (h : MapIs D es) (hnew : ∀ y ∈ es, y.c.num ≠ x.c.num) : MapIs (D.put (.int .i64 (x.c.num : Int)) (.lit (.int .i64 (x.q : Int)))) (es ++ [x]) := by
  refine ⟨h.is.put _ _, fun n => ?_, fun y hy z => ?_⟩
  · by_cases hn : n = (x.c.num : Int)
    · subst hn
      rw [Maps.has_put_same h.is (show WideAt.IsKeyLit (.int .i64 (x.c.num : Int)) from trivial)]
      simp [Cp.is]
    · rw [Maps.has_put_other (fun e => hn (by injection e)), h.has]
      simp [Cp.is, Ne.symm hn]
  · rcases List.mem_append.1 hy with hy | hy
    · rw [Maps.atKey_put_other (fun e => hnew y hy (by injection e with _ e; omega)), h.at_ y hy]
    · obtain rfl : y = x := by simpa using hy
      exact Maps.atKey_put_same h.is (show WideAt.IsKeyLit (.int .i64 (y.c.num : Int)) from trivial) _ z
theorem MapIs.del {D : DataW Unit} {es : List Ce} (h : MapIs D es) (n : Int) : MapIs (D.del (.int .i64 n)) (es.filter fun x => !x.c.is n) := by
  refine ⟨h.is.del _, fun m => ?_, fun y hy z => ?_⟩
  · by_cases hn : m = n
    · subst hn
      rw [Maps.has_del_same]
      rw [eq_comm, List.any_eq_false]
      intro x hx
      have := (List.mem_filter.1 hx).2
      simpa using this
    · rw [Maps.has_del_other (fun e => hn (by injection e)), h.has, List.any_filter]
      congr 1
      funext x
      by_cases hx : x.c.is m = true
      · have : x.c.is n = false := by
          simp only [Cp.is, decide_eq_true_eq, decide_eq_false_iff_not] at hx ⊢
          omega
        rw [this]; simp
      · simp [hx]
  · obtain ⟨h1, h2⟩ := List.mem_filter.1 hy
    rw [Maps.atKey_del_other (fun e => ?_), h.at_ y h1]
    have e' : (y.c.num : Int) = n := by injection e
    simp [Cp.is, e'] at h2
theorem MapIs.same {D : DataW Unit} {es : List Ce} (h : MapIs D es) (f : Ce → Ce) (hf : ∀ x, (f x).c.num = x.c.num ∧ (f x).q = x.q) : MapIs D (es.map f) := by
  refine ⟨h.is, fun n => ?_, fun y hy z => ?_⟩
  · rw [h.has, List.any_map]
    congr 1
    funext x
    simp [Cp.is, (hf x).1]
  · obtain ⟨x, hx, rfl⟩ := List.mem_map.1 hy
    rw [(hf x).1, (hf x).2]
    exact h.at_ x hx z
structure NetAt (w : World) (p : Nat) (F : Nat → Prop) (s : Nt) (es : List Ce) : Prop where
  tie : es.map (·.c) = s.l
  box : ∃ mb, Box w p 38 #[.int .i64 s.last, .map mb] ∧ ((mb = none ∧ es = []) ∨ ∃ b D, mb = some b ∧ F b ∧ w.ownsMap Try.prog 3 ptrElem b s.last D ∧ MapIs D es)
  fp : F p
  ats : ∀ x ∈ es, CeAt w F x
  q : es.Pairwise fun a b => a.q ≠ b.q
  lt : ∀ k, F k → k < w.heap.size
  ok : s.Ok
  last : s.last ≤ 100000
section
variable {w w' : World} {p : Nat} {F : Nat → Prop} {S : Nat → Prop} {s : Nt} {es : List Ce} {x : Ce}
theorem CeAt.kept (h : CeAt w F x) (hk : Kept S w w') (hS : ∀ k, F k → ¬ S k) : CeAt w' F x :=
  ⟨h.q.kept hk (hS _ h.Fq), h.f.kept hk (hS _ h.Ff), hk.own h.d fun k e => hS _ (h.Fd k e), hk.own h.cl fun k e => hS _ (h.Fc k e), h.Fq, h.Ff, h.Fd, h.Fc⟩
theorem ownsMap_kept {P : Program} {k : TypeId} {R : Value → Option (DataW Unit × List MemPlace)} {b n : Nat} {D : DataW Unit} (h : w.ownsMap P k R b n D) (hk : Kept S w w') (hb : ¬ S b) : w'.ownsMap P k R b n D := by
  have hlt := h.lt
  obtain ⟨es, clock, hb', F, hs, hD⟩ := h
  exact ⟨es, clock, (hk.block _ hlt hb).trans hb', F, hs, hD⟩
theorem NetAt.kept (h : NetAt w p F s es) (hk : Kept S w w') (hS : ∀ k, F k → ¬ S k) : NetAt w' p F s es := by
  obtain ⟨mb, hb, hm⟩ := h.box
  refine ⟨h.tie, ⟨mb, hb.kept hk (hS _ h.fp), hm.imp id ?_⟩, h.fp, fun x hx => (h.ats x hx).kept hk hS, h.q, fun k hk' => Nat.lt_of_lt_of_le (h.lt k hk') hk.size, h.ok, h.last⟩
  rintro ⟨b, D, e, fb, ho, hi⟩
  exact ⟨b, D, e, fb, ownsMap_kept ho hk (hS _ fb), hi⟩
theorem NetAt.fresh (h : NetAt w p F s es) (hk : Kept (fun _ => False) w w') : NetAt w' p F s es := h.kept hk fun _ _ => id
end
/-- What an operation on a network leaves: of the old memory only the network's own may have turned. -/
def NetPost (w : World) (p : Nat) (F : Nat → Prop) (s : Nt) (w' : World) : Prop := ∃ F' es, NetAt w' p F' s es ∧ (∀ k, F' k → F k ∨ w.heap.size ≤ k) ∧ Kept F w w'

/-- A row's copy of the reference, and where its bytes lie. -/
structure He where
  c : Cp
  dA : Option Addr
  dc : Nat
  cA : Option Addr
  cc : Nat
def He.dV (x : He) : Value := .slice x.dA x.c.data.length x.dc
def He.cV (x : He) : Value := .slice x.cA x.c.clean.length x.cc
def He.cs (x : He) : Array Value := #[.int .i64 x.c.num, .int .i64 x.c.src, .int .i64 x.c.dst, x.dV, .int .i64 x.c.sent, .bool x.c.bad, x.cV]
theorem He.cs_size (x : He) : x.cs.size = 7 := rfl
theorem He.cs_one (x : He) : x.cs.toList.all (·.oneCell') = true := rfl
def hes (l : List He) : List Value := l.flatMap fun x => x.cs.toList
theorem hes_len (l : List He) : (hes l).length = l.length * 7 := by
  induction l with
  | nil => rfl
  | cons x l ih =>
    have e : hes (x :: l) = x.cs.toList ++ hes l := rfl
    rw [e, List.length_append, ih, Array.length_toList, He.cs_size, List.length_cons]
    omega
theorem hes_app (l m : List He) : hes (l ++ m) = hes l ++ hes m := by simp [hes]
theorem hes_snoc (l : List He) (x : He) : hes (l ++ [x]) = hes l ++ x.cs.toList := by simp [hes]
theorem hes_get (l : List He) (k : Nat) (hk : k < l.length) (j : Nat) (hj : j < 7) : (hes l)[k * 7 + j]? = l[k].cs.toList[j]? := by
  induction l generalizing k with
  | nil => simp at hk
  | cons x l ih =>
    have e : hes (x :: l) = x.cs.toList ++ hes l := rfl
    have hx : x.cs.toList.length = 7 := by rw [Array.length_toList, He.cs_size]
    rw [e]
    cases k with
    | zero => rw [List.getElem?_append_left (by omega)]; simp
    | succ k =>
      rw [List.getElem?_append_right (by omega), hx, show (k + 1) * 7 + j - 7 = k * 7 + j by omega, ih k (by simpa using hk)]
      rfl
theorem hes_one (l : List He) : ∀ u ∈ hes l, u.oneCell' = true := by
  intro u hu
  obtain ⟨x, _, hx⟩ := List.mem_flatMap.1 hu
  exact List.all_eq_true.1 x.cs_one u hx
structure HeAt (w : World) (F : Nat → Prop) (x : He) : Prop where
  d : w.ownsRow 0 5 1 x.dV x.c.data.length (bys x.c.data)
  cl : w.ownsRow 0 5 1 x.cV x.c.clean.length (bys x.c.clean)
  Fd : ∀ k, x.dV.ownBlock = some k → F k
  Fc : ∀ k, x.cV.ownBlock = some k → F k
structure RNetAt (w : World) (p : Nat) (F : Nat → Prop) (s : Nt) (L : Option Addr) (lc : Nat) (hs : List He) : Prop where
  tie : hs.map (·.c) = s.l
  box : Box w p 62 #[.slice L hs.length lc, .int .i64 s.last]
  row : w.ownsRow 0 79 7 (.slice L hs.length lc) hs.length (hes hs)
  fp : F p
  fL : ∀ k, (Value.slice L hs.length lc).ownBlock = some k → F k
  ats : ∀ x ∈ hs, HeAt w F x
  lt : ∀ k, F k → k < w.heap.size
  ok : s.Ok
  last : s.last ≤ 100000
section
variable {w w' : World} {p : Nat} {F : Nat → Prop} {S : Nat → Prop} {s : Nt} {L : Option Addr} {lc : Nat} {hs : List He} {x : He}
theorem HeAt.kept (h : HeAt w F x) (hk : Kept S w w') (hS : ∀ k, F k → ¬ S k) : HeAt w' F x := ⟨hk.own h.d fun k e => hS _ (h.Fd k e), hk.own h.cl fun k e => hS _ (h.Fc k e), h.Fd, h.Fc⟩
theorem RNetAt.kept (h : RNetAt w p F s L lc hs) (hk : Kept S w w') (hS : ∀ k, F k → ¬ S k) : RNetAt w' p F s L lc hs :=
  ⟨h.tie, h.box.kept hk (hS _ h.fp), hk.own h.row fun k e => hS _ (h.fL k e), h.fp, h.fL, fun x hx => (h.ats x hx).kept hk hS, fun k hk' => Nat.lt_of_lt_of_le (h.lt k hk') hk.size, h.ok, h.last⟩
theorem RNetAt.fresh (h : RNetAt w p F s L lc hs) (hk : Kept (fun _ => False) w w') : RNetAt w' p F s L lc hs := h.kept hk fun _ _ => id
end
def RNetPost (w : World) (p : Nat) (F : Nat → Prop) (s : Nt) (w' : World) : Prop := ∃ F' L lc hs, RNetAt w' p F' s L lc hs ∧ (∀ k, F' k → F k ∨ w.heap.size ≤ k) ∧ Kept F w w'
/-- A copy as it is told. -/
def cpC (c : Cp) (A : Option Addr) (cap : Nat) : Array Value := #[.int .i64 c.num, .int .i64 c.src, .int .i64 c.dst, .slice A c.data.length cap, .int .i64 c.sent, .bool c.bad]
end Go.Proofs.Ytopcogogpbcbhaa
