/- What the law VectorOwn has in memory: the two lists, the Dot, the Writer; the lists that were answered, each a lane of its own. No condition beyond what the structures say. -/
import Derived.Test.YtlefbnnlcacheaaVLane
import Derived.Test.YtlefbnnlcacheaaVHave
import Derived.Test.YtlefbnnlcacheaaVBack
import Derived.Test.YtlefbnnlcacheaaVTake
import Derived.Great.Walk
namespace Go.Proofs.Ytlefbnnlcacheaa
open Go Go.RowKit

/-- What lies below block N: the two lists, the Dot, the Writer. -/
structure OAt (w : World) (N : Nat) (A B : Option Addr) (l m : List Dt) (gd : Nat) (dq : Int) (g : Nat) (sv : Value) (bs : List Int) (wr : World) : Prop where
  a : DotsAt wr A l
  b : DotsAt wr B m
  d : Box wr gd 25 #[.int .i64 2, .int .i64 dq]
  wtr : WriterAt wr g g sv bs 0
  k : Kept (fun _ => False) w wr
  ge : w.heap.size ≤ N
  le : N ≤ wr.heap.size
  ab : 0 < l.length → ∀ a, A = some a → a.block < N
  bb : 0 < m.length → ∀ a, B = some a → a.block < N
  db : gd < N
  wb : ∀ k, OwnsW g sv k → k < N
/-- The lists that were answered, and the list of them. -/
structure LAt (w : World) (N : Nat) (A B : Option Addr) (l m : List Dt) (gd : Nat) (dq : Int) (g : Nat) (sv : Value) (bs : List Int) (Sv : Value) (vs P : List Lane) (wr : World) : Prop where
  o : OAt w N A B l m gd dq g sv bs wr
  lanes : Lanes wr N P
  s : wr.ownsRow N 23 1 Sv vs.length (vs.map Lane.v)
section
variable {w : World} {N : Nat} {A B : Option Addr} {l m : List Dt} {gd : Nat} {dq : Int} {g : Nat} {sv : Value} {bs : List Int} {Sv Sv' : Value} {vs ws P Q : List Lane} {w1 w2 : World} {S : Nat → Prop} {L : Lane}
theorem keep_dots {A : Option Addr} {l : List Dt} (h : DotsAt w1 A l) (hk : Kept S w1 w2) (hb : 0 < l.length → ∀ a, A = some a → a.block < N) (hS : ∀ k, S k → N ≤ k) : DotsAt w2 A l := by
  rcases Nat.eq_zero_or_pos l.length with h0 | h0
  · obtain rfl := List.eq_nil_of_length_eq_zero h0
    exact DotsAt.nil
  · exact h.kept hk fun a ha hs => by have := hb h0 a ha; have := hS _ hs; omega
theorem OAt.kept (h : OAt w N A B l m gd dq g sv bs w1) (hk : Kept S w1 w2) (hS : ∀ k, S k → N ≤ k) : OAt w N A B l m gd dq g sv bs w2 := by
  refine ⟨keep_dots h.a hk h.ab hS, keep_dots h.b hk h.bb hS, h.d.kept hk fun hs => ?_, h.wtr.kept hk fun k e hs => ?_, h.k.trans hk fun k hlt e => ?_, h.ge, Nat.le_trans h.le hk.size, h.ab, h.bb, h.db, h.wb⟩
  · have := h.db; have := hS _ hs; omega
  · have := h.wb k e; have := hS _ hs; omega
  · have := h.ge; have := hS _ e; omega
theorem OAt.fresh (h : OAt w N A B l m gd dq g sv bs w1) (hk : Kept (fun _ => False) w1 w2) : OAt w N A B l m gd dq g sv bs w2 := h.kept hk fun _ e => e.elim
theorem LAt.fresh (h : LAt w N A B l m gd dq g sv bs Sv vs P w1) (hk : Kept (fun _ => False) w1 w2) : LAt w N A B l m gd dq g sv bs Sv vs P w2 := ⟨h.o.fresh hk, h.lanes.fresh hk, hk.own h.s fun _ _ => id⟩
theorem LAt.more (h : LAt w N A B l m gd dq g sv bs Sv vs P w1) (hk : Kept (fun _ => False) w1 w2) (hL : Owns w2 w1.heap.size L) : LAt w N A B l m gd dq g sv bs Sv vs (P ++ [L]) w2 := ⟨h.o.fresh hk, h.lanes.more hk hL h.o.le, hk.own h.s fun _ _ => id⟩
/-- The list of lists grows. -/
theorem LAt.push (h : LAt w N A B l m gd dq g sv bs Sv vs P w1) (hk : Kept (fun k => Sv.ownBlock = some k) w1 w2) (hs : w2.ownsRow N 23 1 Sv' ws.length (ws.map Lane.v)) (hp : P.Perm Q) : LAt w N A B l m gd dq g sv bs Sv' ws Q w2 :=
  ⟨h.o.kept hk fun k e => (h.s.lt k e).1, (h.lanes.kept hk fun L hL k e e' => own_kinds h.s (h.lanes.own L hL) (by decide) k e' e).perm hp, hs⟩
theorem vecs_one (vs : List Lane) : ∀ u ∈ vs.map Lane.v, u.oneCell' = true := by
  intro u hu
  obtain ⟨L, _, rfl⟩ := List.mem_map.1 hu
  rfl
end

theorem info_vec : (Try.prog.info? 23).map (fun i => (i.zero, i.size, i.bytes)) = some (some (.slice none 0 0), 1, 24) := by kernel_rfl
theorem eltVecs : Elt Try.prog 42 23 1 24 := .of Try.underlying42 info_vec rfl (by decide) (by decide)

theorem built_six (A0 A1 A2 A3 A4 A5 : Option Addr) (n0 n1 n2 n3 n4 n5 c0 c1 c2 c3 c4 c5 : Nat) :
    Try.prog.builtSlice 23 6 [(0, .slice A0 n0 c0), (1, .slice A1 n1 c1), (2, .slice A2 n2 c2), (3, .slice A3 n3 c3), (4, .slice A4 n4 c4), (5, .slice A5 n5 c5)] =
      some #[.slice A0 n0 c0, .slice A1 n1 c1, .slice A2 n2 c2, .slice A3 n3 c3, .slice A4 n4 c4, .slice A5 n5 c5] := by
  obtain ⟨i, z, hi, hz, hsz, hby, hzs⟩ := eltVecs.info
  obtain ⟨i', hi', hz', _⟩ := info_parts info_vec
  obtain rfl : i = i' := by rw [hi] at hi'; injection hi'
  obtain rfl : z = .slice none 0 0 := by rw [hz] at hz'; injection hz'
  unfold Program.builtSlice
  simp only [hi, hz, hsz]
  rw [if_neg (by decide)]
  kernel_rfl
theorem wpList_six {ops : Array Oper} {rest : List Oper} {o : Oper} {a : Act} {w : World} {Q : Exit → Act → World → Prop} (hg : o.guard = none) (x0 x1 x2 x3 x4 x5 : Operand)
    (ho : o.op = .buildSlice 42 6 #[(0, x0), (1, x1), (2, x2), (3, x3), (4, x4), (5, x5)]) {A0 A1 A2 A3 A4 A5 : Option Addr} {n0 n1 n2 n3 n4 n5 c0 c1 c2 c3 c4 c5 : Nat}
    (h0 : a.eval x0 = .slice A0 n0 c0) (h1 : a.eval x1 = .slice A1 n1 c1) (h2 : a.eval x2 = .slice A2 n2 c2) (h3 : a.eval x3 = .slice A3 n3 c3) (h4 : a.eval x4 = .slice A4 n4 c4) (h5 : a.eval x5 = .slice A5 n5 c5)
    (h : wpList Try.prog ops Q rest (a.put o.dst (.slice (some ⟨w.heap.size, 0, none⟩) 6 6)) (w.alloc (.cells #[.slice A0 n0 c0, .slice A1 n1 c1, .slice A2 n2 c2, .slice A3 n3 c3, .slice A4 n4 c4, .slice A5 n5 c5] 23))) :
    wpList Try.prog ops Q (o :: rest) a w := by
  refine Great.wpList_buildSliceTo hg _ 23 6 _ ho _ rfl _ rfl Try.underlying42 _ ?_ h
  have e : (#[(0, x0), (1, x1), (2, x2), (3, x3), (4, x4), (5, x5)].map fun ((i, x) : Nat × Operand) => (i, a.eval x)).toList = [(0, a.eval x0), (1, a.eval x1), (2, a.eval x2), (3, a.eval x3), (4, a.eval x4), (5, a.eval x5)] := by simp
  rw [e, h0, h1, h2, h3, h4, h5]
  exact built_six ..
theorem six_one (A0 A1 A2 A3 A4 A5 : Option Addr) (n0 n1 n2 n3 n4 n5 c0 c1 c2 c3 c4 c5 : Nat) :
    (#[Value.slice A0 n0 c0, .slice A1 n1 c1, .slice A2 n2 c2, .slice A3 n3 c3, .slice A4 n4 c4, .slice A5 n5 c5] : Array Value).toList.all (·.oneCell') = true := rfl
theorem takeLoop_len : ∀ (k : Nat) (last : Int) (acc : List Dt) (s : Rd), (takeLoop k last acc s).2.1.length ≤ acc.length + k
  | 0, _, acc, s => by simp [takeLoop]
  | k + 1, last, acc, s => by
    rw [takeLoop]
    split
    · simp
    · split
      · simp
      · split
        · simp
        · split
          · simp
          · have := takeLoop_len k s.val (acc ++ [⟨s.val, s.nx.val⟩]) s.nx.nx
            simp only [List.length_append, List.length_singleton] at this
            omega
theorem takeV_len (s : Rd) : (takeV s).2.1.length ≤ 16 := by
  unfold takeV
  split
  · simp
  · split
    · simp
    · rename_i h
      have := takeLoop_len s.val 0 [] s.nx
      simp only [List.length_nil] at this
      omega
theorem addV_len (l : List Dt) (d : Dt) : (addV l d).length ≤ 17 := by
  unfold addV
  split
  · exact vecTo_len _ 17
  · simp
theorem vecTo_len17 (r : List Int) : (vec r).length ≤ 17 := vecTo_len r 17
theorem BytesAt.noneN {w : World} {A : Option Addr} {l : List Int} (h : BytesAt w A l) : A = none → l = [] := by
  rintro rfl
  rcases l with _ | ⟨b, l⟩
  · rfl
  · obtain ⟨ad, e, _⟩ := h 0 (by simp)
    cases e
/-- The Dots that are written over a list, and those laid behind. -/
def marks (n s : Nat) : List Dt := (List.range n).map fun k : Nat => ⟨(s : Int), (k : Int)⟩
theorem marks_len (n s : Nat) : (marks n s).length = n := by simp [marks]
theorem marks_get (n s k : Nat) (h : k < (marks n s).length) : (marks n s)[k] = ⟨(s : Int), (k : Int)⟩ := by simp [marks]
theorem marks_succ (n s : Nat) : marks (n + 1) s = marks n s ++ [⟨(s : Int), (n : Int)⟩] := by simp [marks, List.range_succ]
theorem marks_of {l : List Dt} {s : Nat} (h : ∀ k (hk : k < l.length), l[k] = ⟨(s : Int), (k : Int)⟩) : l = marks l.length s := by
  apply List.ext_getElem (by rw [marks_len])
  intro k h1 h2
  rw [h k h1, marks_get]
end Go.Proofs.Ytlefbnnlcacheaa
