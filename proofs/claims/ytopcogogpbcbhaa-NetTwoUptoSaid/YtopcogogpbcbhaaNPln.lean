/- What chapter 20's networks do, as data. No condition. -/
import Derived.Test.YtopcogogpbcbhaaBase
import Derived.Test.YtopcogogpbcbhaaSPlain
namespace Go.Proofs.Ytopcogogpbcbhaa
open Go.RowKit

/-- A copy under way, and its frame as it was sent. -/
structure Cp where
  num : Nat
  src : Int
  dst : Int
  sent : Int
  clean : List Int
  data : List Int
  bad : Bool
/-- A network: the last number, the copies, their numbers rising. -/
structure Nt where
  last : Nat
  l : List Cp
structure Nt.Ok (s : Nt) : Prop where
  up : s.l.Pairwise fun a b => a.num < b.num
  le : ∀ c ∈ s.l, c.num ≤ s.last
  by_ : ∀ c ∈ s.l, isByte c.clean ∧ isByte c.data
  len : ∀ c ∈ s.l, c.clean.length ≤ 60000 ∧ c.data.length ≤ 60000
def Cp.is (n : Int) (c : Cp) : Bool := decide ((c.num : Int) = n)
def Nt.get (s : Nt) (n : Int) : Option Cp := s.l.find? (Cp.is n)
def okSend (f t a : Int) : Bool := decide (1 ≤ f ∧ f ≤ 16 ∧ 1 ≤ t ∧ t ≤ 16 ∧ f ≠ t ∧ 0 ≤ a)
def Nt.add (s : Nt) (f t a : Int) (b : List Int) : Nt := ⟨s.last + 1, s.l ++ [⟨s.last + 1, f, t, a, b, b, false⟩]⟩
def Nt.off (s : Nt) (n : Int) : Nt := ⟨s.last, s.l.filter fun c => !c.is n⟩
def Cp.turn (d : List Int) (c : Cp) : Cp := { c with data := d, bad := true }
def Nt.put (s : Nt) (n : Int) (d : List Int) : Nt := ⟨s.last, s.l.map fun c => if c.is n = true then c.turn d else c⟩
/-- What Send answers, and what is there then (room for one more). -/
def Nt.send (s : Nt) (f t a : Int) (b : List Int) : (Int × Int) × Nt := if okSend f t a = true then ((((s.last + 1 : Nat) : Int), 0), s.add f t a b) else ((0, 1), s)
def Nt.double (s : Nt) (n : Int) : (Int × Int) × Nt := match s.get n with
  | none => ((0, 11), s)
  | some c => ((((s.last + 1 : Nat) : Int), 0), s.add c.src c.dst c.sent c.clean)
def zeroCp : Cp := ⟨0, 0, 0, 0, [], [], false⟩
def Nt.deliver (s : Nt) (n : Int) : (Cp × Int) × Nt := match s.get n with
  | none => ((zeroCp, 11), s)
  | some c => ((c, 0), s.off n)
def alterD (d : List Int) (a : Nat) (b : List Int) : List Int := d.take a ++ b ++ d.drop (a + b.length)
def alterOk (d : List Int) (a : Int) (b : List Int) : Bool := decide (1 ≤ b.length ∧ b.length ≤ 4 ∧ 0 ≤ a ∧ a + b.length ≤ d.length) && !decide ((d.drop a.toNat).take b.length = b)
def Nt.alter (s : Nt) (n a : Int) (b : List Int) : Int × Nt := match s.get n with
  | none => (11, s)
  | some c => if alterOk c.data a b = true then (if c.bad = true then (12, s) else (0, s.put n (alterD c.data a.toNat b))) else (1, s)
def cutOk (d : List Int) (k : Int) : Bool := decide (0 ≤ k ∧ k < d.length)
def Nt.cut (s : Nt) (n k : Int) : Int × Nt := match s.get n with
  | none => (11, s)
  | some c => if cutOk c.data k = true then (if c.bad = true then (12, s) else (0, s.put n (c.data.take k.toNat))) else (1, s)
theorem Nt.get_mem {s : Nt} {n : Int} {c : Cp} (h : s.get n = some c) : c ∈ s.l ∧ (c.num : Int) = n := by
  have h1 := List.mem_of_find?_eq_some h
  have h2 := List.find?_some h
  exact ⟨h1, by simpa [Cp.is] using h2⟩
theorem Nt.Ok.zero : Nt.Ok ⟨0, []⟩ := ⟨List.Pairwise.nil, by simp, by simp, by simp⟩
theorem Nt.Ok.add {s : Nt} (h : s.Ok) (f t a : Int) {b : List Int} (hb : isByte b) (hl : b.length ≤ 60000) : (s.add f t a b).Ok := by
  refine ⟨?_, ?_, ?_, ?_⟩
  · refine List.pairwise_append.2 ⟨h.up, List.pairwise_singleton _ _, fun x hx y hy => ?_⟩
    rw [List.mem_singleton] at hy
    subst hy
    have := h.le x hx
    show x.num < s.last + 1
    omega
  all_goals
    intro c hc
    rcases List.mem_append.1 hc with hc | hc
  · have := h.le c hc
    show c.num ≤ s.last + 1
    omega
  · rw [List.mem_singleton] at hc
    subst hc
    exact Nat.le_refl _
  · exact h.by_ c hc
  · rw [List.mem_singleton] at hc
    subst hc
    exact ⟨hb, hb⟩
  · exact h.len c hc
  · rw [List.mem_singleton] at hc
    subst hc
    exact ⟨hl, hl⟩
theorem Nt.Ok.off {s : Nt} (h : s.Ok) (n : Int) : (s.off n).Ok :=
  ⟨h.up.sublist List.filter_sublist, fun c hc => h.le c (List.mem_filter.1 hc).1, fun c hc => h.by_ c (List.mem_filter.1 hc).1, fun c hc => h.len c (List.mem_filter.1 hc).1⟩
theorem Cp.turn_num (d : List Int) (c : Cp) (n : Int) : (if c.is n = true then c.turn d else c).num = c.num := by split <;> rfl
theorem Nt.Ok.put {s : Nt} (h : s.Ok) (n : Int) {d : List Int} (hd : isByte d) (hl : d.length ≤ 60000) : (s.put n d).Ok := by
  refine ⟨?_, ?_, ?_, ?_⟩
  · refine List.pairwise_map.2 (h.up.imp fun {a b} hab => ?_)
    rw [Cp.turn_num, Cp.turn_num]
    exact hab
  all_goals
    intro c hc
    obtain ⟨x, hx, rfl⟩ := List.mem_map.1 hc
  · rw [Cp.turn_num]
    exact h.le x hx
  · split
    · exact ⟨(h.by_ x hx).1, hd⟩
    · exact h.by_ x hx
  · split
    · exact ⟨(h.len x hx).1, hl⟩
    · exact h.len x hx
end Go.Proofs.Ytopcogogpbcbhaa
