/- The plain law of vectors: what a list of Dots says, by sites, and the vector of it; no program in sight. · Dots in a slice, rows in a block; whole blocks loaded and stored: laws in the form of Box. No condition beyond the block's own. · The walks of vector.of and of the reference's Says: what a list of Dots says. Conditions: the Dots lie in memory as DotsAt says. -/
import Derived.Test.YtnajbkccaclkcaaGreatRows
import Derived.Test.YtnajbkccaclkcaaGreatIM0
import Derived.Laws.Tables
import Derived.Laws.Rows
import Derived.Deep.RegionLaw
import Derived.Deep.RegionHeld3
import Derived.Deep.CutBlock
import Derived.Deep.AppendLies
import Derived.Maps.AppendAt
import Derived.Lib.SmallJoins
namespace Go.Proofs.YtnajbkccaclkcaaGreat

structure Dt where
  site : Int
  seq : Int
deriving DecidableEq

def siteB (n : Int) : Bool := decide (1 ≤ n ∧ n ≤ 16)
def okDot (d : Dt) : Bool := decide (1 ≤ d.site ∧ d.site ≤ 16 ∧ 1 ≤ d.seq ∧ d.seq ≤ 2147483647)
def row0 : List Int := List.replicate 17 0
/-- the i-th of a row -/
def rg (r : List Int) (i : Nat) : Int := r[i]?.getD 0
def lay (r : List Int) (d : Dt) : List Int := if okDot d then r.set d.site.toNat (max (rg r d.site.toNat) d.seq) else r
def saysTo (l : List Dt) (k : Nat) : List Int := (l.take k).foldl lay row0
def says (l : List Dt) : List Int := l.foldl lay row0

/-- A row: of each of 17 places a number; none of the first. -/
structure Row (r : List Int) : Prop where
  len : r.length = 17
  zero : rg r 0 = 0
  bd : ∀ i, 0 ≤ rg r i ∧ rg r i ≤ 2147483647

theorem rg_set (r : List Int) (i j : Nat) (x : Int) (h : i < r.length) : rg (r.set i x) j = if j = i then x else rg r j := by
  unfold rg
  rw [List.getElem?_set]
  by_cases hij : i = j
  · subst hij; simp [h]
  · rw [if_neg hij, if_neg (fun e => hij e.symm)]

theorem Row.row0 : Row row0 := ⟨rfl, rfl, fun i => by
  unfold rg Go.Proofs.YtnajbkccaclkcaaGreat.row0
  rw [List.getElem?_replicate]
  split <;> simp⟩
theorem Row.set {r : List Int} (h : Row r) (i : Nat) (hi : 1 ≤ i) (hi' : i ≤ 16) (x : Int) (hx : 0 ≤ x) (hx' : x ≤ 2147483647) : Row (r.set i x) := by
  have hl := h.len
  refine ⟨by simp [hl], ?_, fun j => ?_⟩
  · rw [rg_set _ _ _ _ (by omega), if_neg (by omega)]; exact h.zero
  · rw [rg_set _ _ _ _ (by omega)]
    split
    · exact ⟨hx, hx'⟩
    · exact h.bd j
theorem Row.lay {r : List Int} (h : Row r) (d : Dt) : Row (lay r d) := by
  unfold Go.Proofs.YtnajbkccaclkcaaGreat.lay
  split
  · rename_i hd
    have hd' : 1 ≤ d.site ∧ d.site ≤ 16 ∧ 1 ≤ d.seq ∧ d.seq ≤ 2147483647 := by simpa [okDot] using hd
    have hb := h.bd d.site.toNat
    exact h.set _ (by omega) (by omega) _ (by omega) (by omega)
  · exact h
theorem Row.fold {r : List Int} (h : Row r) (l : List Dt) : Row (l.foldl Go.Proofs.YtnajbkccaclkcaaGreat.lay r) := by
  induction l generalizing r with
  | nil => exact h
  | cons d l ih => exact ih (h.lay d)
theorem Row.says (l : List Dt) : Row (says l) := Row.row0.fold l
theorem Row.saysTo (l : List Dt) (k : Nat) : Row (saysTo l k) := Row.row0.fold _
theorem saysTo_zero (l : List Dt) : saysTo l 0 = row0 := rfl
theorem saysTo_all (l : List Dt) : saysTo l l.length = says l := by unfold saysTo says; rw [List.take_length]
theorem saysTo_succ (l : List Dt) (k : Nat) (h : k < l.length) : saysTo l (k + 1) = lay (saysTo l k) l[k] := by
  unfold saysTo
  rw [List.take_succ_eq_append_getElem h, List.foldl_append]
  rfl

/-- The vector of a row: its first k places. -/
def vecTo (r : List Int) : Nat → List Dt
  | 0 => []
  | k + 1 => if 0 < rg r k then vecTo r k ++ [⟨k, rg r k⟩] else vecTo r k
def vec (r : List Int) : List Dt := vecTo r 17
theorem vecTo_len (r : List Int) (k : Nat) : (vecTo r k).length ≤ k := by
  induction k with
  | zero => simp [vecTo]
  | succ k ih =>
    unfold vecTo
    split
    · simp; omega
    · omega

def getV (l : List Dt) (site : Int) : Int := if siteB site then rg (says l) site.toNat else 0
def hasV (l : List Dt) (d : Dt) : Bool := decide (1 ≤ d.seq ∧ d.seq ≤ getV l d.site)
/-- place by place -/
def zipR (f : Int → Int → Int) (r s : List Int) (k : Nat) : List Int := (List.range 17).map fun i => if i < k then f (rg r i) (rg s i) else rg r i
def coversR (r s : List Int) : Bool := (List.range 17).all fun i => decide (rg s i ≤ rg r i)
def sumR (r : List Int) : Nat → Int
  | 0 => 0
  | k + 1 => sumR r k + rg r k
def addE (l : List Dt) (d : Dt) : Int :=
  if siteB d.site = false ∨ d.seq < 1 then 1 else if 2147483647 < d.seq then 17 else if d.seq ≠ getV l d.site + 1 then 9 else 0
def addV (l : List Dt) (d : Dt) : List Dt := if addE l d = 0 then vec ((says l).set d.site.toNat d.seq) else []
def maxR (r s : List Int) : List Int := zipR max r s 17
def minR (r s : List Int) : List Int := zipR min r s 17

/-- why a list is no vector: from place k on, the last site being so -/
def checkFrom (last : Int) : List Dt → Int
  | [] => 0
  | d :: l => if siteB d.site = false then 1 else if d.seq < 1 ∨ 2147483647 < d.seq then 6 else if d.site ≤ last then 9 else checkFrom d.site l
def checkV (l : List Dt) : Int := checkFrom 0 l

theorem zipR_len (f : Int → Int → Int) (r s : List Int) (k : Nat) : (zipR f r s k).length = 17 := by simp [zipR]
theorem zipR_rg (f : Int → Int → Int) (r s : List Int) (k i : Nat) (hi : i < 17) : rg (zipR f r s k) i = if i < k then f (rg r i) (rg s i) else rg r i := by
  unfold zipR rg
  rw [List.getElem?_map, List.getElem?_range hi]
  rfl
theorem row_ext {r s : List Int} (hr : r.length = 17) (hs : s.length = 17) (h : ∀ i, i < 17 → rg r i = rg s i) : r = s := by
  apply List.ext_getElem (by omega)
  intro i h1 h2
  have := h i (by omega)
  unfold rg at this
  rw [List.getElem?_eq_getElem h1, List.getElem?_eq_getElem h2] at this
  simpa using this
theorem zipR_zero (f : Int → Int → Int) {r : List Int} (s : List Int) (hr : r.length = 17) : zipR f r s 0 = r :=
  row_ext (zipR_len ..) hr fun i hi => by rw [zipR_rg _ _ _ _ _ hi, if_neg (by omega)]
theorem zipR_succ (f : Int → Int → Int) (r s : List Int) (k : Nat) (hk : k < 17) : zipR f r s (k + 1) = (zipR f r s k).set k (f (rg r k) (rg s k)) :=
  row_ext (zipR_len ..) (by simp [zipR]) fun i hi => by
    rw [rg_set _ _ _ _ (by simp [zipR]; omega), zipR_rg _ _ _ _ _ hi, zipR_rg _ _ _ _ _ hi]
    by_cases h1 : i = k
    · subst h1; simp
    · rw [if_neg h1]
      by_cases h2 : i < k
      · rw [if_pos h2, if_pos (by omega)]
      · rw [if_neg h2, if_neg (by omega)]
theorem Row.maxR {r s : List Int} (hr : Row r) (hs : Row s) : Row (maxR r s) := by
  refine ⟨zipR_len .., ?_, fun i => ?_⟩
  · unfold Go.Proofs.YtnajbkccaclkcaaGreat.maxR
    rw [zipR_rg _ _ _ _ _ (by omega), if_pos (by omega), hr.zero, hs.zero]; rfl
  · unfold Go.Proofs.YtnajbkccaclkcaaGreat.maxR
    by_cases hi : i < 17
    · rw [zipR_rg _ _ _ _ _ hi, if_pos hi]
      have := hr.bd i; have := hs.bd i
      omega
    · unfold rg
      rw [List.getElem?_eq_none (by rw [zipR_len]; omega)]
      simp
theorem Row.minR {r s : List Int} (hr : Row r) (hs : Row s) : Row (minR r s) := by
  refine ⟨zipR_len .., ?_, fun i => ?_⟩
  · unfold Go.Proofs.YtnajbkccaclkcaaGreat.minR
    rw [zipR_rg _ _ _ _ _ (by omega), if_pos (by omega), hr.zero, hs.zero]; rfl
  · unfold Go.Proofs.YtnajbkccaclkcaaGreat.minR
    by_cases hi : i < 17
    · rw [zipR_rg _ _ _ _ _ hi, if_pos hi]
      have := hr.bd i; have := hs.bd i
      omega
    · unfold rg
      rw [List.getElem?_eq_none (by rw [zipR_len]; omega)]
      simp
theorem sumR_le {r : List Int} (h : Row r) (k : Nat) : 0 ≤ sumR r k ∧ sumR r k ≤ 2147483647 * k := by
  induction k with
  | zero => simp [sumR]
  | succ k ih => have := h.bd k; unfold sumR; omega
theorem covers_max {r s : List Int} (hr : r.length = 17) : coversR r s = decide (maxR r s = r) := by
  unfold coversR maxR
  rw [Bool.eq_iff_iff, List.all_eq_true, decide_eq_true_iff]
  constructor
  · intro h
    refine row_ext (zipR_len ..) hr fun i hi => ?_
    have := h i (List.mem_range.2 hi)
    rw [zipR_rg _ _ _ _ _ hi, if_pos hi]
    simp at this
    omega
  · intro h i hi
    have hi' := List.mem_range.1 hi
    have := zipR_rg max r s 17 i hi'
    rw [h, if_pos hi'] at this
    simp
    omega
end Go.Proofs.YtnajbkccaclkcaaGreat

namespace Go.Proofs.YtnajbkccaclkcaaGreat
open Go.RowKit

def rowV (r : List Int) : Array Value := (r.map (Value.int .i64)).toArray
theorem rowV_size (r : List Int) : (rowV r).size = r.length := by simp [rowV]
theorem rowV_get (r : List Int) (i : Nat) (hi : i < r.length) : (rowV r)[i]? = some (.int .i64 (rg r i)) := by
  unfold rowV rg
  simp [hi]
theorem rowV_set (r : List Int) (i : Nat) (x : Int) : (rowV r).setIfInBounds i (.int .i64 x) = rowV (r.set i x) := by
  unfold rowV
  simp [List.map_set]
theorem rowV_one (r : List Int) : (rowV r).all (·.oneCell') = true := by
  unfold rowV
  simp [Value.oneCell']

/-- the cells of Dots, one behind the other -/
def dots (l : List Dt) : List Value := l.flatMap fun d => [.int .i64 d.site, .int .i64 d.seq]
theorem dots_len (l : List Dt) : (dots l).length = l.length * 2 := by
  induction l with
  | nil => rfl
  | cons d l ih => simp only [dots, List.flatMap_cons, List.length_append, List.length_cons, List.length_nil] at ih ⊢; omega
theorem dots_app (l : List Dt) (d : Dt) : dots (l ++ [d]) = dots l ++ [.int .i64 d.site, .int .i64 d.seq] := by simp [dots]
theorem dots_get (l : List Dt) (k : Nat) (hk : k < l.length) : (dots l)[k * 2]? = some (.int .i64 l[k].site) ∧ (dots l)[k * 2 + 1]? = some (.int .i64 l[k].seq) := by
  induction l generalizing k with
  | nil => simp at hk
  | cons d l ih =>
    cases k with
    | zero => simp [dots]
    | succ k =>
      have := ih k (by simpa using hk)
      have e1 : (k + 1) * 2 = k * 2 + 2 := by omega
      rw [e1]
      simpa [dots] using this
theorem dots_one (l : List Dt) : ∀ u ∈ dots l, u.oneCell' = true := by
  intro u hu
  simp only [dots, List.mem_flatMap] at hu
  obtain ⟨d, _, hd⟩ := hu
  simp at hd
  rcases hd with rfl | rfl <;> rfl

def DotsAt (w : World) (A : Option Addr) (l : List Dt) : Prop := ∀ k (h : k < l.length), ∃ ad, A = some ad ∧
  w.cell? (ad.add (k * 2)) = some (.int .i64 l[k].site) ∧ w.cell? ⟨(ad.add (k * 2)).block, (ad.add (k * 2)).off + 1, none⟩ = some (.int .i64 l[k].seq)

section
variable {w w' : World} {A : Option Addr} {l : List Dt} {S : Nat → Prop}
theorem DotsAt.drewN (h : DotsAt w A l) (n : Nat) : DotsAt (w.drewN n) A l := h
theorem DotsAt.kept (h : DotsAt w A l) (hk : Kept S w w') (hA : ∀ a, A = some a → ¬ S a.block) : DotsAt w' A l := fun k hlt => by
  obtain ⟨ad, he, h0, h1⟩ := h k hlt
  have hb : (ad.add (k * 2)).block = ad.block := by unfold Addr.add; split <;> rfl
  have go : ∀ a v, a.block = ad.block → w.cell? a = some v → w'.cell? a = some v := fun a v ha hv => by
    rw [World.cell?_of_block (w := w) (hk.block _ (World.block_lt_of_cell? w _ hv) (by rw [ha]; exact hA ad he))]
    exact hv
  exact ⟨ad, he, go _ _ hb h0, go _ _ hb h1⟩
theorem DotsAt.fresh (h : DotsAt w A l) (hk : Kept (fun _ => False) w w') : DotsAt w' A l := h.kept hk fun _ _ => id
theorem DotsAt.nil : DotsAt w A [] := fun k h => absurd h (by simp)
theorem DotsAt.of_own {base : Nat} {e : TypeId} {n c : Nat} (h : w.ownsRow base e 2 (.slice A n c) n (dots l)) : DotsAt w A l := fun k hlt => by
  have hz := h.1
  rw [dots_len] at hz
  rcases h.2 with ⟨_, h0⟩ | ⟨g, cap, cur, hv, _⟩
  · omega
  · injection hv with hA
    subst hA
    obtain ⟨g0, g1⟩ := dots_get l k hlt
    refine ⟨_, rfl, h.cells (g := g) rfl _ _ g0, ?_⟩
    have := h.cells (g := g) rfl _ _ g1
    rw [add_none] at this ⊢
    exact this
/-- A new list of Dots. -/
def FreshDots (w : World) (l : List Dt) (e : Ending) (w' : World) : Prop :=
  ∃ A c, e = .returned (.slice A l.length c) ∧ w'.ownsRow w.heap.size 59 2 (.slice A l.length c) l.length (dots l) ∧ Kept (fun _ => False) w w'
theorem FreshDots.at {e : Ending} (h : FreshDots w l e w') : ∃ A c, e = .returned (.slice A l.length c) ∧ DotsAt w' A l ∧ Kept (fun _ => False) w w' := by
  obtain ⟨A, c, he, ho, hk⟩ := h
  exact ⟨A, c, he, DotsAt.of_own ho, hk⟩
theorem FreshDots.mk' {e : Ending} {v : Value} (he : e = .returned v) (ho : w'.ownsRow w.heap.size 59 2 v l.length (dots l)) (hk : Kept (fun _ => False) w w') : FreshDots w l e w' := by
  rcases Go.Joins.ownsRow_forms ho with ⟨rfl, h0⟩ | ⟨g, cap, rfl⟩
  · rw [h0] at ho
    exact ⟨none, 0, by rw [he, h0], by rw [h0]; exact ho, hk⟩
  · exact ⟨_, _, he, ho, hk⟩
end

section
variable {P : Program} {w : World}
theorem wpList_load_box {ops : Array Oper} {rest : List Oper} {o : Oper} {a : Act} {Q : Exit → Act → World → Prop} (hgd : o.guard = none) (ty : TypeId) (x : Operand) (ho : o.op = .load ty x)
    (g : Nat) (hx : a.eval x = .pointer (some ⟨g, 0, none⟩)) (t : TypeId) (cs : Array Value) (d : TypeDesc) (hg : Box w g t cs)
    (hu : P.underlying ty = some d) (hd : (match d with | .struct _ | .array _ _ => true | _ => false) = true) (hi : (P.info? ty).map (·.size) = some cs.size)
    (h : wpList P ops Q rest (a.put o.dst (.agg cs)) w) : wpList P ops Q (o :: rest) a w :=
  wpList_load_row hgd ty x ho g hx t cs (0, 0) d hg hu hd hi h
theorem setRow_kept (w : World) (g : Nat) (cs : Array Value) : Kept (fun k => k = g) w (w.setRow g cs) :=
  ⟨rfl, rfl, rfl, by simp [World.setRow], fun k _ hk => setRow_other w g k cs hk⟩
theorem wpList_store_box {ops : Array Oper} {rest : List Oper} {o : Oper} {a : Act} {Q : Exit → Act → World → Prop} (hgd : o.guard = none) (ty : TypeId) (x y : Operand) (ho : o.op = .store ty x y)
    (g : Nat) (cells : Array Value) (hx : a.eval x = .pointer (some ⟨g, 0, none⟩)) (hy : a.eval y = .agg cells)
    (t : TypeId) (old : Array Value) (hg : Box w g t old) (hi : (P.info? ty).map (·.size) = some cells.size)
    (hold : old.size = cells.size) (h1 : cells.all (·.oneCell') = true)
    (h : ∀ w', Hid (Box w' g t cells) → Kept (fun k => k = g) w w' → wpList P ops Q rest (a.put o.dst undef) w') : wpList P ops Q (o :: rest) a w :=
  wpList_store_row hgd ty x y ho g cells hx hy t old hg hi hold h1 (h _ (show Box _ _ _ _ from setRow_heap w g old cells t (0, 0) hg) (setRow_kept _ _ _))
end

theorem size_row : (Tryz.prog.info? 130).map (·.size) = some 17 := by kernel_rfl
theorem size_Row : (Tryz.prog.info? 117).map (·.size) = some 17 := by kernel_rfl
theorem info_dot : (Tryz.prog.info? 59).map (fun i => (i.zero, i.size, i.bytes)) = some (some (.agg #[.int .i64 0, .int .i64 0]), 2, 16) := by kernel_rfl
theorem size_of_row {r : List Int} (h : Row r) : some 17 = some (rowV r).size := by rw [rowV_size, h.len]

set_option maxRecDepth 100000 in
theorem isSite_is (n : Int) (b : Bool) (w : World) (hb : siteB n = b) : Calls Tryz.prog 78 #[.int .i64 n] w fun e w' => e = .returned (.bool b) ∧ w = w' := by
  cases b with
  | true =>
    have h : 1 ≤ n ∧ n ≤ 16 := by simpa [siteB] using hb
    obtain ⟨h1, h2⟩ := h
    clear hb
    go_enter Tryz.func78, Tryz.ntmps78
    go_wp2
    go_ret
    exact ⟨rfl, rfl⟩
  | false =>
    have h : n < 1 ∨ (1 ≤ n ∧ 16 < n) := by simp [siteB] at hb; omega
    clear hb
    rcases h with h | ⟨h, h2⟩
    all_goals
      go_enter Tryz.func78, Tryz.ntmps78
      go_wp2
      go_ret
      exact ⟨by first | rfl | exact ret_bool (decide_eq_false (by omega)), rfl⟩
end Go.Proofs.YtnajbkccaclkcaaGreat

namespace Go.Proofs.YtnajbkccaclkcaaGreat
open Go.RowKit

/-- What of answers: the row; new blocks alone. -/
def RowPost (w : World) (r : List Int) (e : Ending) (w' : World) : Prop := e = .returned (.agg (rowV r)) ∧ Kept (fun _ => False) w w'

/-- one Dot laid into a row in memory -/
theorem lay_yes (r : List Int) (d : Dt) (h : okDot d = true) (m : Int) (hm : m = max (rg r d.site.toNat) d.seq) : lay r d = r.set d.site.toNat m := by rw [lay, if_pos h, hm]
theorem lay_no (r : List Int) (d : Dt) (h : okDot d = false) : lay r d = r := by rw [lay, h]; rfl
theorem lay_same {r : List Int} (hr : Row r) (d : Dt) (h : okDot d = true) (hm : d.seq ≤ rg r d.site.toNat) : lay r d = r := by
  have hd : 1 ≤ d.site ∧ d.site ≤ 16 ∧ 1 ≤ d.seq ∧ d.seq ≤ 2147483647 := by simpa [okDot] using h
  have hl := hr.len
  rw [lay, if_pos h]
  refine row_ext (by simp [hl]) hl fun i hi => ?_
  rw [rg_set _ _ _ _ (by omega)]
  split
  · rename_i e; subst e; omega
  · rfl

theorem Box.at_eq {w : World} {g g' : Nat} {t : TypeId} {cs : Array Value} (h : Box w g t cs) (e : g = g') : Box w g' t cs := e ▸ h
/-- The two blocks that of makes first. -/
def OfAt (w : World) (T : TypeId) (r : List Int) (wr : World) : Prop := Box wr w.heap.size T (rowV row0) ∧ Box wr (w.heap.size + 1) T (rowV r) ∧ Kept (fun _ => False) w wr
theorem OfAt.start (w : World) (T : TypeId) : OfAt w T row0 ((w.alloc (.cells #[.int .i64 0, .int .i64 0, .int .i64 0, .int .i64 0, .int .i64 0, .int .i64 0, .int .i64 0, .int .i64 0, .int .i64 0, .int .i64 0, .int .i64 0, .int .i64 0, .int .i64 0, .int .i64 0, .int .i64 0, .int .i64 0, .int .i64 0] T)).alloc (.cells #[.int .i64 0, .int .i64 0, .int .i64 0, .int .i64 0, .int .i64 0, .int .i64 0, .int .i64 0, .int .i64 0, .int .i64 0, .int .i64 0, .int .i64 0, .int .i64 0, .int .i64 0, .int .i64 0, .int .i64 0, .int .i64 0, .int .i64 0] T)) := by
  refine ⟨(Box.new w T (rowV row0)).alloc _, ?_, ((Kept.refl _ _).alloc _).alloc _⟩
  exact (Box.new (w.alloc (.cells (rowV row0) T)) T (rowV row0)).at_eq (by simp)
theorem OfAt.more {w wr w1 : World} {T : TypeId} {r : List Int} (h : OfAt w T r wr) (hk : Kept (fun _ => False) wr w1) : OfAt w T r w1 := ⟨h.1.kept hk fun h => h, h.2.1.kept hk fun h => h, h.2.2.trans hk fun _ _ e => e⟩
theorem OfAt.set {w wr : World} {T : TypeId} {r : List Int} (h : OfAt w T r wr) (i : Nat) (m : Int) : OfAt w T (r.set i m) (wr.setCell ⟨w.heap.size + 1, i, none⟩ (.int .i64 m)) := by
  refine ⟨h.1.far (p := ⟨w.heap.size + 1, i, none⟩) (by show w.heap.size ≠ w.heap.size + 1; omega) _, ?_, h.2.2.at i _ (.inr (by omega))⟩
  have := h.2.1.set i (.int .i64 m)
  rwa [rowV_set] at this

set_option maxRecDepth 100000 in
set_option maxHeartbeats 1600000 in
theorem of_any (A : Option Addr) (l : List Dt) (c : Nat) (w : World) (hl : DotsAt w A l) (hlen : l.length ≤ 4611686018427387904) :
    Calls Tryz.prog 75 #[.slice A l.length c] w (RowPost w (says l)) := by
  have HA := Lib.hid (OfAt.start w 130)
  have HL := Lib.hid hl
  clear hl
  go_enter Tryz.func75, Tryz.ntmps75
  go_wp2_with (fail)
  generalize (w.alloc (.cells #[.int .i64 0, .int .i64 0, .int .i64 0, .int .i64 0, .int .i64 0, .int .i64 0, .int .i64 0, .int .i64 0, .int .i64 0, .int .i64 0, .int .i64 0, .int .i64 0, .int .i64 0, .int .i64 0, .int .i64 0, .int .i64 0, .int .i64 0] 130)).alloc (.cells #[.int .i64 0, .int .i64 0, .int .i64 0, .int .i64 0, .int .i64 0, .int .i64 0, .int .i64 0, .int .i64 0, .int .i64 0, .int .i64 0, .int .i64 0, .int .i64 0, .int .i64 0, .int .i64 0, .int .i64 0, .int .i64 0, .int .i64 0] 130) = W0 at HA ⊢
  go_loopw [8] (fun i wr => ∃ k : Nat, i = .int .i64 k ∧ k ≤ l.length ∧ OfAt w 130 (saysTo l k) wr) (fun i _ => l.length - (intOf i).toNat)
  case atStart => exact ⟨0, rfl, Nat.zero_le _, HA.out⟩
  case round =>
    obtain ⟨k, rfl, hk, hat⟩ := hrel
    have HO := Lib.hid hat
    by_cases hlt : k < l.length
    · obtain ⟨ad, rfl, x0, x1⟩ := HL.out.fresh hat.2.2 k hlt
      have hrow := Row.saysTo l k
      have HS := Lib.hid (saysTo_succ l k hlt)
      generalize hd : l[k] = d at x0 x1 HS
      clear hd
      have hb := hat.2.1
      have HB := Lib.hid hb
      have hkX : Kept (fun _ => False) wr (wr.alloc (.cells #[.int .i64 d.site, .int .i64 d.seq] 59)) := (Kept.refl _ _).alloc _
      have HX := Lib.hid (Box.new wr 59 #[.int .i64 d.site, .int .i64 d.seq])
      have HKX := Lib.hid hkX
      clear hat hb hkX
      obtain ⟨site, seq⟩ := d
      simp only at x0 x1 HX HKX
      cases hok : okDot ⟨site, seq⟩ with
      | true =>
        have hd : 1 ≤ site ∧ site ≤ 16 ∧ 1 ≤ seq ∧ seq ≤ 2147483647 := by simpa [okDot] using hok
        obtain ⟨h1, h2, h3, h4⟩ := hd
        obtain ⟨st, rfl⟩ : ∃ st : Nat, site = st := ⟨site.toNat, by omega⟩
        obtain ⟨q0, hq0⟩ : ∃ q, rg (saysTo l k) st = q := ⟨_, rfl⟩
        have HY := Lib.hid (show ∀ m, m = max q0 seq → lay (saysTo l k) ⟨st, seq⟩ = (saysTo l k).set st m from fun m hm => by rw [← hq0] at hm; exact lay_yes _ _ hok m hm)
        have HYS := Lib.hid (show seq ≤ q0 → lay (saysTo l k) ⟨st, seq⟩ = saysTo l k from fun hm => by rw [← hq0] at hm; exact lay_same hrow _ hok hm)
        have hqb := hrow.bd st
        rw [hq0] at hqb
        obtain ⟨hq1, hq2⟩ := hqb
        have hcell : ∀ w1, Kept (fun _ => False) wr w1 → w1.cell? ⟨w.heap.size + 1, st, none⟩ = some (.int .i64 q0) ∧ w1.frozen? ⟨w.heap.size + 1, st, none⟩ = false := fun w1 hk1 =>
          ⟨by rw [(HB.out.kept hk1 fun h => h).cell st, rowV_get _ _ (by rw [hrow.len]; omega), hq0], (HB.out.kept hk1 fun h => h).frozen st⟩
        have hsite : siteB (st : Int) = true := by simp [siteB]; omega
        have HSI := Lib.hid hsite
        have HC := Lib.hid hcell
        clear hok hrow hcell hq0 hsite
        have em : ∃ m, (if q0 < seq then seq else q0) = m ∧ m = max q0 seq := ⟨_, rfl, by split <;> omega⟩
        obtain ⟨m, em, hm⟩ := em
        have HM := Lib.hid hm
        clear hm
        go_wp2_with (fail)
        generalize wr.alloc (.cells #[.int .i64 (st : Int), .int .i64 seq] 59) = W at HX HKX ⊢
        have y0 : W.cell? ⟨wr.heap.size, 0, none⟩ = some (.int .i64 (st : Int)) := by simpa using HX.out.cell 0
        have y1 : W.cell? ⟨wr.heap.size, 1, none⟩ = some (.int .i64 seq) := by simpa using HX.out.cell 1
        obtain ⟨c0, f0⟩ := HC.out W HKX.out
        clear x0 x1
        refine (isSite_is _ true _ HSI.out).mono ?_
        rintro e w1 ⟨rfl, rfl⟩
        go_wp2_with (fail)
        go_region
        all_goals
          go_wp2
          go_roundw
          case rel => exact ⟨k + 1, by go_num, by omega, by rw [HS.out, HY.out m HM.out]; exact ((HO.out.more HKX.out).more (Kept.drewN_eq 1)).set st m⟩
          case measure => simp [intOf]; omega
      | false =>
        have HF := Lib.hid (lay_no (saysTo l k) ⟨site, seq⟩ hok)
        clear hrow
        go_wp2_with (fail)
        generalize wr.alloc (.cells #[.int .i64 site, .int .i64 seq] 59) = W at HX HKX ⊢
        have y0 : W.cell? ⟨wr.heap.size, 0, none⟩ = some (.int .i64 site) := by simpa using HX.out.cell 0
        have y1 : W.cell? ⟨wr.heap.size, 1, none⟩ = some (.int .i64 seq) := by simpa using HX.out.cell 1
        clear x0 x1
        cases hsi : siteB site with
        | false =>
          refine (isSite_is _ false _ hsi).mono ?_
          rintro e w1 ⟨rfl, rfl⟩
          clear hok hsi
          go_wp2
          go_roundw
          case rel => exact ⟨k + 1, by go_num, by omega, by rw [HS.out, HF.out]; exact HO.out.more HKX.out⟩
          case measure => simp [intOf]; omega
        | true =>
          have hq : seq < 1 ∨ (1 ≤ seq ∧ 2147483647 < seq) := by simp [siteB] at hsi; simp [okDot] at hok; omega
          refine (isSite_is _ true _ hsi).mono ?_
          rintro e w1 ⟨rfl, rfl⟩
          clear hok hsi
          rcases hq with hq | ⟨hq, hq'⟩
          all_goals
            go_wp2
            go_roundw
            case rel => exact ⟨k + 1, by go_num, by omega, by rw [HS.out, HF.out]; exact HO.out.more HKX.out⟩
            case measure => simp [intOf]; omega
    · obtain rfl : k = l.length := by omega
      have hb0 := hat.1
      have hb1 := hat.2.1
      rw [saysTo_all] at hb1
      have HK := Lib.hid hat.2.2
      have HR := Lib.hid (Row.says l)
      have hsz : w.heap.size ≤ w.heap.size := Nat.le_refl _
      clear hat
      go_wp2_with (first
        | (refine wpList_load_box rfl 130 (.tmp 3) rfl (w.heap.size + 1) rfl 130 (rowV (says l)) _ hb1 Tryz.underlying130 rfl (size_row.trans (size_of_row HR.out)) ?_)
        | (refine wpList_store_box rfl 130 (.tmp 2) (.tmp 36) rfl w.heap.size (rowV (says l)) rfl rfl 130 (rowV row0) hb0 (size_row.trans (size_of_row HR.out)) (by rw [rowV_size, rowV_size, HR.out.len]; rfl) (rowV_one _) ?_; intro w2 HB2 hk2))
      exact bodyPost_ret (results_cell_row rfl _ _ w.heap.size 130 (rowV (says l)) (0, 0) _ rfl HB2.out Tryz.underlying130 rfl (size_row.trans (size_of_row HR.out))) rfl ⟨rfl, HK.out.trans hk2 fun j hj e => by omega⟩

set_option maxRecDepth 100000 in
set_option maxHeartbeats 1600000 in
theorem Says_any (A : Option Addr) (l : List Dt) (c : Nat) (w : World) (hl : DotsAt w A l) (hlen : l.length ≤ 4611686018427387904) :
    Calls Tryz.prog 65 #[.slice A l.length c] w (RowPost w (says l)) := by
  have HA := Lib.hid (OfAt.start w 117)
  have HL := Lib.hid hl
  clear hl
  go_enter Tryz.func65, Tryz.ntmps65
  go_wp2_with (fail)
  generalize (w.alloc (.cells #[.int .i64 0, .int .i64 0, .int .i64 0, .int .i64 0, .int .i64 0, .int .i64 0, .int .i64 0, .int .i64 0, .int .i64 0, .int .i64 0, .int .i64 0, .int .i64 0, .int .i64 0, .int .i64 0, .int .i64 0, .int .i64 0, .int .i64 0] 117)).alloc (.cells #[.int .i64 0, .int .i64 0, .int .i64 0, .int .i64 0, .int .i64 0, .int .i64 0, .int .i64 0, .int .i64 0, .int .i64 0, .int .i64 0, .int .i64 0, .int .i64 0, .int .i64 0, .int .i64 0, .int .i64 0, .int .i64 0, .int .i64 0] 117) = W0 at HA ⊢
  go_loopw [4] (fun i wr => ∃ k : Nat, i = .int .i64 k ∧ k ≤ l.length ∧ OfAt w 117 (saysTo l k) wr) (fun i _ => l.length - (intOf i).toNat)
  case atStart => exact ⟨0, rfl, Nat.zero_le _, HA.out⟩
  case round =>
    obtain ⟨k, rfl, hk, hat⟩ := hrel
    have HO := Lib.hid hat
    by_cases hlt : k < l.length
    · obtain ⟨ad, rfl, x0, x1⟩ := HL.out.fresh hat.2.2 k hlt
      have hrow := Row.saysTo l k
      have HS := Lib.hid (saysTo_succ l k hlt)
      generalize hd : l[k] = d at x0 x1 HS
      clear hd
      have hb := hat.2.1
      have HB := Lib.hid hb
      have hkX : Kept (fun _ => False) wr (wr.alloc (.cells #[.int .i64 d.site, .int .i64 d.seq] 59)) := (Kept.refl _ _).alloc _
      have HX := Lib.hid (Box.new wr 59 #[.int .i64 d.site, .int .i64 d.seq])
      have HKX := Lib.hid hkX
      clear hat hb hkX
      obtain ⟨site, seq⟩ := d
      simp only at x0 x1 HX HKX
      cases hok : okDot ⟨site, seq⟩ with
      | true =>
        have hd : 1 ≤ site ∧ site ≤ 16 ∧ 1 ≤ seq ∧ seq ≤ 2147483647 := by simpa [okDot] using hok
        obtain ⟨h1, h2, h3, h4⟩ := hd
        obtain ⟨st, rfl⟩ : ∃ st : Nat, site = st := ⟨site.toNat, by omega⟩
        obtain ⟨q0, hq0⟩ : ∃ q, rg (saysTo l k) st = q := ⟨_, rfl⟩
        have HY := Lib.hid (show ∀ m, m = max q0 seq → lay (saysTo l k) ⟨st, seq⟩ = (saysTo l k).set st m from fun m hm => by rw [← hq0] at hm; exact lay_yes _ _ hok m hm)
        have HYS := Lib.hid (show seq ≤ q0 → lay (saysTo l k) ⟨st, seq⟩ = saysTo l k from fun hm => by rw [← hq0] at hm; exact lay_same hrow _ hok hm)
        have hqb := hrow.bd st
        rw [hq0] at hqb
        obtain ⟨hq1, hq2⟩ := hqb
        have hcell : ∀ w1, Kept (fun _ => False) wr w1 → w1.cell? ⟨w.heap.size + 1, st, none⟩ = some (.int .i64 q0) ∧ w1.frozen? ⟨w.heap.size + 1, st, none⟩ = false := fun w1 hk1 =>
          ⟨by rw [(HB.out.kept hk1 fun h => h).cell st, rowV_get _ _ (by rw [hrow.len]; omega), hq0], (HB.out.kept hk1 fun h => h).frozen st⟩
        have hsite : siteB (st : Int) = true := by simp [siteB]; omega
        have HSI := Lib.hid hsite
        have HC := Lib.hid hcell
        clear hok hrow hcell hq0 hsite
        go_wp2_with (fail)
        generalize wr.alloc (.cells #[.int .i64 (st : Int), .int .i64 seq] 59) = W at HX HKX ⊢
        have y0 : W.cell? ⟨wr.heap.size, 0, none⟩ = some (.int .i64 (st : Int)) := by simpa using HX.out.cell 0
        have y1 : W.cell? ⟨wr.heap.size, 1, none⟩ = some (.int .i64 seq) := by simpa using HX.out.cell 1
        obtain ⟨c0, f0⟩ := HC.out W HKX.out
        clear x0 x1
        by_cases hlq : q0 < seq
        · go_quiet (fail)
          go_wp2
          go_roundw
          case rel => exact ⟨k + 1, by go_num, by omega, by rw [HS.out, HY.out seq (by omega)]; exact ((HO.out.more HKX.out).more (Kept.drewN_eq nq)).set st seq⟩
          case measure => simp [intOf]; omega
        · have hdq : decide (q0 < seq) = false := decide_eq_false hlq
          go_quiet (fail)
          go_wp2
          go_roundw
          case rel => exact ⟨k + 1, by go_num, by omega, by rw [HS.out, HYS.out (by omega)]; exact (HO.out.more HKX.out).more (Kept.drewN_eq nq)⟩
          case measure => simp [intOf]; omega
      | false =>
        have HF := Lib.hid (lay_no (saysTo l k) ⟨site, seq⟩ hok)
        clear hrow
        have hq : site < 1 ∨ (1 ≤ site ∧ 16 < site) ∨ (1 ≤ site ∧ site ≤ 16 ∧ seq < 1) ∨ (1 ≤ site ∧ site ≤ 16 ∧ 1 ≤ seq ∧ 2147483647 < seq) := by simp [okDot] at hok; omega
        clear hok
        go_wp2_with (fail)
        generalize wr.alloc (.cells #[.int .i64 site, .int .i64 seq] 59) = W at HX HKX ⊢
        have y0 : W.cell? ⟨wr.heap.size, 0, none⟩ = some (.int .i64 site) := by simpa using HX.out.cell 0
        have y1 : W.cell? ⟨wr.heap.size, 1, none⟩ = some (.int .i64 seq) := by simpa using HX.out.cell 1
        clear x0 x1
        rcases hq with h1 | ⟨h1, h2⟩ | ⟨h1, h2, h3⟩ | ⟨h1, h2, h3, h4⟩
        case' inl => have e1 : decide (1 ≤ site) = false := decide_eq_false (by omega)
        case' inr.inl => have e1 : decide (site ≤ 16) = false := decide_eq_false (by omega)
        case' inr.inr.inl => have e1 : decide (1 ≤ seq) = false := decide_eq_false (by omega)
        case' inr.inr.inr => have e1 : decide (seq ≤ 2147483647) = false := decide_eq_false (by omega)
        all_goals
          go_quiet (fail)
          go_wp2
          go_roundw
          case rel => exact ⟨k + 1, by go_num, by omega, by rw [HS.out, HF.out]; exact (HO.out.more HKX.out).more (Kept.drewN_eq nq)⟩
          case measure => simp [intOf]; omega
    · obtain rfl : k = l.length := by omega
      have hb0 := hat.1
      have hb1 := hat.2.1
      rw [saysTo_all] at hb1
      have HK := Lib.hid hat.2.2
      have HR := Lib.hid (Row.says l)
      have hsz : w.heap.size ≤ w.heap.size := Nat.le_refl _
      clear hat
      go_wp2_with (first
        | (refine wpList_load_box rfl 117 (.tmp 3) rfl (w.heap.size + 1) rfl 117 (rowV (says l)) _ hb1 Tryz.underlying117 rfl (size_Row.trans (size_of_row HR.out)) ?_)
        | (refine wpList_store_box rfl 117 (.tmp 2) (.tmp 48) rfl w.heap.size (rowV (says l)) rfl rfl 117 (rowV row0) hb0 (size_Row.trans (size_of_row HR.out)) (by rw [rowV_size, rowV_size, HR.out.len]; rfl) (rowV_one _) ?_; intro w2 HB2 hk2))
      exact bodyPost_ret (results_cell_row rfl _ _ w.heap.size 117 (rowV (says l)) (0, 0) _ rfl HB2.out Tryz.underlying117 rfl (size_Row.trans (size_of_row HR.out))) rfl ⟨rfl, HK.out.trans hk2 fun j hj e => by omega⟩
end Go.Proofs.YtnajbkccaclkcaaGreat
