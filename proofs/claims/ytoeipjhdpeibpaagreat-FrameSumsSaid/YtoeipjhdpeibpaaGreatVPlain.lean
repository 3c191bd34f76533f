/- The plain law of vectors: what a list of Dots says, by sites, and the vector of it; no program in sight. -/
namespace Go.Proofs.YtoeipjhdpeibpaaGreat

structure Dt where
  site : Int
  seq : Int
deriving DecidableEq

def siteB (n : Int) : Bool := decide (1 ≤ n ∧ n ≤ 16)
def okDot (d : Dt) : Bool := decide (1 ≤ d.site ∧ d.site ≤ 16 ∧ 1 ≤ d.seq ∧ d.seq ≤ 2147483647)
def row0 : List Int := List.replicate 17 0
/-- the i-th of a row -/
def rg (r : List Int) (i : Nat) : Int := r[i]?.getD 0
def lay (r : List Int) (d : Dt) : List Int := if okDot d then r.set d.site.toNat (max (rg r d.site.toNat) d.seq) else r
def saysTo (l : List Dt) (k : Nat) : List Int := (l.take k).foldl lay row0
def says (l : List Dt) : List Int := l.foldl lay row0

/-- A row: of each of 17 places a number; none of the first. -/
structure Row (r : List Int) : Prop where
  len : r.length = 17
  zero : rg r 0 = 0
  bd : ∀ i, 0 ≤ rg r i ∧ rg r i ≤ 2147483647

theorem rg_set (r : List Int) (i j : Nat) (x : Int) (h : i < r.length) : rg (r.set i x) j = if j = i then x else rg r j := by
  unfold rg
  rw [List.getElem?_set]
  by_cases hij : i = j
  · subst hij; simp [h]
  · rw [if_neg hij, if_neg (fun e => hij e.symm)]

theorem Row.row0 : Row row0 := ⟨rfl, rfl, fun i => by
  unfold rg Go.Proofs.YtoeipjhdpeibpaaGreat.row0
  rw [List.getElem?_replicate]
  split <;> simp⟩
theorem Row.set {r : List Int} (h : Row r) (i : Nat) (hi : 1 ≤ i) (hi' : i ≤ 16) (x : Int) (hx : 0 ≤ x) (hx' : x ≤ 2147483647) : Row (r.set i x) := by
  have hl := h.len
  refine ⟨by simp [hl], ?_, fun j => ?_⟩
  · rw [rg_set _ _ _ _ (by omega), if_neg (by omega)]; exact h.zero
  · rw [rg_set _ _ _ _ (by omega)]
    split
    · exact ⟨hx, hx'⟩
    · exact h.bd j
theorem Row.lay {r : List Int} (h : Row r) (d : Dt) : Row (lay r d) := by
  unfold Go.Proofs.YtoeipjhdpeibpaaGreat.lay
  split
  · rename_i hd
    have hd' : 1 ≤ d.site ∧ d.site ≤ 16 ∧ 1 ≤ d.seq ∧ d.seq ≤ 2147483647 := by simpa [okDot] using hd
    have hb := h.bd d.site.toNat
    exact h.set _ (by omega) (by omega) _ (by omega) (by omega)
  · exact h
theorem Row.fold {r : List Int} (h : Row r) (l : List Dt) : Row (l.foldl Go.Proofs.YtoeipjhdpeibpaaGreat.lay r) := by
  induction l generalizing r with
  | nil => exact h
  | cons d l ih => exact ih (h.lay d)
theorem Row.says (l : List Dt) : Row (says l) := Row.row0.fold l
theorem Row.saysTo (l : List Dt) (k : Nat) : Row (saysTo l k) := Row.row0.fold _
theorem saysTo_zero (l : List Dt) : saysTo l 0 = row0 := rfl
theorem saysTo_all (l : List Dt) : saysTo l l.length = says l := by unfold saysTo says; rw [List.take_length]
theorem saysTo_succ (l : List Dt) (k : Nat) (h : k < l.length) : saysTo l (k + 1) = lay (saysTo l k) l[k] := by
  unfold saysTo
  rw [List.take_succ_eq_append_getElem h, List.foldl_append]
  rfl

/-- The vector of a row: its first k places. -/
def vecTo (r : List Int) : Nat → List Dt
  | 0 => []
  | k + 1 => if 0 < rg r k then vecTo r k ++ [⟨k, rg r k⟩] else vecTo r k
def vec (r : List Int) : List Dt := vecTo r 17
theorem vecTo_len (r : List Int) (k : Nat) : (vecTo r k).length ≤ k := by
  induction k with
  | zero => simp [vecTo]
  | succ k ih =>
    unfold vecTo
    split
    · simp; omega
    · omega

def getV (l : List Dt) (site : Int) : Int := if siteB site then rg (says l) site.toNat else 0
def hasV (l : List Dt) (d : Dt) : Bool := decide (1 ≤ d.seq ∧ d.seq ≤ getV l d.site)
/-- place by place -/
def zipR (f : Int → Int → Int) (r s : List Int) (k : Nat) : List Int := (List.range 17).map fun i => if i < k then f (rg r i) (rg s i) else rg r i
def coversR (r s : List Int) : Bool := (List.range 17).all fun i => decide (rg s i ≤ rg r i)
def sumR (r : List Int) : Nat → Int
  | 0 => 0
  | k + 1 => sumR r k + rg r k
def addE (l : List Dt) (d : Dt) : Int :=
  if siteB d.site = false ∨ d.seq < 1 then 1 else if 2147483647 < d.seq then 17 else if d.seq ≠ getV l d.site + 1 then 9 else 0
def addV (l : List Dt) (d : Dt) : List Dt := if addE l d = 0 then vec ((says l).set d.site.toNat d.seq) else []
def maxR (r s : List Int) : List Int := zipR max r s 17
def minR (r s : List Int) : List Int := zipR min r s 17

/-- why a list is no vector: from place k on, the last site being so -/
def checkFrom (last : Int) : List Dt → Int
  | [] => 0
  | d :: l => if siteB d.site = false then 1 else if d.seq < 1 ∨ 2147483647 < d.seq then 6 else if d.site ≤ last then 9 else checkFrom d.site l
def checkV (l : List Dt) : Int := checkFrom 0 l

theorem zipR_len (f : Int → Int → Int) (r s : List Int) (k : Nat) : (zipR f r s k).length = 17 := by simp [zipR]
theorem zipR_rg (f : Int → Int → Int) (r s : List Int) (k i : Nat) (hi : i < 17) : rg (zipR f r s k) i = if i < k then f (rg r i) (rg s i) else rg r i := by
  unfold zipR rg
  rw [List.getElem?_map, List.getElem?_range hi]
  rfl
theorem row_ext {r s : List Int} (hr : r.length = 17) (hs : s.length = 17) (h : ∀ i, i < 17 → rg r i = rg s i) : r = s := by
  apply List.ext_getElem (by omega)
  intro i h1 h2
  have := h i (by omega)
  unfold rg at this
  rw [List.getElem?_eq_getElem h1, List.getElem?_eq_getElem h2] at this
  simpa using this
theorem zipR_zero (f : Int → Int → Int) {r : List Int} (s : List Int) (hr : r.length = 17) : zipR f r s 0 = r :=
  row_ext (zipR_len ..) hr fun i hi => by rw [zipR_rg _ _ _ _ _ hi, if_neg (by omega)]
theorem zipR_succ (f : Int → Int → Int) (r s : List Int) (k : Nat) (hk : k < 17) : zipR f r s (k + 1) = (zipR f r s k).set k (f (rg r k) (rg s k)) :=
  row_ext (zipR_len ..) (by simp [zipR]) fun i hi => by
    rw [rg_set _ _ _ _ (by simp [zipR]; omega), zipR_rg _ _ _ _ _ hi, zipR_rg _ _ _ _ _ hi]
    by_cases h1 : i = k
    · subst h1; simp
    · rw [if_neg h1]
      by_cases h2 : i < k
      · rw [if_pos h2, if_pos (by omega)]
      · rw [if_neg h2, if_neg (by omega)]
theorem Row.maxR {r s : List Int} (hr : Row r) (hs : Row s) : Row (maxR r s) := by
  refine ⟨zipR_len .., ?_, fun i => ?_⟩
  · unfold Go.Proofs.YtoeipjhdpeibpaaGreat.maxR
    rw [zipR_rg _ _ _ _ _ (by omega), if_pos (by omega), hr.zero, hs.zero]; rfl
  · unfold Go.Proofs.YtoeipjhdpeibpaaGreat.maxR
    by_cases hi : i < 17
    · rw [zipR_rg _ _ _ _ _ hi, if_pos hi]
      have := hr.bd i; have := hs.bd i
      omega
    · unfold rg
      rw [List.getElem?_eq_none (by rw [zipR_len]; omega)]
      simp
theorem Row.minR {r s : List Int} (hr : Row r) (hs : Row s) : Row (minR r s) := by
  refine ⟨zipR_len .., ?_, fun i => ?_⟩
  · unfold Go.Proofs.YtoeipjhdpeibpaaGreat.minR
    rw [zipR_rg _ _ _ _ _ (by omega), if_pos (by omega), hr.zero, hs.zero]; rfl
  · unfold Go.Proofs.YtoeipjhdpeibpaaGreat.minR
    by_cases hi : i < 17
    · rw [zipR_rg _ _ _ _ _ hi, if_pos hi]
      have := hr.bd i; have := hs.bd i
      omega
    · unfold rg
      rw [List.getElem?_eq_none (by rw [zipR_len]; omega)]
      simp
theorem sumR_le {r : List Int} (h : Row r) (k : Nat) : 0 ≤ sumR r k ∧ sumR r k ≤ 2147483647 * k := by
  induction k with
  | zero => simp [sumR]
  | succ k ih => have := h.bd k; unfold sumR; omega
theorem covers_max {r s : List Int} (hr : r.length = 17) : coversR r s = decide (maxR r s = r) := by
  unfold coversR maxR
  rw [Bool.eq_iff_iff, List.all_eq_true, decide_eq_true_iff]
  constructor
  · intro h
    refine row_ext (zipR_len ..) hr fun i hi => ?_
    have := h i (List.mem_range.2 hi)
    rw [zipR_rg _ _ _ _ _ hi, if_pos hi]
    simp at this
    omega
  · intro h i hi
    have hi' := List.mem_range.1 hi
    have := zipR_rg max r s 17 i hi'
    rw [h, if_pos hi'] at this
    simp
    omega
end Go.Proofs.YtoeipjhdpeibpaaGreat
