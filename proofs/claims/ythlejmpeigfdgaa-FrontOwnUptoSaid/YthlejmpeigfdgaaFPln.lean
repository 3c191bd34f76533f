/- What chapter 14's Fronts do, as data. No condition. -/
import Derived.Test.YthlejmpeigfdgaaVRCheck
import Derived.Test.YthlejmpeigfdgaaVPlain
namespace Go.Proofs.Ythlejmpeigfdgaa
open Go.RowKit

/-- A site's row: what it said that it has, and what of that counts. -/
structure Fp where
  site : Int
  a : List Dt
  b : List Dt
def Fp.is (n : Int) (x : Fp) : Bool := decide (x.site = n)
def getF (s : List Fp) (n : Int) : Option Fp := s.find? (Fp.is n)
structure FsOk (s : List Fp) : Prop where
  nodup : s.Pairwise fun x y => x.site ≠ y.site
  site : ∀ x ∈ s, 1 ≤ x.site ∧ x.site ≤ 16
  len : ∀ x ∈ s, x.a.length ≤ 17 ∧ x.b.length ≤ 17
def joinD (l v : List Dt) : List Dt := vec (maxR (says l) (says v))
def putF (s : List Fp) (n : Int) (f : Fp → Fp) : List Fp := s.map fun x => if x.is n = true then f x else x
def hearF (s : List Fp) (n : Int) (v : List Dt) : List Fp := match getF s n with
  | none => s ++ [⟨n, joinD [] v, []⟩]
  | some _ => putF s n fun x => { x with a := joinD x.a v }
def hearE (n : Int) (v : List Dt) : Int := if 1 ≤ n ∧ n ≤ 16 then checkV v else 1
def hear (s : List Fp) (n : Int) (v : List Dt) : List Fp := if hearE n v = 0 then hearF s n v else s
def Fp.settled (own : List Dt) (x : Fp) : Fp := if coversR (says own) (says x.a) = true then { x with b := x.a } else x
def settle (s : List Fp) (own : List Dt) : List Fp := if checkV own = 0 then s.map (Fp.settled own) else s
def rowF (s : List Fp) (n : Int) : List Dt := match getF s n with
  | none => []
  | some x => x.a
def usableF (s : List Fp) (n : Int) : List Dt := match getF s n with
  | none => []
  | some x => x.b
theorem getF_mem {s : List Fp} {n : Int} {x : Fp} (h : getF s n = some x) : x ∈ s ∧ x.site = n := ⟨List.mem_of_find?_eq_some h, by simpa [Fp.is] using List.find?_some h⟩
theorem getF_none {s : List Fp} {n : Int} (h : getF s n = none) : ∀ x ∈ s, x.site ≠ n := fun x hx e => by
  have := List.find?_eq_none.1 h x hx
  simp [Fp.is, e] at this
theorem joinD_len (l v : List Dt) : (joinD l v).length ≤ 17 := vecTo_len _ 17
theorem FsOk.nil : FsOk [] := ⟨List.Pairwise.nil, by simp, by simp⟩
theorem FsOk.map {s : List Fp} (h : FsOk s) {f : Fp → Fp} (hs : ∀ x, (f x).site = x.site) (hl : ∀ x, x.a.length ≤ 17 ∧ x.b.length ≤ 17 → (f x).a.length ≤ 17 ∧ (f x).b.length ≤ 17) : FsOk (s.map f) := by
  refine ⟨List.pairwise_map.2 (h.nodup.imp fun {x y} hxy => by rw [hs, hs]; exact hxy), fun x hx => ?_, fun x hx => ?_⟩
  all_goals obtain ⟨y, hy, rfl⟩ := List.mem_map.1 hx
  · rw [hs]; exact h.site y hy
  · exact hl y (h.len y hy)
theorem FsOk.hearF {s : List Fp} (h : FsOk s) {n : Int} (hn : 1 ≤ n ∧ n ≤ 16) (v : List Dt) : FsOk (hearF s n v) := by
  unfold Go.Proofs.Ythlejmpeigfdgaa.hearF
  cases hg : getF s n with
  | none =>
    refine ⟨List.pairwise_append.2 ⟨h.nodup, List.pairwise_singleton _ _, fun x hx y hy => ?_⟩, fun x hx => ?_, fun x hx => ?_⟩
    · rw [List.mem_singleton] at hy
      subst hy
      exact getF_none hg x hx
    all_goals rcases List.mem_append.1 hx with hx | hx
    · exact h.site x hx
    · rw [List.mem_singleton] at hx; subst hx; exact hn
    · exact h.len x hx
    · rw [List.mem_singleton] at hx; subst hx; exact ⟨joinD_len _ _, by simp⟩
  | some x => exact h.map (fun x => by split <;> rfl) (fun x hx => by split; exact ⟨joinD_len _ _, hx.2⟩; exact hx)
theorem FsOk.hear {s : List Fp} (h : FsOk s) (n : Int) (v : List Dt) : FsOk (hear s n v) := by
  unfold Go.Proofs.Ythlejmpeigfdgaa.hear
  split
  · rename_i he
    unfold hearE at he
    split at he
    · exact h.hearF ‹_› v
    · cases he
  · exact h
theorem Fp.settled_site (own : List Dt) (x : Fp) : (x.settled own).site = x.site := by unfold Fp.settled; split <;> rfl
theorem FsOk.settle {s : List Fp} (h : FsOk s) (own : List Dt) : FsOk (settle s own) := by
  unfold Go.Proofs.Ythlejmpeigfdgaa.settle
  split
  · exact h.map (Fp.settled_site own) (fun x hx => by unfold Fp.settled; split; exact ⟨hx.1, hx.1⟩; exact hx)
  · exact h
theorem nodup_le : ∀ (n : Nat) (l : List Nat), l.Nodup → (∀ x ∈ l, x < n) → l.length ≤ n
  | 0, [], _, _ => Nat.le_refl _
  | 0, x :: _, _, h => absurd (h x (by simp)) (by omega)
  | n + 1, l, hd, h => by
    have h1 := nodup_le n (l.erase n) (hd.erase n) fun x hx => by
      have h2 := h x (List.mem_of_mem_erase hx)
      have h3 : x ≠ n := (hd.mem_erase_iff.1 hx).1
      omega
    rw [List.length_erase] at h1
    split at h1 <;> omega
theorem FsOk.count {s : List Fp} (h : FsOk s) : s.length ≤ 17 := by
  have hnd : (s.map fun x => x.site.toNat).Nodup := List.pairwise_map.2 (h.nodup.imp_of_mem fun {x y} hx hy hxy => by
    have := h.site x hx
    have := h.site y hy
    omega)
  have := nodup_le 17 _ hnd fun v hv => by
    obtain ⟨x, hx, rfl⟩ := List.mem_map.1 hv
    have := h.site x hx
    omega
  simpa using this
end Go.Proofs.Ythlejmpeigfdgaa
