/- The walk of slices.BinarySearch among the sites; a site's place. Conditions: the sites lie in memory and rise. -/
import Derived.Test.YtkekhnohehhljaaEBit
namespace Go.Proofs.Ytkekhnohehhljaa
open Go Go.Shelf Go.RowKit Go.Lib Go.Sort

/-- The place of a site. -/
def plc (ss : List Int) (x : Int) : Nat := ss.countP (· < x)
theorem plc_get : ∀ (ss : List Int), ss.Pairwise (· < ·) → ∀ (i : Nat) (h : i < ss.length), plc ss ss[i] = i
  | [], _, i, h => by simp at h
  | a :: l, hp, 0, _ => by
    have h := (List.pairwise_cons.1 hp).1
    have h2 : l.countP (· < a) = 0 := List.countP_eq_zero.2 fun x hx => by have := h x hx; simp; omega
    show (a :: l).countP (· < a) = 0
    rw [List.countP_cons, h2]
    simp
  | a :: l, hp, i + 1, h => by
    have h1 := (List.pairwise_cons.1 hp).1
    have hi : i < l.length := by simpa using h
    have ih := plc_get l (List.pairwise_cons.1 hp).2 i hi
    show (a :: l).countP (· < l[i]) = i + 1
    rw [List.countP_cons]
    have : a < l[i] := h1 _ (List.getElem_mem hi)
    unfold plc at ih
    rw [ih]
    simp [this]
theorem plc_lt {ss : List Int} (hp : ss.Pairwise (· < ·)) {x : Int} (hx : x ∈ ss) : plc ss x < ss.length := by
  obtain ⟨i, hi, rfl⟩ := List.getElem_of_mem hx
  rw [plc_get ss hp i hi]
  exact hi
theorem plc_inj {ss : List Int} (hp : ss.Pairwise (· < ·)) {x y : Int} (hx : x ∈ ss) (hy : y ∈ ss) (h : plc ss x = plc ss y) : x = y := by
  obtain ⟨i, hi, rfl⟩ := List.getElem_of_mem hx
  obtain ⟨j, hj, rfl⟩ := List.getElem_of_mem hy
  rw [plc_get ss hp i hi, plc_get ss hp j hj] at h
  subst h
  rfl
/-- The number of a pair of sites. -/
def pairN (ss : List Int) (p : Int × Int) : Nat := plc ss p.1 * ss.length + plc ss p.2
theorem pairN_inj {ss : List Int} (hp : ss.Pairwise (· < ·)) {p q : Int × Int} (p1 : p.1 ∈ ss) (p2 : p.2 ∈ ss) (q1 : q.1 ∈ ss) (q2 : q.2 ∈ ss) (h : pairN ss p = pairN ss q) : p = q := by
  have a1 := plc_lt hp p2
  have a2 := plc_lt hp q2
  unfold pairN at h
  have e1 : plc ss p.1 = plc ss q.1 := by
    have h1 : (plc ss p.1 * ss.length + plc ss p.2) / ss.length = (plc ss q.1 * ss.length + plc ss q.2) / ss.length := by rw [h]
    rw [Nat.mul_comm, Nat.mul_comm (plc ss q.1), Nat.mul_add_div (by omega), Nat.mul_add_div (by omega), Nat.div_eq_of_lt a1, Nat.div_eq_of_lt a2] at h1
    simpa using h1
  rw [e1] at h
  exact Prod.ext (plc_inj hp p1 q1 e1) (plc_inj hp p2 q2 (by omega))
theorem pairN_lt {ss : List Int} (hp : ss.Pairwise (· < ·)) {p : Int × Int} (p1 : p.1 ∈ ss) (p2 : p.2 ∈ ss) : pairN ss p < ss.length * ss.length := by
  have a1 := plc_lt hp p1
  have a2 := plc_lt hp p2
  have := Nat.mul_le_mul_right ss.length (show plc ss p.1 + 1 ≤ ss.length from a1)
  rw [Nat.succ_mul] at this
  unfold pairN
  omega
theorem Search_any {A : Option Addr} {c : Nat} {ss : List Int} {w : World} (h : CellsAt w A (ints ss)) (hp : ss.Pairwise (· < ·)) (hn : 0 < ss.length) (hl : ss.length ≤ 1000000) (x : Int) :
    Calls Try.prog 28 #[.slice A ss.length c, .int .i64 x] w fun r w' => r = .returned (.tuple #[.int .i64 (plc ss x : Nat), .bool (ss.contains x)]) ∧ ∃ q, w' = w.drewN q := by
  obtain ⟨b, f, rfl, hc⟩ := h.some_ (by rw [ints_len]; exact hn)
  have hs : (ss.take ss.length).Pairwise (· ≤ ·) := by rw [List.take_length]; exact hp.imp fun h => Int.le_of_lt h
  have hb := AnyG.slices_BinarySearch_int searchI b f ss.length c ss x w (Nat.le_refl _) (by omega) (fun j hj => hc j _ (by rw [ints_get ss j hj]; simp [List.getD, hj])) hs
  rw [List.take_length] at hb
  exact hb
end Go.Proofs.Ytkekhnohehhljaa
