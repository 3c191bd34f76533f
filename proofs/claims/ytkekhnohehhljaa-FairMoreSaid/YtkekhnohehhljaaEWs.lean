/- fair.Windows walked whole: it answers the windows of the play, in new memory. Conditions: the lists lie in memory, at most a hundred sites and a million events. -/
import Derived.Test.YtkekhnohehhljaaEWnd
import Derived.RangeFuncNested
import Derived.RangeFuncBound
import Derived.RangeFuncCalls
import Derived.RangeFuncLeaves
import Derived.RangeFuncFrom
import Derived.RangeFuncBox
import Derived.OwnWalkIn
import Derived.TacticsInMore
import Derived.LoopNIn
import Derived.LoopIn
namespace Go.Proofs.Ytkekhnohehhljaa
open Go Go.Shelf Go.RowKit Go.Lib Go.Sort
attribute [local go_sem] Oper.semAt_some

theorem Chain.congr {F F' : Int → Int → Prop} {lim : Int} (hF : ∀ s t, F s t ↔ F' s t) : ∀ {W : List (Int × Int)} {s : Int}, Chain F lim s W → Chain F' lim s W
  | [], s, h => fun t ht hf => h t ht ((hF s t).2 hf)
  | _ :: _, _, h => ⟨h.1, h.2.1, (hF _ _).1 h.2.2.1, fun t ht hf => h.2.2.2.1 t ht ((hF _ _).2 hf), Chain.congr hF h.2.2.2.2⟩
theorem Fit.congr {es es' : List Ev} {ss ss' : List Int} (he : ∀ e, e ∈ es ↔ e ∈ es') (hs : ∀ x, x ∈ ss ↔ x ∈ ss') (s t : Int) : Fit es ss s t ↔ Fit es' ss' s t :=
  ⟨fun h => h.mono (fun e => (he e).1) (fun x => (hs x).2) (Int.le_refl _) (Int.le_refl _), fun h => h.mono (fun e => (he e).2) (fun x => (hs x).1) (Int.le_refl _) (Int.le_refl _)⟩
/-- Two unlike sites. -/
def Two (l : List Int) : Prop := ∃ x ∈ l, ∃ y ∈ l, x ≠ y
theorem two_iff (l : List Int) : 2 ≤ (sitesOf l).length ↔ Two l := by
  obtain ⟨h1, h2⟩ := sites_spec l
  obtain ⟨ss, hss⟩ : ∃ ss, sitesOf l = ss := ⟨_, rfl⟩
  rw [hss] at h1 h2 ⊢
  constructor
  · intro h
    match ss, h1, h2, h with
    | x :: y :: _, h1, h2, _ =>
      have := (List.pairwise_cons.1 h1).1 y (by simp)
      exact ⟨x, (h2 x).1 (by simp), y, (h2 y).1 (by simp), by omega⟩
  · rintro ⟨x, hx, y, hy, hxy⟩
    match ss, h2 with
    | [], h2 => exact absurd ((h2 x).2 hx) (by simp)
    | [z], h2 =>
      have e1 := (h2 x).2 hx
      have e2 := (h2 y).2 hy
      simp at e1 e2
      exact absurd (e1.trans e2.symm) hxy
    | _ :: _ :: _, _ => simp
/-- The windows of a play. -/
def Wins (es : List Ev) (live : List Int) (s lim : Int) (W : List (Int × Int)) : Prop := (Two live → Chain (Fit es live) lim s W) ∧ (¬ Two live → W = [])
theorem scan_wins {es es' : List Ev} {live : List Int} (hp : es'.Perm es) (hs : es'.Pairwise (fun x y => x.key ≤ y.key)) (h2 : 2 ≤ (sitesOf live).length) (s lim : Int) : Wins es live s lim (scan (sitesOf live) lim [] s es') := by
  refine ⟨fun _ => ?_, fun h => absurd ((two_iff live).1 h2) h⟩
  obtain ⟨h3, h4⟩ := sites_spec live
  have hd : (sitesOf live).Nodup := h3.imp fun h e => by omega
  have := scan_chain hd h2 (lim := lim) es' [] [] s hs ⟨List.nodup_nil, fun p => ⟨fun h => absurd h (by simp), fun ⟨_, _, _, e, he, _⟩ => absurd he (by simp)⟩, Nat.mul_pos (by omega) (by omega)⟩
  exact this.congr fun s t => Fit.congr (fun e => hp.mem_iff) h4 s t

section
variable {w w' : World} {A : Option Addr} {xs : List Value}
theorem CellsAt.old (h : CellsAt w A xs) (hk : Kept (fun k => w.heap.size ≤ k) w w') : CellsAt w' A xs := fun j u hj => by
  obtain ⟨ad, e, h0⟩ := h j u hj
  refine ⟨ad, e, ?_⟩
  have hlt := World.block_lt_of_cell? w _ h0
  rw [World.cell?_of_block (w := w) (hk.block _ hlt (by omega))]
  exact h0
theorem CellsAt.lt (h : CellsAt w A xs) (hn : 0 < xs.length) : ∀ a, A = some a → a.block < w.heap.size := by
  intro a e
  obtain ⟨ad, e', h0⟩ := h 0 _ (List.getElem?_eq_getElem hn)
  rw [e] at e'
  injection e' with e'
  subst e'
  have := World.block_lt_of_cell? w _ h0
  have hb : (a.add 0).block = a.block := by unfold Addr.add; split <;> rfl
  rwa [hb] at this
end
theorem compact_le (l : List Int) : (sitesOf l).length ≤ l.length := by
  have := compact_length_le (l.mergeSort fun x y => decide (x ≤ y))
  rwa [List.length_mergeSort] at this

set_option maxRecDepth 100000 in
theorem insertion_nil (A : Option Addr) (c : Nat) (w : World) : Calls Try.prog 41 #[.slice A 0 c, .int .i64 0, .int .i64 0, .func (.func 19) #[] #[]] w fun r w' => r = .returned (.tuple #[]) ∧ w' = w := by
  go_enter Try.func41, Try.ntmps41
  go_wp2_with (fail)
  go_loopw [8] (fun v wr => v = .int .i64 1 ∧ wr = w) (fun _ _ => 0)
  case atStart => exact ⟨rfl, rfl⟩
  case round =>
    obtain ⟨rfl, rfl⟩ := hrel
    go_wp2_with (fail)
    go_end0
    exact ⟨rfl, rfl⟩
set_option maxRecDepth 100000 in
set_option maxHeartbeats 1600000 in
theorem stable_nil (A : Option Addr) (c : Nat) (w : World) : Calls Try.prog 25 #[.slice A 0 c, .int .i64 0, .func (.func 19) #[] #[]] w fun r w' => r = .returned (.tuple #[]) ∧ w' = w := by
  go_enter Try.func25, Try.ntmps25
  go_wp2_with (fail)
  go_loopw [7, 8] (fun v x wr => v = .int .i64 0 ∧ x = .int .i64 20 ∧ wr = w) (fun _ _ _ => 0)
  case atStart => exact ⟨rfl, rfl, rfl⟩
  case round =>
    obtain ⟨rfl, rfl, hw⟩ := hrel
    have HW := Lib.hid hw
    clear hw
    obtain ⟨wo, rfl⟩ : ∃ wo : World, wo = wr := ⟨_, rfl⟩
    go_wp2_with (fail)
    refine (insertion_nil A c _).mono ?_
    rintro r w2 ⟨rfl, hw2⟩
    have HW2 := Lib.hid (hw2.trans HW.out)
    clear hw2 HW
    go_wp2_with (fail)
    go_loopw [6, 7, 8, 9] (fun v _ _ _ wr => v = .int .i64 20 ∧ wr = w) (fun _ _ _ _ _ => 0)
    case atStart => exact ⟨rfl, HW2.out⟩
    case round =>
      obtain ⟨rfl, hw⟩ := hrel
      have HW := Lib.hid hw
      clear hw
      go_wp2_with (fail)
      go_end0
      exact ⟨rfl, HW.out⟩
set_option maxRecDepth 100000 in
theorem SortStable_nil (A : Option Addr) (c : Nat) (w : World) : Calls Try.prog 18 #[.slice A 0 c, .func (.func 19) #[] #[]] w fun r w' => r = .returned (.tuple #[]) ∧ w' = w := by
  go_enter Try.func18, Try.ntmps18
  go_wp2_with (fail)
  refine (stable_nil A c w).mono ?_
  rintro r w2 ⟨rfl, hw2⟩
  have HW := Lib.hid hw2
  clear hw2
  go_wp2_with (fail)
  go_end0
  exact ⟨rfl, HW.out⟩
/-- The events' row, sorted, be it empty. -/
theorem SortE0_any {b c : Nat} {A : Option Addr} {l : List Ev} {w : World} (h : w.ownsRow b 35 7 (.slice A l.length c) l.length (evs l)) (hl : l.length ≤ 1000000) :
    Calls Try.prog 18 #[.slice A l.length c, .func (.func 19) #[] #[]] w fun r w' => r = .returned (.tuple #[]) ∧ ∃ l' : List Ev, l'.Perm l ∧ l'.Pairwise (fun x y => x.key ≤ y.key) ∧ CellsAt w' A (evs l') ∧ Kept (fun k => b ≤ k) w w' ∧ ∀ a, A = some a → a.block < w'.heap.size := by
  rcases Nat.eq_zero_or_pos l.length with h0 | h0
  · have hnil : l = [] := List.eq_nil_of_length_eq_zero h0
    subst hnil
    refine (SortStable_nil A c w).mono ?_
    rintro r w' ⟨rfl, rfl⟩
    refine ⟨rfl, [], List.Perm.refl _, List.Pairwise.nil, CellsAt.nil _ _, Kept.refl _ _, fun a e => ?_⟩
    subst e
    exact (h.lt a.block rfl).2
  · refine (SortE_any h hl h0).mono ?_
    rintro r w' ⟨rfl, l', h1, h2, h3, h4⟩
    exact ⟨rfl, l', h1, h2, h3, h4, h3.lt (by rw [evs_len, h1.length_eq]; omega)⟩
end Go.Proofs.Ytkekhnohehhljaa
