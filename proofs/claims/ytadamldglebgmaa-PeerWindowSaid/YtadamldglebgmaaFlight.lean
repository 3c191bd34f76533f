/- The walks of slices.Clone at []int and of both Peers' Flight. Conditions: the slice holds the numbers that are named; the Peer lies in memory as PeerAt says. -/
import Derived.Test.YtadamldglebgmaaSlice
import Derived.Test.YtadamldglebgmaaAt
import Derived.Maps.AppendAt
namespace Go.Proofs.Ytadamldglebgmaa
open Go.RowKit

theorem info_int' : (Try.prog.info? 3).map (fun i => (i.zero, i.size, i.bytes)) = some (some (.int .i64 0), 1, 8) := by kernel_rfl

/-- New memory that holds the numbers xs. -/
def FreshInts (w : World) (xs : List Int) (e : Ending) (w' : World) : Prop :=
  ∃ v, e = .returned v ∧ w'.ownsRow w.heap.size 3 1 v xs.length (ints xs) ∧ Kept (fun _ => False) w w'

theorem news_seq {w : World} {ad : Addr} {xs : List Int} (h : Seq w (some ad) xs) : ∀ (j : Nat) (u : Value), (ints xs)[j]? = some u → w.cell? (ad.add j) = some u := by
  intro j u hu
  simp only [ints, List.getElem?_map] at hu
  by_cases hj : j < xs.length
  · obtain ⟨ad', he, hc⟩ := h j hj
    injection he with he
    subst he
    rw [List.getElem?_eq_getElem hj] at hu
    simp at hu
    rw [← hu]; exact hc
  · rw [List.getElem?_eq_none (by omega)] at hu
    simp at hu

theorem ints_one (xs : List Int) : ∀ u ∈ ints xs, u.oneCell' = true := by
  intro u hu
  simp only [ints, List.mem_map] at hu
  obtain ⟨x, _, rfl⟩ := hu
  rfl

set_option maxHeartbeats 400000 in
theorem Clone_any (A : Option Addr) (xs : List Int) (c : Nat) (w : World) (ha : Seq w A xs) (hA : A = none → xs.length = 0) (hx : xs.length ≤ 65536) (hlt : ∀ a, A = some a → xs.length = 0 ∨ a.block < w.heap.size) :
    Calls Try.prog 29 #[.slice A xs.length c] w (FreshInts w xs) := by
  obtain ⟨i0, hi, hz0, hz1, hz2⟩ := info_parts info_int'
  have hq := fun (W : World) (a : Option Addr) (n c n' c' : Nat) => Lib.run_eql_slice_nil (P := Try.prog) W 37 3 a n c n' c' Try.underlying37
  rcases A with _ | ad
  · have h0 := hA rfl
    have hfin : FreshInts w xs (.returned (.slice none 0 0)) w := ⟨_, rfl, by have : xs = [] := List.eq_nil_of_length_eq_zero h0; subst this; exact World.ownsRow_nil _ _ _ _, Kept.refl _ _⟩
    have HF := Lib.hid hfin
    clear hfin h0 hA
    go_enter Try.func29, Try.ntmps29
    go_wp2
    go_ret
    exact HF.out
  · have hB := Lib.hid hlt
    clear hA hlt
    go_enter Try.func29, Try.ntmps29
    go_wp2_with (at_builtin; refine wpList_append_own_at _ rfl (.tmp 5) (.tmp 6) 37 rfl w.heap.size 3 i0 (.int .i64 0) 1 8 Try.underlying37 hi hz0 hz1 hz2 rfl (by decide) _ 0 [] rfl (World.ownsRow_made w #[] 0 (Nat.le_refl _) (by simp [maxLen]) (by simp)) ad xs.length c (ints xs) rfl ?c0 ?c1 ?c2 ?c3 ?c4 ?c5 ?_)
    case c0 => simp [ints]
    case c1 => exact news_seq (Seq.kept ha ((Kept.refl (fun _ => False) _).alloc _) (fun _ _ => id))
    case c2 => exact ints_one xs
    case c3 => unfold maxLen; omega
    case c4 => omega
    case c5 => simp
    intro v' w1 hown1 hg1 _ hat
    have HO := Lib.hid hown1
    have HG := Lib.hid hg1
    clear hown1 hg1 hat
    go_wp2
    go_ret
    refine ⟨v', rfl, by simpa using HO.out, ((Kept.refl _ w).alloc _).grown HG.out fun k hk e => ?_⟩
    simp [Value.ownBlock] at e
    omega

section
variable (base b : Nat) (fv : Value) (s : St) (w : World)

theorem Flight1_any (g : Nat) (h : PeerAt w base 39 b fv s) (hg : Good s) (hgc : w.cell? ⟨g, 0, none⟩ = some (.pointer (some ⟨b, 0, none⟩))) :
    Calls Try.prog 28 #[.pointer (some ⟨g, 0, none⟩)] w (FreshInts w s.fl) := by
  have c3 : w.cell? ⟨b, 3, none⟩ = some fv := by simpa [St.cells] using h.box.cell 3
  have hlen : s.fl.length ≤ 65536 := by have := hg.len; have := hg.w1; omega
  obtain ⟨A, c, rfl, hA, _, _, hseq⟩ := h.form
  have hC := Clone_any A s.fl c w hseq (fun e => (hA e).1) hlen (fun a e => .inr (by
    have := h.row.lt a.block (by simp [Value.ownBlock, e])
    exact this.2))
  have HC := Lib.hid hC
  clear hC hseq hA h hg
  go_enter Try.func28, Try.ntmps28
  go_wp2_with (go_at_call 29; refine HC.out.mono ?_; rintro e w' ⟨v, rfl, ho, hk⟩)
  go_ret
  exact ⟨v, rfl, ho, hk⟩

theorem Flight_any (h : PeerAt w base 39 b fv s) (hg : Good s) :
    Calls Try.prog 16 #[.pointer (some ⟨b, 0, none⟩)] w (FreshInts w s.fl) := by
  have hbb := h.box.lt
  have hK : Kept (fun _ => False) w (w.alloc (.cells #[.pointer (some ⟨b, 0, none⟩)] 22)) := (Kept.refl _ _).alloc _
  have hF := Flight1_any base b fv s _ w.heap.size (h.kept hK fun _ _ => id) hg (by simp)
  have HF := Lib.hid hF
  clear hF hK h hg
  go_enter Try.func16, Try.ntmps16
  go_wp2_with (go_at_call 28; refine HF.out.mono ?_; rintro e w' ⟨v, rfl, ho, hk⟩)
  go_ret
  refine ⟨v, rfl, ?_, ((Kept.refl _ w).alloc _).trans hk fun k _ e => e⟩
  exact own_base ho (by simp)

set_option maxHeartbeats 400000 in
theorem RFlight_any (h : PeerAt w base 41 b fv s) (hg : Good s) :
    Calls Try.prog 24 #[.pointer (some ⟨b, 0, none⟩)] w (FreshInts w s.fl) := by
  have hbb := h.box.lt
  obtain ⟨i0, hi, hz0, hz1, hz2⟩ := info_parts info_int'
  have c3 : w.cell? ⟨b, 3, none⟩ = some fv := by simpa [St.cells] using h.box.cell 3
  have hlen : s.fl.length ≤ 65536 := by have := hg.len; have := hg.w1; omega
  obtain ⟨A, c, rfl, hA, _, _, hseq⟩ := h.form
  rcases A with _ | ad
  · have h0 := (hA rfl).1
    have hfl : s.fl = [] := List.eq_nil_of_length_eq_zero h0
    have HH := Lib.hid hfl
    have HZ := Lib.hid h0
    clear hfl h0 hA hseq h hg
    go_enter Try.func24, Try.ntmps24
    go_wp2
    go_ret
    exact ⟨_, rfl, by rw [HH.out]; exact World.ownsRow_nil _ _ _ _, Kept.refl _ _⟩
  · clear hA hg
    go_enter Try.func24, Try.ntmps24
    go_wp2_with (at_builtin; refine wpList_append_own_at _ rfl (.tmp 4) (.tmp 8) 37 rfl w.heap.size 3 i0 (.int .i64 0) 1 8 Try.underlying37 hi hz0 hz1 hz2 rfl (by decide) _ 0 [] rfl (World.ownsRow_nil _ _ _ _) ad s.fl.length c (ints s.fl) rfl ?c0 ?c1 ?c2 ?c3 ?c4 ?c5 ?_)
    case c0 => simp [ints]
    case c1 => exact news_seq hseq
    case c2 => exact ints_one s.fl
    case c3 => unfold maxLen; omega
    case c4 => omega
    case c5 => simp
    intro v' w1 hown1 hg1 _ hat
    have HO := Lib.hid hown1
    have HG := Lib.hid hg1
    clear hown1 hg1 hat
    go_wp2
    go_ret
    refine ⟨v', rfl, by simpa using HO.out, (Kept.refl _ w).grown HG.out fun k hk e => ?_⟩
    simp [Value.ownBlock] at e
end
end Go.Proofs.Ytadamldglebgmaa
