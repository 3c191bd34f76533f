/- The walks of slices.Clone at bytes, Writer.Data, Writer.Err. -/
import Derived.Test.YtoeipjhdpeibpaaGreatSNum
namespace Go.Proofs.YtoeipjhdpeibpaaGreat
open Go.RowKit

/-- New memory of these bytes. -/
def FreshBytes (w : World) (l : List Int) (e : Ending) (w' : World) : Prop :=
  ∃ A c, e = .returned (.slice A l.length c) ∧ w'.ownsRow w.heap.size 5 1 (.slice A l.length c) l.length (bys l) ∧ Kept (fun _ => False) w w'
theorem FreshBytes.at {w w' : World} {l : List Int} {e : Ending} (h : FreshBytes w l e w') : ∃ A c, e = .returned (.slice A l.length c) ∧ BytesAt w' A l ∧ Kept (fun _ => False) w w' := by
  obtain ⟨A, c, he, ho, hk⟩ := h
  exact ⟨A, c, he, BytesAt.of_own ho, hk⟩
theorem FreshBytes.since {w w1 : World} {l : List Int} {e : Ending} {w2 : World} (h : FreshBytes w1 l e w2) (hk : Kept (fun _ => False) w w1) : FreshBytes w l e w2 := by
  obtain ⟨A, c, he, ho, hk2⟩ := h
  exact ⟨A, c, he, own_base ho hk.size, hk.trans hk2 fun _ _ e => e⟩

set_option maxRecDepth 100000 in
set_option maxHeartbeats 1600000 in
theorem Clone_any (A : Option Addr) (l : List Int) (c : Nat) (w : World) (hl : BytesAt w A l) (hn : A = none → l = []) (hlen : l.length ≤ 100000000) :
    Calls Tryz.prog 51 #[.slice A l.length c] w (FreshBytes w l) := by
  have hq := fun W a n c n' c' => Lib.run_eql_slice_nil (P := Tryz.prog) W 22 5 a n c n' c' Tryz.underlying22
  obtain ⟨i0, hi, hz0, hz1, hz2⟩ := info_parts info_byte
  cases A with
  | none =>
    obtain rfl := hn rfl
    clear hl hn
    go_enter Tryz.func51, Tryz.ntmps51
    go_wp2
    go_ret
    exact ⟨none, 0, rfl, World.ownsRow_nil _ _ _ _, Kept.refl _ _⟩
  | some ad =>
    have HL := Lib.hid hl
    clear hl hn
    go_enter Tryz.func51, Tryz.ntmps51
    go_wp2_with (at_builtin; refine wpList_append_own_at _ rfl (.tmp 5) (.tmp 6) 22 rfl w.heap.size 5 i0 _ 1 1 Tryz.underlying22 hi hz0 hz1 hz2 rfl (by decide) _ 0 [] rfl (World.ownsRow_made w #[] 0 (Nat.le_refl _) (Nat.zero_le _) rfl) ad l.length c (bys l) rfl ?c0 ?c1 ?c2 ?c3 ?c4 ?c5 ?_)
    case c0 => rw [bys_len]; omega
    case c1 =>
      intro j u hj
      have hjn : j < l.length := by
        have := (List.getElem?_eq_some_iff.1 hj).1
        simpa [bys_len] using this
      obtain ⟨ad', e, h0⟩ := HL.out j hjn
      injection e with e
      subst e
      refine Lib.cell?_alloc_some _ ?_
      rw [h0, ← bys_get l j hjn]
      exact hj
    case c2 => exact bys_one l
    case c3 => unfold maxLen; omega
    case c4 => omega
    case c5 => simp
    intro v' w1 hown1 hg1 _ _
    have HK := Lib.hid (((Kept.refl (fun _ => False) w).alloc _).grown hg1 fun k hk e => by simp [Value.ownBlock] at e; omega)
    obtain ⟨A2, c2, rfl⟩ := own_form hown1
    have HO := Lib.hid hown1
    clear hown1 hg1
    go_wp2
    go_ret
    exact ⟨A2, c2, rfl, HO.out, HK.out⟩

set_option maxRecDepth 100000 in
set_option maxHeartbeats 1600000 in
theorem Data_any (base g : Nat) (sv : Value) (l : List Int) (e : Int) (w : World) (h : WriterAt w base g sv l e) (hlen : l.length ≤ 100000000) :
    Calls Tryz.prog 18 #[.pointer (some ⟨g, 0, none⟩)] w (FreshBytes w l) := by
  have hf : ∃ A c, sv = .slice A l.length c ∧ (A = none → l = []) := by
    rcases Go.Joins.ownsRow_forms h.row with ⟨rfl, h0⟩ | ⟨g, cap, rfl⟩
    · exact ⟨none, 0, by rw [h0], fun _ => List.eq_nil_of_length_eq_zero h0⟩
    · exact ⟨_, _, rfl, fun e => by cases e⟩
  obtain ⟨A, c, rfl, hn⟩ := hf
  have HB := Lib.hid (BytesAt.of_own h.row)
  have x0 : w.cell? ⟨g, 0, none⟩ = some (.slice A l.length c) := by simpa using h.box.cell 0
  have HN := Lib.hid hn
  clear h hn
  go_enter Tryz.func18, Tryz.ntmps18
  go_wp2_with (fail)
  refine (Clone_any A l c _ HB.out HN.out hlen).mono ?_
  rintro e w' hf
  have HF := Lib.hid hf
  obtain ⟨A', c', rfl, -, -⟩ := hf
  go_wp2
  go_ret
  exact HF.out

end Go.Proofs.YtoeipjhdpeibpaaGreat
