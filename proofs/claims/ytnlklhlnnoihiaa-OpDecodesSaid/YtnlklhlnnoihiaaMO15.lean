/- The walks of slices.Clone at bytes, Writer.Data, Writer.Err. · What a stamp's Reader is in memory; the walks of Read, Err, Left, End. -/
import Derived.Test.YtnlklhlnnoihiaaMO14
namespace Go.Proofs.Ytnlklhlnnoihiaa
open Go.RowKit

/-- New memory of these bytes. -/
def FreshBytes (w : World) (l : List Int) (e : Ending) (w' : World) : Prop :=
  ∃ A c, e = .returned (.slice A l.length c) ∧ w'.ownsRow w.heap.size 5 1 (.slice A l.length c) l.length (bys l) ∧ Kept (fun _ => False) w w'
theorem FreshBytes.at {w w' : World} {l : List Int} {e : Ending} (h : FreshBytes w l e w') : ∃ A c, e = .returned (.slice A l.length c) ∧ BytesAt w' A l ∧ Kept (fun _ => False) w w' := by
  obtain ⟨A, c, he, ho, hk⟩ := h
  exact ⟨A, c, he, BytesAt.of_own ho, hk⟩
theorem FreshBytes.since {w w1 : World} {l : List Int} {e : Ending} {w2 : World} (h : FreshBytes w1 l e w2) (hk : Kept (fun _ => False) w w1) : FreshBytes w l e w2 := by
  obtain ⟨A, c, he, ho, hk2⟩ := h
  exact ⟨A, c, he, own_base ho hk.size, hk.trans hk2 fun _ _ e => e⟩

set_option maxRecDepth 100000 in
set_option maxHeartbeats 1600000 in
theorem Clone_any (A : Option Addr) (l : List Int) (c : Nat) (w : World) (hl : BytesAt w A l) (hn : A = none → l = []) (hlen : l.length ≤ 100000000) :
    Calls Try.prog 55 #[.slice A l.length c] w (FreshBytes w l) := by
  have hq := fun W a n c n' c' => Lib.run_eql_slice_nil (P := Try.prog) W 41 5 a n c n' c' Try.underlying41
  obtain ⟨i0, hi, hz0, hz1, hz2⟩ := info_parts info_byte
  cases A with
  | none =>
    obtain rfl := hn rfl
    clear hl hn
    go_enter Try.func55, Try.ntmps55
    go_wp2
    go_ret
    exact ⟨none, 0, rfl, World.ownsRow_nil _ _ _ _, Kept.refl _ _⟩
  | some ad =>
    have HL := Lib.hid hl
    clear hl hn
    go_enter Try.func55, Try.ntmps55
    go_wp2_with (at_builtin; refine wpList_append_own_at _ rfl (.tmp 5) (.tmp 6) 41 rfl w.heap.size 5 i0 _ 1 1 Try.underlying41 hi hz0 hz1 hz2 rfl (by decide) _ 0 [] rfl (World.ownsRow_made w #[] 0 (Nat.le_refl _) (Nat.zero_le _) rfl) ad l.length c (bys l) rfl ?c0 ?c1 ?c2 ?c3 ?c4 ?c5 ?_)
    case c0 => rw [bys_len]; omega
    case c1 =>
      intro j u hj
      have hjn : j < l.length := by
        have := (List.getElem?_eq_some_iff.1 hj).1
        simpa [bys_len] using this
      obtain ⟨ad', e, h0⟩ := HL.out j hjn
      injection e with e
      subst e
      refine Lib.cell?_alloc_some _ ?_
      rw [h0, ← bys_get l j hjn]
      exact hj
    case c2 => exact bys_one l
    case c3 => unfold maxLen; omega
    case c4 => omega
    case c5 => simp
    intro v' w1 hown1 hg1 _ _
    have HK := Lib.hid (((Kept.refl (fun _ => False) w).alloc _).grown hg1 fun k hk e => by simp [Value.ownBlock] at e; omega)
    obtain ⟨A2, c2, rfl⟩ := own_form hown1
    have HO := Lib.hid hown1
    clear hown1 hg1
    go_wp2
    go_ret
    exact ⟨A2, c2, rfl, HO.out, HK.out⟩

set_option maxRecDepth 100000 in
set_option maxHeartbeats 1600000 in
theorem Data_any (base g : Nat) (sv : Value) (l : List Int) (e : Int) (w : World) (h : WriterAt w base g sv l e) (hlen : l.length ≤ 100000000) :
    Calls Try.prog 41 #[.pointer (some ⟨g, 0, none⟩)] w (FreshBytes w l) := by
  have hf : ∃ A c, sv = .slice A l.length c ∧ (A = none → l = []) := by
    rcases Go.Joins.ownsRow_forms h.row with ⟨rfl, h0⟩ | ⟨g, cap, rfl⟩
    · exact ⟨none, 0, by rw [h0], fun _ => List.eq_nil_of_length_eq_zero h0⟩
    · exact ⟨_, _, rfl, fun e => by cases e⟩
  obtain ⟨A, c, rfl, hn⟩ := hf
  have HB := Lib.hid (BytesAt.of_own h.row)
  have x0 : w.cell? ⟨g, 0, none⟩ = some (.slice A l.length c) := by simpa using h.box.cell 0
  have HN := Lib.hid hn
  clear h hn
  go_enter Try.func41, Try.ntmps41
  go_wp2_with (fail)
  refine (Clone_any A l c _ HB.out HN.out hlen).mono ?_
  rintro e w' hf
  have HF := Lib.hid hf
  obtain ⟨A', c', rfl, -, -⟩ := hf
  go_wp2
  go_ret
  exact HF.out

set_option maxRecDepth 100000 in
theorem WErr_any (base g : Nat) (sv : Value) (l : List Int) (e : Int) (w : World) (h : WriterAt w base g sv l e) :
    Calls Try.prog 42 #[.pointer (some ⟨g, 0, none⟩)] w (fun r w' => r = .returned (.int .i64 e) ∧ w = w') := by
  have x1 : w.cell? ⟨g, 1, none⟩ = some (.int .i64 e) := by simpa using h.box.cell 1
  clear h
  go_enter Try.func42, Try.ntmps42
  go_wp2
  go_ret
  exact ⟨rfl, rfl⟩
end Go.Proofs.Ytnlklhlnnoihiaa

namespace Go.Proofs.Ytnlklhlnnoihiaa
open Go.RowKit

/-- A Reader at block g, whose bytes lie in block d (none: d may be g); its bytes are read only. -/
structure ReaderAt (w : World) (d g : Nat) (l : List Int) (e : Int) : Prop where
  box : ∃ A c, Box w g 93 #[.slice A l.length c, .int .i64 e] ∧ (l.length ≤ c ∧ c ≤ maxLen) ∧ BytesAt w A l ∧ ∀ a, A = some a → l ≠ [] → a.block = d ∧ d ≠ g
  dlt : d < w.heap.size
section
variable {w w' : World} {d g : Nat} {l : List Int} {e : Int} {S : Nat → Prop}
theorem ReaderAt.lt (h : ReaderAt w d g l e) : g < w.heap.size := by
  obtain ⟨A, c, hb, _⟩ := h.box
  exact hb.lt
theorem ReaderAt.kept (h : ReaderAt w d g l e) (hk : Kept S w w') (hg : ¬ S g) (hS : ¬ S d) : ReaderAt w' d g l e := by
  obtain ⟨A, c, hb, hc, hy, hn⟩ := h.box
  refine ⟨⟨A, c, hb.kept hk hg, hc, ?_, hn⟩, Nat.lt_of_lt_of_le h.dlt hk.size⟩
  intro k hlt
  obtain ⟨ad, he, h0⟩ := hy k hlt
  have hbl : (ad.add k).block = ad.block := by unfold Addr.add; split <;> rfl
  have hne : l ≠ [] := fun e => by rw [e] at hlt; simp at hlt
  obtain ⟨h1, h2⟩ := hn ad he hne
  refine ⟨ad, he, ?_⟩
  have hl := World.block_lt_of_cell? w _ h0
  rw [World.cell?_of_block (w := w) (hk.block _ hl (by rw [hbl, h1]; exact hS))]
  exact h0
theorem ReaderAt.fresh (h : ReaderAt w d g l e) (hk : Kept (fun _ => False) w w') : ReaderAt w' d g l e := h.kept hk id id
end

theorem own_cap {w : World} {base n c : Nat} {e : TypeId} {size : Nat} {A : Option Addr} {xs : List Value} (h : w.ownsRow base e size (.slice A n c) n xs) : n ≤ c ∧ c ≤ maxLen := by
  rcases h.2 with ⟨e, h0⟩ | ⟨g, cap, cur, e, hb, hh, h1, h2, _⟩
  · injection e with _ _ e
    subst e
    exact ⟨by omega, by simp [maxLen]⟩
  · injection e with _ _ e
    subst e
    exact ⟨h1, h2⟩
def ReadPost (w : World) (l : List Int) (e : Ending) (w' : World) : Prop := ∃ d g, e = .returned (.pointer (some ⟨g, 0, none⟩)) ∧ ReaderAt w' d g l 0 ∧ (w.heap.size ≤ d ∧ w.heap.size ≤ g) ∧ Kept (fun _ => False) w w'

set_option maxRecDepth 100000 in
set_option maxHeartbeats 1600000 in
theorem Read_any (A : Option Addr) (l : List Int) (c : Nat) (w : World) (hl : BytesAt w A l) (hn : A = none → l = []) (hlen : l.length ≤ 100000000) :
    Calls Try.prog 24 #[.slice A l.length c] w (ReadPost w l) := by
  have HL := Lib.hid hl
  have HN := Lib.hid hn
  clear hl hn
  go_enter Try.func24, Try.ntmps24
  go_wp2_with (fail)
  refine (Clone_any A l c _ HL.out HN.out hlen).mono ?_
  rintro e w1 ⟨A', c', rfl, ho, hk⟩
  have HO := Lib.hid ho
  have HK := Lib.hid hk
  clear ho hk
  have HX := Lib.hid (Box.new w1 93 #[.slice A' l.length c', .int .i64 0])
  have HK2 := Lib.hid (HK.out.alloc (.cells #[.slice A' l.length c', .int .i64 0] 93))
  have HB := Lib.hid ((BytesAt.of_own HO.out).fresh ((Kept.refl _ w1).alloc (.cells #[.slice A' l.length c', .int .i64 0] 93)))
  go_wp2
  go_ret
  have hs1 := HK.out.size
  by_cases hne : l = []
  · exact ⟨w1.heap.size, w1.heap.size, rfl, ⟨⟨A', c', HX.out, own_cap HO.out, HB.out, fun a _ h => absurd hne h⟩, HX.out.lt⟩, ⟨hs1, hs1⟩, HK2.out⟩
  · rcases HO.out.2 with ⟨e, h0⟩ | ⟨d, cap, cur, e, hb, hh, _⟩
    · exact absurd (List.eq_nil_of_length_eq_zero h0) hne
    · injection e with e
      subst e
      have hlt : d < w1.heap.size := Box.lt (t := 5) hh
      refine ⟨d, w1.heap.size, rfl, ⟨⟨_, c', HX.out, own_cap HO.out, HB.out, fun a ha _ => ?_⟩, by simp; omega⟩, ⟨hb, hs1⟩, HK2.out⟩
      injection ha with ha
      subst ha
      exact ⟨rfl, by omega⟩

set_option maxRecDepth 100000 in
theorem RErr_any (d g : Nat) (l : List Int) (e : Int) (w : World) (h : ReaderAt w d g l e) :
    Calls Try.prog 31 #[.pointer (some ⟨g, 0, none⟩)] w (fun r w' => r = .returned (.int .i64 e) ∧ w = w') := by
  obtain ⟨A, c, hb, -⟩ := h.box
  have x1 : w.cell? ⟨g, 1, none⟩ = some (.int .i64 e) := by simpa using hb.cell 1
  clear h hb
  go_enter Try.func31, Try.ntmps31
  go_wp2
  go_ret
  exact ⟨rfl, rfl⟩
set_option maxRecDepth 100000 in
theorem RErr_nil (w : World) : Calls Try.prog 31 #[.pointer none] w (fun r w' => r = .returned (.int .i64 1) ∧ w = w') := by
  go_enter Try.func31, Try.ntmps31
  go_wp2
  go_ret
  exact ⟨rfl, rfl⟩
set_option maxRecDepth 100000 in
theorem Left_any (d g : Nat) (l : List Int) (e : Int) (w : World) (h : ReaderAt w d g l e) :
    Calls Try.prog 29 #[.pointer (some ⟨g, 0, none⟩)] w (fun r w' => r = .returned (.int .i64 l.length) ∧ w = w') := by
  obtain ⟨A, c, hb, -⟩ := h.box
  have x0 : w.cell? ⟨g, 0, none⟩ = some (.slice A l.length c) := by simpa using hb.cell 0
  clear h hb
  go_enter Try.func29, Try.ntmps29
  go_wp2
  go_ret
  exact ⟨rfl, rfl⟩
end Go.Proofs.Ytnlklhlnnoihiaa
