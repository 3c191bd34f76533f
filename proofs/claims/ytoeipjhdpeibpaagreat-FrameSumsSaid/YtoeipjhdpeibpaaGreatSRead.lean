/- What a stamp's Reader is in memory; the walks of Read, Err, Left, End. -/
import Derived.Test.YtoeipjhdpeibpaaGreatSData
namespace Go.Proofs.YtoeipjhdpeibpaaGreat
open Go.RowKit

/-- A Reader at block g, whose bytes lie in block d (none: d may be g); its bytes are read only. -/
structure ReaderAt (w : World) (d g : Nat) (l : List Int) (e : Int) : Prop where
  box : ∃ A c, Box w g 97 #[.slice A l.length c, .int .i64 e] ∧ (l.length ≤ c ∧ c ≤ maxLen) ∧ BytesAt w A l ∧ ∀ a, A = some a → l ≠ [] → a.block = d ∧ d ≠ g
  dlt : d < w.heap.size
section
variable {w w' : World} {d g : Nat} {l : List Int} {e : Int} {S : Nat → Prop}
theorem ReaderAt.lt (h : ReaderAt w d g l e) : g < w.heap.size := by
  obtain ⟨A, c, hb, _⟩ := h.box
  exact hb.lt
theorem ReaderAt.kept (h : ReaderAt w d g l e) (hk : Kept S w w') (hg : ¬ S g) (hS : ¬ S d) : ReaderAt w' d g l e := by
  obtain ⟨A, c, hb, hc, hy, hn⟩ := h.box
  refine ⟨⟨A, c, hb.kept hk hg, hc, ?_, hn⟩, Nat.lt_of_lt_of_le h.dlt hk.size⟩
  intro k hlt
  obtain ⟨ad, he, h0⟩ := hy k hlt
  have hbl : (ad.add k).block = ad.block := by unfold Addr.add; split <;> rfl
  have hne : l ≠ [] := fun e => by rw [e] at hlt; simp at hlt
  obtain ⟨h1, h2⟩ := hn ad he hne
  refine ⟨ad, he, ?_⟩
  have hl := World.block_lt_of_cell? w _ h0
  rw [World.cell?_of_block (w := w) (hk.block _ hl (by rw [hbl, h1]; exact hS))]
  exact h0
theorem ReaderAt.fresh (h : ReaderAt w d g l e) (hk : Kept (fun _ => False) w w') : ReaderAt w' d g l e := h.kept hk id id
end

theorem own_cap {w : World} {base n c : Nat} {e : TypeId} {size : Nat} {A : Option Addr} {xs : List Value} (h : w.ownsRow base e size (.slice A n c) n xs) : n ≤ c ∧ c ≤ maxLen := by
  rcases h.2 with ⟨e, h0⟩ | ⟨g, cap, cur, e, hb, hh, h1, h2, _⟩
  · injection e with _ _ e
    subst e
    exact ⟨by omega, by simp [maxLen]⟩
  · injection e with _ _ e
    subst e
    exact ⟨h1, h2⟩
def ReadPost (w : World) (l : List Int) (e : Ending) (w' : World) : Prop := ∃ d g, e = .returned (.pointer (some ⟨g, 0, none⟩)) ∧ ReaderAt w' d g l 0 ∧ (w.heap.size ≤ d ∧ w.heap.size ≤ g) ∧ Kept (fun _ => False) w w'

set_option maxRecDepth 100000 in
set_option maxHeartbeats 1600000 in
theorem Read_any (A : Option Addr) (l : List Int) (c : Nat) (w : World) (hl : BytesAt w A l) (hn : A = none → l = []) (hlen : l.length ≤ 100000000) :
    Calls Tryz.prog 24 #[.slice A l.length c] w (ReadPost w l) := by
  have HL := Lib.hid hl
  have HN := Lib.hid hn
  clear hl hn
  go_enter Tryz.func24, Tryz.ntmps24
  go_wp2_with (fail)
  refine (Clone_any A l c _ HL.out HN.out hlen).mono ?_
  rintro e w1 ⟨A', c', rfl, ho, hk⟩
  have HO := Lib.hid ho
  have HK := Lib.hid hk
  clear ho hk
  have HX := Lib.hid (Box.new w1 97 #[.slice A' l.length c', .int .i64 0])
  have HK2 := Lib.hid (HK.out.alloc (.cells #[.slice A' l.length c', .int .i64 0] 97))
  have HB := Lib.hid ((BytesAt.of_own HO.out).fresh ((Kept.refl _ w1).alloc (.cells #[.slice A' l.length c', .int .i64 0] 97)))
  go_wp2
  go_ret
  have hs1 := HK.out.size
  by_cases hne : l = []
  · exact ⟨w1.heap.size, w1.heap.size, rfl, ⟨⟨A', c', HX.out, own_cap HO.out, HB.out, fun a _ h => absurd hne h⟩, HX.out.lt⟩, ⟨hs1, hs1⟩, HK2.out⟩
  · rcases HO.out.2 with ⟨e, h0⟩ | ⟨d, cap, cur, e, hb, hh, _⟩
    · exact absurd (List.eq_nil_of_length_eq_zero h0) hne
    · injection e with e
      subst e
      have hlt : d < w1.heap.size := Box.lt (t := 5) hh
      refine ⟨d, w1.heap.size, rfl, ⟨⟨_, c', HX.out, own_cap HO.out, HB.out, fun a ha _ => ?_⟩, by simp; omega⟩, ⟨hb, hs1⟩, HK2.out⟩
      injection ha with ha
      subst ha
      exact ⟨rfl, by omega⟩

set_option maxRecDepth 100000 in
theorem RErr_any (d g : Nat) (l : List Int) (e : Int) (w : World) (h : ReaderAt w d g l e) :
    Calls Tryz.prog 54 #[.pointer (some ⟨g, 0, none⟩)] w (fun r w' => r = .returned (.int .i64 e) ∧ w = w') := by
  obtain ⟨A, c, hb, -⟩ := h.box
  have x1 : w.cell? ⟨g, 1, none⟩ = some (.int .i64 e) := by simpa using hb.cell 1
  clear h hb
  go_enter Tryz.func54, Tryz.ntmps54
  go_wp2
  go_ret
  exact ⟨rfl, rfl⟩
set_option maxRecDepth 100000 in
theorem RErr_nil (w : World) : Calls Tryz.prog 54 #[.pointer none] w (fun r w' => r = .returned (.int .i64 1) ∧ w = w') := by
  go_enter Tryz.func54, Tryz.ntmps54
  go_wp2
  go_ret
  exact ⟨rfl, rfl⟩
set_option maxRecDepth 100000 in
theorem Left_any (d g : Nat) (l : List Int) (e : Int) (w : World) (h : ReaderAt w d g l e) :
    Calls Tryz.prog 26 #[.pointer (some ⟨g, 0, none⟩)] w (fun r w' => r = .returned (.int .i64 l.length) ∧ w = w') := by
  obtain ⟨A, c, hb, -⟩ := h.box
  have x0 : w.cell? ⟨g, 0, none⟩ = some (.slice A l.length c) := by simpa using hb.cell 0
  clear h hb
  go_enter Tryz.func26, Tryz.ntmps26
  go_wp2
  go_ret
  exact ⟨rfl, rfl⟩
end Go.Proofs.YtoeipjhdpeibpaaGreat
