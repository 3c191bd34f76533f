/- The walks of hearsayref1.Decode, Pieces, BadAt, Good, Count. Conditions: the text has at most a million bytes. -/
import Derived.Test.YtnfehkncfjgeeaaTBeg
namespace Go.Proofs.Ytnfehkncfjgeeaa
open Go Go.RowKit

def DecPost (w : World) (s : ByteArray) (i : Nat) (e : Ending) (w' : World) : Prop := ∃ r : Int, e = .returned (.tuple #[.int .i32 r, .int .i64 (dec s i).2, .bool (!bad s i)]) ∧ Kept (fun _ => False) w w'
set_option maxRecDepth 100000 in
theorem Decode_any (s : ByteArray) (i : Nat) (w : World) (hi : i < s.size) (hs : s.size ≤ 4611686018427387904) : Calls Try.prog 77 #[.string s, .int .i64 i] w (DecPost w s i) := by
  have hb := beg_bad s i
  have hd := dec_pos s i
  have h1 : bad s i = true → (dec s i).2 = 1 := fun h => by
    have := of_decide_eq_true h
    rw [this]
  unfold DecPost
  generalize (dec s i).2 = n at *
  cases hbd : bad s i with
  | true =>
    rw [hbd] at hb h1
    obtain rfl : n = 1 := h1 rfl
    simp only [if_true] at hb
    have HB := Lib.hid hb
    clear hb h1 hbd hd
    go_enter Try.func77, Try.ntmps77
    go_wp2_with (fail)
    refine (begins_any s i _ hi hs).mono ?_
    unfold BegPost
    rw [HB.out]
    rintro e w1 ⟨r, rfl, hk⟩
    have HK := Lib.hid hk
    clear hk
    go_wp2
    go_ret3
    exact ⟨_, rfl, HK.out⟩
  | false =>
    rw [hbd] at hb
    simp only [Bool.false_eq_true, if_false] at hb
    have HB := Lib.hid hb
    have hn0 : ((n : Nat) : Int) ≠ 0 := by omega
    clear hb h1 hbd hd
    go_enter Try.func77, Try.ntmps77
    go_wp2_with (fail)
    refine (begins_any s i _ hi hs).mono ?_
    unfold BegPost
    rw [HB.out]
    rintro e w1 ⟨r, rfl, hk⟩
    have HK := Lib.hid hk
    clear hk
    go_wp2
    go_ret3
    exact ⟨_, rfl, HK.out⟩

/-- A piece as the document's code keeps it. -/
structure Pie where
  at_ : Nat
  r : Int
  n : Nat
  ok : Bool
def Pie.cells (p : Pie) : List Value := [.int .i64 p.at_, .int .i32 p.r, .int .i64 p.n, .bool p.ok]
def Pie.cut (p : Pie) : Nat × Nat × Bool := (p.at_, p.n, p.ok)
def pies (L : List Pie) : List Value := L.flatMap Pie.cells
theorem pies_len (L : List Pie) : (pies L).length = L.length * 4 := by
  induction L with
  | nil => rfl
  | cons p L ih =>
    unfold pies at ih ⊢
    rw [List.flatMap_cons, List.length_append, ih]
    simp [Pie.cells]
    omega
theorem pies_app (L M : List Pie) : pies (L ++ M) = pies L ++ pies M := by simp [pies]
theorem pies_get (L : List Pie) : ∀ k (h : k < L.length), (pies L)[k * 4]? = some (.int .i64 L[k].at_) ∧ (pies L)[k * 4 + 3]? = some (.bool L[k].ok) := by
  induction L with
  | nil => intro k h; simp at h
  | cons p L ih =>
    intro k h
    have e : pies (p :: L) = p.cells ++ pies L := by simp [pies]
    rw [e]
    cases k with
    | zero => exact ⟨rfl, rfl⟩
    | succ k =>
      have h4 : p.cells.length = 4 := rfl
      rw [List.getElem?_append_right (by rw [h4]; omega), List.getElem?_append_right (by rw [h4]; omega), h4, show (k + 1) * 4 - 4 = k * 4 by omega, show (k + 1) * 4 + 3 - 4 = k * 4 + 3 by omega]
      simpa using ih k (by simpa using h)
theorem info_piece : (Try.prog.info? 120).map (fun i => (i.zero, i.size, i.bytes)) = some (some (.agg #[.int .i64 0, .int .i32 0, .int .i64 0, .bool false]), 4, 32) := by kernel_rfl
theorem eltPieces : Elt Try.prog 117 120 4 32 := .of Try.underlying117 info_piece rfl (by decide) (by decide)
structure PcsAt (w : World) (v : Value) (L : List Pie) (w' : World) : Prop where
  row : w'.ownsRow w.heap.size 120 4 v L.length (pies L)
  k : Kept (fun _ => False) w w'
def PcsPost (w : World) (s : ByteArray) (e : Ending) (w' : World) : Prop := ∃ A c L, e = .returned (.slice A L.length c) ∧ L.map Pie.cut = cuts s ∧ PcsAt w (.slice A L.length c) L w'

set_option maxRecDepth 100000 in
set_option maxHeartbeats 1600000 in
theorem Pieces_any (s : ByteArray) (w : World) (hs : s.size ≤ 1000000) : Calls Try.prog 76 #[.string s] w (PcsPost w s) := by
  go_enter Try.func76, Try.ntmps76
  go_wp2_with (fail)
  go_loopw [3, 4] (fun v i wr => ∃ (A : Option Addr) (c : Nat) (L : List Pie) (pos : Nat), v = .slice A L.length c ∧ i = .int .i64 pos ∧ pos ≤ s.size ∧ L.length ≤ pos ∧ L.map Pie.cut ++ pcs s s.size pos = cuts s ∧ PcsAt w (.slice A L.length c) L wr) (fun _ i _ => s.size - (intOf i).toNat)
  case atStart => exact ⟨none, 0, [], 0, rfl, rfl, by omega, by simp, rfl, World.ownsRow_nil _ _ _ _, Kept.refl _ _⟩
  case round =>
    obtain ⟨A, c, L, pos, rfl, rfl, hps, hlp, hcut, hz⟩ := hrel
    have HZ := Lib.hid hz
    have HCUT := Lib.hid hcut
    clear hz hcut
    by_cases hp : pos < s.size
    · have hd := dec_fits hp
      have hd0 := dec_pos s pos
      have HST := Lib.hid (pcs_step hp (show s.size ≤ pos + s.size by omega))
      obtain ⟨n, hn⟩ : ∃ n, (dec s pos).2 = n := ⟨_, rfl⟩
      obtain ⟨b, hb⟩ : ∃ b, bad s pos = b := ⟨_, rfl⟩
      rw [hn] at hd hd0 HST
      rw [hb] at HST
      have HN := Lib.hid hn
      have HB := Lib.hid hb
      clear hn hb
      go_wp2_with (fail)
      refine (Decode_any s pos _ hp (by omega)).mono ?_
      unfold DecPost
      rw [HN.out, HB.out]
      rintro e w1 ⟨r, rfl, hk⟩
      have HR := Lib.hid (hk.own HZ.out.row fun _ _ => id)
      have HK := Lib.hid (HZ.out.k.trans hk fun _ _ e => e)
      have hsz := HK.out.size
      clear hk HZ
      go_wp2_with (at_builtin; refine wpList_append_new eltPieces rfl (.tmp 19) (.tmp 25) rfl w.heap.size _ L.length (pies L) rfl HR.out 1 1 rfl rfl rfl (by omega) hsz ?_)
      intro A1 c1 w2 HO1 HK1 HM1
      go_wp2
      go_roundw
      case rel =>
        refine ⟨A1, c1, L ++ [⟨pos, r, n, !b⟩], pos + n, by simp, by go_num, hd, by simp; omega, ?_, ?_, HK.out.trans HK1.out fun k hk e => ?_⟩
        · rw [List.map_append, List.append_assoc]
          have := HCUT.out
          rw [HST.out] at this
          exact this
        · rw [pies_app, List.length_append]
          exact HO1.out
        · have := (HR.out.lt k e).1
          omega
      case measure => simp [intOf]; omega
    · obtain rfl : pos = s.size := by omega
      have h0 := HCUT.out
      rw [pcs_end _ (Nat.le_refl _), List.append_nil] at h0
      have H0 := Lib.hid h0
      clear h0
      go_wp2
      go_ret
      exact ⟨A, c, L, rfl, H0.out, HZ.out⟩

set_option maxRecDepth 100000 in
theorem RCount_any (s : ByteArray) (w : World) (hs : s.size ≤ 1000000) : Calls Try.prog 71 #[.string s] w (IntPost w (cnt s)) := by
  go_enter Try.func71, Try.ntmps71
  go_wp2_with (fail)
  refine (Pieces_any s _ hs).mono ?_
  rintro e w1 ⟨A, c, L, rfl, hc, hz⟩
  have HK := Lib.hid hz.k
  have HC := Lib.hid (show L.length = cnt s by unfold cnt; rw [← hc, List.length_map])
  clear hc hz
  go_wp2
  go_ret
  exact ⟨by rw [← HC.out]; rfl, HK.out⟩

set_option maxRecDepth 100000 in
set_option maxHeartbeats 1600000 in
theorem RBadAt_any (s : ByteArray) (w : World) (hs : s.size ≤ 1000000) : Calls Try.prog 75 #[.string s] w (IntPost w (badAt s)) := by
  obtain ⟨x, hx⟩ : ∃ x, badAt s = x := ⟨_, rfl⟩
  have HX := Lib.hid hx
  rw [hx]
  clear hx
  go_enter Try.func75, Try.ntmps75
  go_wp2_with (fail)
  refine (Pieces_any s _ hs).mono ?_
  rintro e w1 ⟨A, c, L, rfl, hc, hz⟩
  have HZ := Lib.hid hz
  have hlen : L.length ≤ 1000000 := by
    have := cnt_le s
    unfold cnt at this
    rw [← hc, List.length_map] at this
    omega
  have HF := Lib.hid (show firstBad (L.map Pie.cut) = x by rw [hc]; exact HX.out)
  clear hc hz HX
  go_wp2_with (fail)
  go_loopw [4] (fun i wr => ∃ (k : Nat), i = .int .i64 k ∧ k ≤ L.length ∧ firstBad ((L.drop k).map Pie.cut) = x ∧ PcsAt w (.slice A L.length c) L wr) (fun i _ => L.length - (intOf i).toNat)
  case atStart => exact ⟨0, rfl, by omega, HF.out, HZ.out⟩
  case round =>
    obtain ⟨k, rfl, hk, hf, hz⟩ := hrel
    have HZ2 := Lib.hid hz
    clear HF HZ
    by_cases hlt : k < L.length
    · obtain ⟨g, cap, hv, _, _⟩ := World.ownsRow.form hz.row (by omega)
      injection hv with e1 _ e3
      subst e1 e3
      obtain ⟨p0, p3⟩ := pies_get L k hlt
      have x0 : wr.cell? ⟨g, k * 4, none⟩ = some (.int .i64 L[k].at_) := by rw [World.ownsRow.cellAt hz.row (k * 4) (by omega), p0]
      have x3 : wr.cell? ⟨g, k * 4 + 3, none⟩ = some (.bool L[k].ok) := by rw [World.ownsRow.cellAt hz.row (k * 4 + 3) (by omega), p3]
      rw [List.drop_eq_getElem_cons hlt, List.map_cons] at hf
      generalize L[k] = p at x0 x3 hf
      obtain ⟨at_, r, n, ok⟩ := p
      simp only at x0 x3
      cases ok with
      | true =>
        have HF := Lib.hid (show firstBad ((L.drop (k + 1)).map Pie.cut) = x from hf)
        clear hz hf p0 p3
        go_wp2_with (fail)
        go_roundw
        case rel => exact ⟨k + 1, by go_num, by omega, HF.out, HZ2.out⟩
        case measure => simp [intOf]; omega
      | false =>
        have HF := Lib.hid (show (at_ : Int) = x from hf)
        clear hz hf p0 p3
        go_wp2_with (fail)
        go_ret
        exact ⟨by rw [← HF.out]; rfl, HZ2.out.k⟩
    · obtain rfl : k = L.length := by omega
      have HF := Lib.hid (show (-1 : Int) = x by rw [List.drop_length] at hf; exact hf)
      clear hz hf
      go_wp2_with (fail)
      go_ret
      exact ⟨by rw [← HF.out]; rfl, HZ2.out.k⟩

set_option maxRecDepth 100000 in
theorem Good_any (s : ByteArray) (w : World) (hs : s.size ≤ 1000000) : Calls Try.prog 70 #[.string s] w (BoolPost w (decide (badAt s < 0))) := by
  go_enter Try.func70, Try.ntmps70
  go_wp2_with (fail)
  refine (RBadAt_any s _ hs).mono ?_
  rintro e w1 ⟨rfl, hk⟩
  have HK := Lib.hid hk
  clear hk
  go_wp2
  go_ret
  exact ⟨rfl, HK.out⟩
end Go.Proofs.Ytnfehkncfjgeeaa
