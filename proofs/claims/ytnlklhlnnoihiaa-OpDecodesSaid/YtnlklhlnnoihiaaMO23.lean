/- The walks of hearsayref1.Decode, Pieces, BadAt, Good, Count. Conditions: the text has at most a million bytes. · The walk of insert.right. Conditions: the text is no longer than a machine holds. -/
import Derived.Test.YtnlklhlnnoihiaaMO22
import Derived.Test.YtnlklhlnnoihiaaMO20
namespace Go.Proofs.Ytnlklhlnnoihiaa
open Go Go.RowKit

def DecPost (w : World) (s : ByteArray) (i : Nat) (e : Ending) (w' : World) : Prop := ∃ r : Int, e = .returned (.tuple #[.int .i32 r, .int .i64 (dec s i).2, .bool (!bad s i)]) ∧ Kept (fun _ => False) w w'
set_option maxRecDepth 100000 in
theorem Decode_any (s : ByteArray) (i : Nat) (w : World) (hi : i < s.size) (hs : s.size ≤ 4611686018427387904) : Calls Try.prog 77 #[.string s, .int .i64 i] w (DecPost w s i) := by
  have hb := beg_bad s i
  have hd := dec_pos s i
  have h1 : bad s i = true → (dec s i).2 = 1 := fun h => by
    have := of_decide_eq_true h
    rw [this]
  unfold DecPost
  generalize (dec s i).2 = n at *
  cases hbd : bad s i with
  | true =>
    rw [hbd] at hb h1
    obtain rfl : n = 1 := h1 rfl
    simp only [if_true] at hb
    have HB := Lib.hid hb
    clear hb h1 hbd hd
    go_enter Try.func77, Try.ntmps77
    go_wp2_with (fail)
    refine (begins_any s i _ hi hs).mono ?_
    unfold BegPost
    rw [HB.out]
    rintro e w1 ⟨r, rfl, hk⟩
    have HK := Lib.hid hk
    clear hk
    go_wp2
    go_ret3
    exact ⟨_, rfl, HK.out⟩
  | false =>
    rw [hbd] at hb
    simp only [Bool.false_eq_true, if_false] at hb
    have HB := Lib.hid hb
    have hn0 : ((n : Nat) : Int) ≠ 0 := by omega
    clear hb h1 hbd hd
    go_enter Try.func77, Try.ntmps77
    go_wp2_with (fail)
    refine (begins_any s i _ hi hs).mono ?_
    unfold BegPost
    rw [HB.out]
    rintro e w1 ⟨r, rfl, hk⟩
    have HK := Lib.hid hk
    clear hk
    go_wp2
    go_ret3
    exact ⟨_, rfl, HK.out⟩

/-- A piece as the document's code keeps it. -/
structure Pie where
  at_ : Nat
  r : Int
  n : Nat
  ok : Bool
def Pie.cells (p : Pie) : List Value := [.int .i64 p.at_, .int .i32 p.r, .int .i64 p.n, .bool p.ok]
def Pie.cut (p : Pie) : Nat × Nat × Bool := (p.at_, p.n, p.ok)
def pies (L : List Pie) : List Value := L.flatMap Pie.cells
theorem pies_len (L : List Pie) : (pies L).length = L.length * 4 := by
  induction L with
  | nil => rfl
  | cons p L ih =>
    unfold pies at ih ⊢
    rw [List.flatMap_cons, List.length_append, ih]
    simp [Pie.cells]
    omega
theorem pies_app (L M : List Pie) : pies (L ++ M) = pies L ++ pies M := by simp [pies]
theorem pies_get (L : List Pie) : ∀ k (h : k < L.length), (pies L)[k * 4]? = some (.int .i64 L[k].at_) ∧ (pies L)[k * 4 + 3]? = some (.bool L[k].ok) := by
  induction L with
  | nil => intro k h; simp at h
  | cons p L ih =>
    intro k h
    have e : pies (p :: L) = p.cells ++ pies L := by simp [pies]
    rw [e]
    cases k with
    | zero => exact ⟨rfl, rfl⟩
    | succ k =>
      have h4 : p.cells.length = 4 := rfl
      rw [List.getElem?_append_right (by rw [h4]; omega), List.getElem?_append_right (by rw [h4]; omega), h4, show (k + 1) * 4 - 4 = k * 4 by omega, show (k + 1) * 4 + 3 - 4 = k * 4 + 3 by omega]
      simpa using ih k (by simpa using h)
theorem info_piece : (Try.prog.info? 138).map (fun i => (i.zero, i.size, i.bytes)) = some (some (.agg #[.int .i64 0, .int .i32 0, .int .i64 0, .bool false]), 4, 32) := by kernel_rfl
theorem eltPieces : Elt Try.prog 130 138 4 32 := .of Try.underlying130 info_piece rfl (by decide) (by decide)
structure PcsAt (w : World) (v : Value) (L : List Pie) (w' : World) : Prop where
  row : w'.ownsRow w.heap.size 138 4 v L.length (pies L)
  k : Kept (fun _ => False) w w'
def PcsPost (w : World) (s : ByteArray) (e : Ending) (w' : World) : Prop := ∃ A c L, e = .returned (.slice A L.length c) ∧ L.map Pie.cut = cuts s ∧ PcsAt w (.slice A L.length c) L w'

set_option maxRecDepth 100000 in
set_option maxHeartbeats 1600000 in
theorem Pieces_any (s : ByteArray) (w : World) (hs : s.size ≤ 1000000) : Calls Try.prog 72 #[.string s] w (PcsPost w s) := by
  go_enter Try.func72, Try.ntmps72
  go_wp2_with (fail)
  go_loopw [3, 4] (fun v i wr => ∃ (A : Option Addr) (c : Nat) (L : List Pie) (pos : Nat), v = .slice A L.length c ∧ i = .int .i64 pos ∧ pos ≤ s.size ∧ L.length ≤ pos ∧ L.map Pie.cut ++ pcs s s.size pos = cuts s ∧ PcsAt w (.slice A L.length c) L wr) (fun _ i _ => s.size - (intOf i).toNat)
  case atStart => exact ⟨none, 0, [], 0, rfl, rfl, by omega, by simp, rfl, World.ownsRow_nil _ _ _ _, Kept.refl _ _⟩
  case round =>
    obtain ⟨A, c, L, pos, rfl, rfl, hps, hlp, hcut, hz⟩ := hrel
    have HZ := Lib.hid hz
    have HCUT := Lib.hid hcut
    clear hz hcut
    by_cases hp : pos < s.size
    · have hd := dec_fits hp
      have hd0 := dec_pos s pos
      have HST := Lib.hid (pcs_step hp (show s.size ≤ pos + s.size by omega))
      obtain ⟨n, hn⟩ : ∃ n, (dec s pos).2 = n := ⟨_, rfl⟩
      obtain ⟨b, hb⟩ : ∃ b, bad s pos = b := ⟨_, rfl⟩
      rw [hn] at hd hd0 HST
      rw [hb] at HST
      have HN := Lib.hid hn
      have HB := Lib.hid hb
      clear hn hb
      go_wp2_with (fail)
      refine (Decode_any s pos _ hp (by omega)).mono ?_
      unfold DecPost
      rw [HN.out, HB.out]
      rintro e w1 ⟨r, rfl, hk⟩
      have HR := Lib.hid (hk.own HZ.out.row fun _ _ => id)
      have HK := Lib.hid (HZ.out.k.trans hk fun _ _ e => e)
      have hsz := HK.out.size
      clear hk HZ
      go_wp2_with (at_builtin; refine wpList_append_new eltPieces rfl (.tmp 19) (.tmp 25) rfl w.heap.size _ L.length (pies L) rfl HR.out 1 1 rfl rfl rfl (by omega) hsz ?_)
      intro A1 c1 w2 HO1 HK1 HM1
      go_wp2
      go_roundw
      case rel =>
        refine ⟨A1, c1, L ++ [⟨pos, r, n, !b⟩], pos + n, by simp, by go_num, hd, by simp; omega, ?_, ?_, HK.out.trans HK1.out fun k hk e => ?_⟩
        · rw [List.map_append, List.append_assoc]
          have := HCUT.out
          rw [HST.out] at this
          exact this
        · rw [pies_app, List.length_append]
          exact HO1.out
        · have := (HR.out.lt k e).1
          omega
      case measure => simp [intOf]; omega
    · obtain rfl : pos = s.size := by omega
      have h0 := HCUT.out
      rw [pcs_end _ (Nat.le_refl _), List.append_nil] at h0
      have H0 := Lib.hid h0
      clear h0
      go_wp2
      go_ret
      exact ⟨A, c, L, rfl, H0.out, HZ.out⟩

set_option maxRecDepth 100000 in
theorem RCount_any (s : ByteArray) (w : World) (hs : s.size ≤ 1000000) : Calls Try.prog 53 #[.string s] w (IntPost w (cnt s)) := by
  go_enter Try.func53, Try.ntmps53
  go_wp2_with (fail)
  refine (Pieces_any s _ hs).mono ?_
  rintro e w1 ⟨A, c, L, rfl, hc, hz⟩
  have HK := Lib.hid hz.k
  have HC := Lib.hid (show L.length = cnt s by unfold cnt; rw [← hc, List.length_map])
  clear hc hz
  go_wp2
  go_ret
  exact ⟨by rw [← HC.out]; rfl, HK.out⟩

set_option maxRecDepth 100000 in
set_option maxHeartbeats 1600000 in
theorem RBadAt_any (s : ByteArray) (w : World) (hs : s.size ≤ 1000000) : Calls Try.prog 76 #[.string s] w (IntPost w (badAt s)) := by
  obtain ⟨x, hx⟩ : ∃ x, badAt s = x := ⟨_, rfl⟩
  have HX := Lib.hid hx
  rw [hx]
  clear hx
  go_enter Try.func76, Try.ntmps76
  go_wp2_with (fail)
  refine (Pieces_any s _ hs).mono ?_
  rintro e w1 ⟨A, c, L, rfl, hc, hz⟩
  have HZ := Lib.hid hz
  have hlen : L.length ≤ 1000000 := by
    have := cnt_le s
    unfold cnt at this
    rw [← hc, List.length_map] at this
    omega
  have HF := Lib.hid (show firstBad (L.map Pie.cut) = x by rw [hc]; exact HX.out)
  clear hc hz HX
  go_wp2_with (fail)
  go_loopw [4] (fun i wr => ∃ (k : Nat), i = .int .i64 k ∧ k ≤ L.length ∧ firstBad ((L.drop k).map Pie.cut) = x ∧ PcsAt w (.slice A L.length c) L wr) (fun i _ => L.length - (intOf i).toNat)
  case atStart => exact ⟨0, rfl, by omega, HF.out, HZ.out⟩
  case round =>
    obtain ⟨k, rfl, hk, hf, hz⟩ := hrel
    have HZ2 := Lib.hid hz
    clear HF HZ
    by_cases hlt : k < L.length
    · obtain ⟨g, cap, hv, _, _⟩ := World.ownsRow.form hz.row (by omega)
      injection hv with e1 _ e3
      subst e1 e3
      obtain ⟨p0, p3⟩ := pies_get L k hlt
      have x0 : wr.cell? ⟨g, k * 4, none⟩ = some (.int .i64 L[k].at_) := by rw [World.ownsRow.cellAt hz.row (k * 4) (by omega), p0]
      have x3 : wr.cell? ⟨g, k * 4 + 3, none⟩ = some (.bool L[k].ok) := by rw [World.ownsRow.cellAt hz.row (k * 4 + 3) (by omega), p3]
      rw [List.drop_eq_getElem_cons hlt, List.map_cons] at hf
      generalize L[k] = p at x0 x3 hf
      obtain ⟨at_, r, n, ok⟩ := p
      simp only at x0 x3
      cases ok with
      | true =>
        have HF := Lib.hid (show firstBad ((L.drop (k + 1)).map Pie.cut) = x from hf)
        clear hz hf p0 p3
        go_wp2_with (fail)
        go_roundw
        case rel => exact ⟨k + 1, by go_num, by omega, HF.out, HZ2.out⟩
        case measure => simp [intOf]; omega
      | false =>
        have HF := Lib.hid (show (at_ : Int) = x from hf)
        clear hz hf p0 p3
        go_wp2_with (fail)
        go_ret
        exact ⟨by rw [← HF.out]; rfl, HZ2.out.k⟩
    · obtain rfl : k = L.length := by omega
      have HF := Lib.hid (show (-1 : Int) = x by rw [List.drop_length] at hf; exact hf)
      clear hz hf
      go_wp2_with (fail)
      go_ret
      exact ⟨by rw [← HF.out]; rfl, HZ2.out.k⟩

set_option maxRecDepth 100000 in
theorem Good_any (s : ByteArray) (w : World) (hs : s.size ≤ 1000000) : Calls Try.prog 68 #[.string s] w (BoolPost w (decide (badAt s < 0))) := by
  go_enter Try.func68, Try.ntmps68
  go_wp2_with (fail)
  refine (RBadAt_any s _ hs).mono ?_
  rintro e w1 ⟨rfl, hk⟩
  have HK := Lib.hid hk
  clear hk
  go_wp2
  go_ret
  exact ⟨rfl, HK.out⟩
end Go.Proofs.Ytnlklhlnnoihiaa

namespace Go.Proofs.Ytnlklhlnnoihiaa
open Go Go.RowKit

theorem neq_id (a b c d : Int) (W : World) : (binOp .neq 27 (.agg #[.int .i64 a, .int .i64 b]) (.agg #[.int .i64 c, .int .i64 d])).run Try.prog W = .ok (.bool (!(decide (a = c ∧ b = d)))) W := by
  have hu : Try.prog.underlying 27 = some (.struct (Try.prog.fieldsOf 27)) := by kernel_rfl
  rw [run_neq_struct, run_equalIn_struct _ _ _ _ _ hu (by kernel_rfl), run_eqFields_id, Result.andThen_ok]
/-- An insert and the operation in boxes, ahead of whatever is done. -/
structure IB (w : World) (g : Nat) (ds dq : Int) (dA : Option Addr) (dn dc : Nat) (kind it is rt rs : Int) (text : ByteArray) (gA : Option Addr) (gn gc : Nat) (site : Int) (W : World) : Prop where
  b1 : Box W g 114 #[.int .i64 it, .int .i64 is, .int .i64 rt, .int .i64 rs, .string text]
  b2 : Box W (g + 1) 30 #[.int .i64 ds, .int .i64 dq, .slice dA dn dc, .int .i64 kind, .int .i64 it, .int .i64 is, .int .i64 rt, .int .i64 rs, .string text, .slice gA gn gc, .int .i64 site]
  k : Kept (fun _ => False) w W
section
variable {w W W' : World} {g : Nat} {ds dq : Int} {dA : Option Addr} {dn dc : Nat} {kind it is rt rs : Int} {text : ByteArray} {gA : Option Addr} {gn gc : Nat} {site : Int}
theorem IB.fresh (h : IB w g ds dq dA dn dc kind it is rt rs text gA gn gc site W) (hk : Kept (fun _ => False) W W') : IB w g ds dq dA dn dc kind it is rt rs text gA gn gc site W' := ⟨h.b1.kept hk id, h.b2.kept hk id, h.k.trans hk fun _ _ e => e⟩
theorem IB.drew (h : IB w g ds dq dA dn dc kind it is rt rs text gA gn gc site W) : IB w g ds dq dA dn dc kind it is rt rs text gA gn gc site W.drew := h.fresh (Kept.refl (fun _ => False) W).drew
theorem IB.S (h : IB w g ds dq dA dn dc kind it is rt rs text gA gn gc site W) :
    (W.cell? ⟨g, 0, none⟩ = some (.int .i64 it) ∧ W.cell? ⟨g, 1, none⟩ = some (.int .i64 is) ∧ W.cell? ⟨g, 2, none⟩ = some (.int .i64 rt) ∧ W.cell? ⟨g, 3, none⟩ = some (.int .i64 rs) ∧ W.cell? ⟨g, 4, none⟩ = some (.string text)) ∧
    W.cell? ⟨g + 1, 0, none⟩ = some (.int .i64 ds) ∧ W.cell? ⟨g + 1, 1, none⟩ = some (.int .i64 dq) ∧ W.cell? ⟨g + 1, 2, none⟩ = some (.slice dA dn dc) ∧ W.cell? ⟨g + 1, 3, none⟩ = some (.int .i64 kind) ∧ W.cell? ⟨g + 1, 4, none⟩ = some (.int .i64 it) ∧ W.cell? ⟨g + 1, 5, none⟩ = some (.int .i64 is) ∧
    W.cell? ⟨g + 1, 6, none⟩ = some (.int .i64 rt) ∧ W.cell? ⟨g + 1, 7, none⟩ = some (.int .i64 rs) ∧ W.cell? ⟨g + 1, 8, none⟩ = some (.string text) ∧ W.cell? ⟨g + 1, 9, none⟩ = some (.slice gA gn gc) ∧ W.cell? ⟨g + 1, 10, none⟩ = some (.int .i64 site) :=
  ⟨⟨h.b1.cell 0, h.b1.cell 1, h.b1.cell 2, h.b1.cell 3, h.b1.cell 4⟩, h.b2.cell 0, h.b2.cell 1, h.b2.cell 2, h.b2.cell 3, h.b2.cell 4, h.b2.cell 5, h.b2.cell 6, h.b2.cell 7, h.b2.cell 8, h.b2.cell 9, h.b2.cell 10⟩
end
/-- The tests of an insert, in their order. -/
def insB (o : Opr) : Bool :=
  decide (o.gone.length = 0) && (sameRest o.id o.ref o.text o.site o.id o.ref o.text 0 && (decide (0 < cnt o.text) && (decide (cnt o.text ≤ 1024) && (decide (badAt o.text < 0) && (decide (o.id.site = o.dot.site) &&
    ((!decide (afterI o.id (cnt o.text - 1) = noId)) && ((decide (o.ref = noId) || decide (afterI o.ref 0 = o.ref)) && decide (o.ref.time < o.id.time))))))))
/-- The facts of a walk of insert.right: gl runs, x2 the rests are alike, n runes, z the first bad byte, e1 and e2 what After says. -/
structure InsF (it is rt rs : Int) (text : ByteArray) (site : Int) (x2 : Bool) (n : Nat) (z : Int) (e1t e1s e2t e2s : Int) (x7 x8 x9 : Bool) : Prop where
  cnt : ∀ W, Calls Try.prog 102 #[.string text] W (IntPost W n)
  bad : ∀ W, Calls Try.prog 104 #[.string text] W (IntPost W z)
  a1 : ∀ W, Calls Try.prog 105 #[.agg #[.int .i64 it, .int .i64 is], .int .i64 ((n : Int) - 1)] W (OfPost W (.agg #[.int .i64 e1t, .int .i64 e1s]))
  a2 : ∀ W, Calls Try.prog 105 #[.agg #[.int .i64 rt, .int .i64 rs], .int .i64 0] W (OfPost W (.agg #[.int .i64 e2t, .int .i64 e2s]))
  q2 : ∀ W, (binOp .eql 159 (.agg #[.int .i64 it, .int .i64 is, .int .i64 rt, .int .i64 rs, .string text, .int .i64 site]) (.agg #[.int .i64 it, .int .i64 is, .int .i64 rt, .int .i64 rs, .string text, .int .i64 0])).run Try.prog W = .ok (.bool x2) W
  q7 : ∀ W, (binOp .neq 27 (.agg #[.int .i64 e1t, .int .i64 e1s]) (.agg #[.int .i64 0, .int .i64 0])).run Try.prog W = .ok (.bool x7) W
  q8 : ∀ W, (binOp .eql 27 (.agg #[.int .i64 rt, .int .i64 rs]) (.agg #[.int .i64 0, .int .i64 0])).run Try.prog W = .ok (.bool x8) W
  q9 : ∀ W, (binOp .eql 27 (.agg #[.int .i64 e2t, .int .i64 e2s]) (.agg #[.int .i64 rt, .int .i64 rs])).run Try.prog W = .ok (.bool x9) W
end Go.Proofs.Ytnlklhlnnoihiaa
