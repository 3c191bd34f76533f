/- The walks of the reference's changes, told, more. Conditions: the bytes and the network lie in memory. -/
import Derived.Test.YtopcogogpbcbhaaNRa
import Derived.Test.YtopcogogpbcbhaaNMeM
import Derived.Test.YtopcogogpbcbhaaLHeld
namespace Go.Proofs.Ytopcogogpbcbhaa
open Go Go.RowKit

set_option maxRecDepth 100000 in
set_option maxHeartbeats 1600000 in
theorem RChanges_any (A B : Option Addr) (d b : List Int) (m c e : Nat) (w : World) (hd : BytesAt w A d) (hb : BytesAt w B b) (hm : m + b.length ≤ d.length) (hlen : d.length ≤ 1000000) :
    Calls Try.prog 50 #[.slice A d.length c, .int .i64 m, .slice B b.length e] w (BoolPost w (!decide ((d.drop m).take b.length = b))) := by
  have HD := Lib.hid hd
  have HB := Lib.hid hb
  obtain ⟨v, hv⟩ : ∃ v, (!decide ((d.drop m).take b.length = b)) = v := ⟨_, rfl⟩
  rw [hv]
  have HV := Lib.hid hv
  have HEL := Lib.hid (show ∀ k (h : k < b.length), ((d.drop m).take b.length)[k]? = some (d[m + k]'(by omega)) from fun k h => by
    rw [List.getElem?_take, if_pos h, List.getElem?_drop, List.getElem?_eq_getElem])
  have HLN := Lib.hid (show ((d.drop m).take b.length).length = b.length by rw [List.length_take, List.length_drop]; omega)
  clear hd hb hv
  go_enter Try.func50, Try.ntmps50
  go_wp2_with (fail)
  go_loopw [7] (fun i wr => ∃ k : Nat, i = .int .i64 k ∧ k ≤ b.length ∧ ((d.drop m).take b.length).take k = b.take k ∧ Kept (fun _ => False) w wr) (fun i _ => b.length - (intOf i).toNat)
  case atStart => exact ⟨0, rfl, Nat.zero_le _, rfl, Kept.refl _ _⟩
  case round =>
    obtain ⟨k, rfl, hk, hat, hkk⟩ := hrel
    have HAT := Lib.hid hat
    have HK := Lib.hid hkk
    by_cases hlt : k < b.length
    · obtain ⟨J, hJ⟩ : ∃ J, m + k = J := ⟨_, rfl⟩
      have hJd : J < d.length := by omega
      have hE : ((d.drop m).take b.length)[k]? = some d[J] := by subst hJ; exact HEL.out k hlt
      obtain ⟨ad, rfl, x0⟩ := HD.out.fresh hkk J hJd
      obtain ⟨ad', rfl, y0⟩ := HB.out.fresh hkk k hlt
      have hw : IntKind.i64.wrap ((m : Int) + (k : Int)) = (J : Int) := by rw [IntWalk.i64_in _ ⟨by omega, by omega⟩]; omega
      generalize hd1 : d[J] = d1 at x0 hE
      generalize hd2 : b[k] = d2 at y0
      have HE := Lib.hid hE
      have HD2 := Lib.hid hd2
      have hJ0 : (0 : Int) ≤ (J : Int) := by omega
      have hJi : (J : Int) < (d.length : Int) := by omega
      have hk0 : (0 : Int) ≤ (k : Int) := by omega
      have hki : (k : Int) < (b.length : Int) := by omega
      clear hJ hd1 hd2 hkk hat hE
      by_cases he : d1 = d2
      · have hx : (d1 != d2) = false := by simp [he]
        have HEQ := Lib.hid he
        clear he
        go_wp2_with (fail)
        go_quiet (fail)
        go_wp2
        go_roundw
        case rel =>
          refine ⟨k + 1, by go_num, by omega, ?_, HK.out.trans (Kept.drewN_eq nq) fun _ _ e => e⟩
          have hb1 : b[k]? = some d2 := by rw [List.getElem?_eq_getElem hlt, HD2.out]
          rw [List.take_add_one, List.take_add_one, HE.out, hb1, HAT.out, HEQ.out]
        case measure => simp [intOf]; omega
      · have hx : (d1 != d2) = true := by simp [he]
        have HEQ := Lib.hid he
        clear he
        go_wp2_with (fail)
        go_quiet (fail)
        go_wp2
        go_ret
        refine ⟨?_, HK.out.trans (Kept.drewN_eq nq) fun _ _ e => e⟩
        rw [← HV.out]
        refine (ret_bool (show _ = true from ?_)).symm
        rw [Bool.not_eq_true', decide_eq_false_iff_not]
        intro e
        have h1 := HE.out
        rw [e, List.getElem?_eq_getElem hlt] at h1
        injection h1 with h1
        exact HEQ.out (by rw [← h1, ← HD2.out])
    · obtain rfl : k = b.length := by omega
      clear hkk hat
      go_wp2
      go_ret
      refine ⟨?_, HK.out⟩
      rw [← HV.out]
      refine (ret_bool (show _ = false from ?_)).symm
      rw [Bool.not_eq_false', decide_eq_true_eq]
      have h1 := HAT.out
      rw [List.take_length] at h1
      exact (show (d.drop m).take b.length = ((d.drop m).take b.length).take b.length by rw [List.take_take, Nat.min_self]).trans h1
set_option maxRecDepth 100000 in
set_option maxHeartbeats 1600000 in
theorem RTold_any (x : Cp) (A : Option Addr) (c : Nat) (w : World) (hb : BytesAt w A x.data) (hn : A = none → x.data = []) (hl : x.data.length ≤ 60000) :
    Calls Try.prog 37 #[.agg (cpC x A c)] w (ToldPost w x) := by
  have hka : Kept (fun _ => False) w ((w.alloc (.cells (cpC x A c) 44)).alloc (.cells (cpC zeroCp none 0) 44)) := ((Kept.refl _ _).alloc _).alloc _
  have HK := Lib.hid hka
  have HB := Lib.hid ((Box.new w 44 (cpC x A c)).alloc (.cells (cpC zeroCp none 0) 44))
  have HR := Lib.hid ((Box.new (w.alloc (.cells (cpC x A c) 44)) 44 (cpC zeroCp none 0)).at_eq (show _ = w.heap.size + 1 by simp))
  have HD := Lib.hid (hb.fresh hka)
  have HNN := Lib.hid hn
  clear hka hb hn
  go_enter Try.func37, Try.ntmps37
  go_upto_region 1 with (fail)
  have hzz : (w.alloc (.cells (cpC x A c) 44)).alloc (.cells #[.int .i64 0, .int .i64 0, .int .i64 0, .slice none 0 0, .int .i64 0, .bool false] 44) = (w.alloc (.cells (cpC x A c) 44)).alloc (.cells (cpC zeroCp none 0) 44) := rfl
  try rw [hzz]
  clear hzz
  generalize (w.alloc (.cells (cpC x A c) 44)).alloc (.cells (cpC zeroCp none 0) 44) = w0 at HK HB HR HD ⊢
  obtain ⟨X, hX⟩ : ∃ X, w.heap.size = X := ⟨_, rfl⟩
  have HX := Lib.hid hX
  rw [hX] at HB HR ⊢
  clear hX
  have x3 : w0.cell? ⟨X, 3, none⟩ = some (.slice A x.data.length c) := (HB.out.cell 3).trans rfl
  go_wp2_with (fail)
  refine (RTwin_any A x.data c w0 HD.out HNN.out (by omega)).mono ?_
  rintro r w1 ⟨A', c', rfl, ho, hk⟩
  have HO := Lib.hid ho
  have HB1 := Lib.hid (HB.out.kept hk id)
  have HR1 := Lib.hid (HR.out.kept hk id)
  have HK1 := Lib.hid (HK.out.trans hk fun _ _ e => e)
  have HSZ := Lib.hid (Nat.lt_of_lt_of_le HR.out.lt (Nat.le_refl w0.heap.size))
  have y3 : w1.cell? ⟨X, 3, none⟩ = some (.slice A x.data.length c) := (HB1.out.cell 3).trans rfl
  have f3 := HB1.out.frozen 3
  have HB2 := Lib.hid (show Box (w1.setCell ⟨X, 3, none⟩ (.slice A' x.data.length c')) X 44 (cpC x A' c') from HB1.out.set 3 (.slice A' x.data.length c'))
  have HR2 := Lib.hid (show Box (w1.setCell ⟨X, 3, none⟩ (.slice A' x.data.length c')) (X + 1) 44 (cpC zeroCp none 0) from HR1.out.far (p := ⟨X, 3, none⟩) (show X + 1 ≠ X by omega) _)
  have HK2 := Lib.hid ((Kept.refl (fun k => k = X) w1).at (g := X) 3 (.slice A' x.data.length c') (.inl rfl))
  clear x3 ho hk HB HR HB1 HR1 HK HD HNN
  go_wp2_with (first | (refine load_cp_box rfl _ rfl X rfl (cpC x A' c') rfl _ HB2.out ?_) | (refine wpList_store_box rfl 44 _ _ rfl (X + 1) (cpC x A' c') rfl rfl 44 (cpC zeroCp none 0) HR2.out (size_cp.trans rfl) rfl (cpC_one _ _ _) ?_; intro w4 HB4 hk4))
  refine bodyPost_ret (results_cell_row (show Try.f37.results = #[.cell 2 44] by kernel_rfl) _ _ (X + 1) 44 (cpC x A' c') (0, 0) _ rfl HB4.out Try.underlying44 rfl (size_cp.trans rfl)) rfl ?_
  have hkk : Kept (fun k => k = X ∨ k = X + 1) w1 w4 := (HK2.out.more (T := fun k => k = X ∨ k = X + 1) fun _ _ e => .inl e).trans hk4 fun _ _ e => .inr e
  have hwX := HX.out
  have hXs := HSZ.out
  refine ⟨A', c', rfl, hkk.own (own_base HO.out (by omega)) (fun k e e2 => by have := (HO.out.lt k e).1; omega), HK1.out.trans hkk fun k hk e => by omega⟩
/-- One copy more in the reference's row. -/
theorem RNetAt.push {w W : World} {p : Nat} {F : Nat → Prop} {s : Nt} {L : Option Addr} {lc : Nat} {hs : List He} (h : RNetAt w p F s L lc hs) (hlast : s.last < 100000) {f t a : Int} {b : List Int} (hby : isByte b) (hlen : b.length ≤ 60000)
    {L' : Option Addr} {lc' : Nat} {A1 A2 : Option Addr} {c1 c2 : Nat} (hk : Kept (fun k => k = p ∨ (Value.slice L hs.length lc).ownBlock = some k) w W) (hbox : Box W p 62 #[.slice L' (hs.length + 1) lc', .int .i64 ((s.last + 1 : Nat) : Int)])
    (hrow : W.ownsRow 0 79 7 (.slice L' (hs.length + 1) lc') (hs.length + 1) (hes hs ++ (He.mk ⟨s.last + 1, f, t, a, b, b, false⟩ A1 c1 A2 c2).cs.toList)) (hg : Goes w (.slice L hs.length lc) (.slice L' (hs.length + 1) lc'))
    (h1 : W.ownsRow w.heap.size 5 1 (.slice A1 b.length c1) b.length (bys b)) (h2 : W.ownsRow w.heap.size 5 1 (.slice A2 b.length c2) b.length (bys b)) : RNetPost w p F (s.add f t a b) W := by
  have hF : ∀ x ∈ hs, ∀ (y : Value) (l : List Int), w.ownsRow 0 5 1 y l.length (bys l) → ∀ k, y.ownBlock = some k → ¬ (k = p ∨ (Value.slice L hs.length lc).ownBlock = some k) := fun x _ y l ho k e => by
    rintro (e2 | e2)
    · subst e2
      exact own_box_ne ho h.box (by decide) e
    · exact own_kinds ho h.row (by decide) k e e2
  refine ⟨fun k => (F k ∨ w.heap.size ≤ k) ∧ k < W.heap.size, L', lc', hs ++ [⟨⟨s.last + 1, f, t, a, b, b, false⟩, A1, c1, A2, c2⟩], ⟨?_, ?_, ?_, ⟨.inl h.fp, hbox.lt⟩, fun k e => ?_, fun x hx => ?_, fun k e => e.2, h.ok.add f t a hby hlen, hlast⟩, fun k e => e.1, hk.more fun k _ e => ?_⟩
  · rw [List.map_append, h.tie]; rfl
  · rw [List.length_append]; exact hbox
  · rw [List.length_append, hes_snoc]; exact hrow
  · rw [List.length_append] at e
    have hlt := (hrow.lt k e).2
    rcases hg k e with e2 | e2
    · exact ⟨.inl (h.fL k e2), hlt⟩
    · exact ⟨.inr e2, hlt⟩
  · rcases List.mem_append.1 hx with hx | hx
    · have ha := h.ats x hx
      have q1 := hF x hx x.dV x.c.data ha.d
      have q2 := hF x hx x.cV x.c.clean ha.cl
      exact ⟨hk.own ha.d q1, hk.own ha.cl q2, fun k e => ⟨.inl (ha.Fd k e), Nat.lt_of_lt_of_le (h.lt k (ha.Fd k e)) hk.size⟩, fun k e => ⟨.inl (ha.Fc k e), Nat.lt_of_lt_of_le (h.lt k (ha.Fc k e)) hk.size⟩⟩
    · rw [List.mem_singleton] at hx
      subst hx
      exact ⟨own_base h1 (Nat.zero_le _), own_base h2 (Nat.zero_le _), fun k e => ⟨.inr (h1.lt k e).1, (h1.lt k e).2⟩, fun k e => ⟨.inr (h2.lt k e).1, (h2.lt k e).2⟩⟩
  · rcases e with e | e
    · subst e; exact h.fp
    · exact h.fL k e
theorem info_held : (Try.prog.info? 79).map (fun i => (i.zero, i.size, i.bytes)) = some (some (.agg #[.int .i64 0, .int .i64 0, .int .i64 0, .slice none 0 0, .int .i64 0, .bool false, .slice none 0 0]), 7, 88) := by kernel_rfl
theorem eltHeld : Elt Try.prog 60 79 7 88 := .of Try.underlying60 info_held rfl (by decide) (by decide)
end Go.Proofs.Ytopcogogpbcbhaa
