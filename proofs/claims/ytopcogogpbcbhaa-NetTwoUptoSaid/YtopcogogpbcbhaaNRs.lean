/- The walks of the reference's Send, Double. Conditions: the bytes and the network lie in memory. -/
import Derived.Test.YtopcogogpbcbhaaNRm
namespace Go.Proofs.Ytopcogogpbcbhaa
open Go Go.RowKit

variable {w : World} {p : Nat} {F : Nat → Prop} {s : Nt} {L : Option Addr} {lc : Nat} {hs : List He} in
theorem RNetAt.len (h : RNetAt w p F s L lc hs) : hs.length = s.l.length := by rw [← h.tie, List.length_map]
variable {w : World} {p : Nat} {F : Nat → Prop} {s : Nt} {L : Option Addr} {lc : Nat} {hs : List He} in
theorem RNetAt.small (h : RNetAt w p F s L lc hs) : hs.length ≤ 1000000 := by have := h.ok.count; have := h.len; have := h.last; omega
variable {w w' : World} {p : Nat} {F : Nat → Prop} {s : Nt} {L : Option Addr} {lc : Nat} {hs : List He} in
theorem RNetAt.stay (h : RNetAt w p F s L lc hs) (hk : Kept (fun _ => False) w w') : RNetPost w p F s w' := ⟨F, L, lc, hs, h.fresh hk, fun _ e => .inl e, hk.more fun _ _ e => e.elim⟩
variable {w w' w1 : World} {p : Nat} {F : Nat → Prop} {s : Nt} in
theorem RNetPost.from_ (hk : Kept (fun _ => False) w w1) (h : RNetPost w1 p F s w') : RNetPost w p F s w' := by
  obtain ⟨F', L, lc, hs, h1, h2, h3⟩ := h
  exact ⟨F', L, lc, hs, h1, fun k e => (h2 k e).imp id fun e => Nat.le_trans hk.size e, (hk.more fun _ _ e => e.elim).trans h3 fun _ _ e => e⟩
variable {w : World} {p : Nat} {F : Nat → Prop} {s : Nt} {L : Option Addr} {lc : Nat} {hs : List He} in
/-- Bytes that the network itself owns lie apart from its box and row. -/
theorem RNetAt.far (h : RNetAt w p F s L lc hs) {A : Option Addr} {n c : Nat} {xs : List Value} (ho : w.ownsRow 0 5 1 (.slice A n c) n xs) : (∀ ad, A = some ad → ad.block ≠ p) ∧ ∀ ad, A = some ad → (Value.slice L hs.length lc).ownBlock ≠ some ad.block := by
  constructor
  · rintro ad rfl e
    exact own_box_ne ho h.box (by decide) (by rw [← e]; rfl)
  · rintro ad rfl e
    exact own_kinds ho h.row (by decide) ad.block rfl e
set_option maxRecDepth 100000 in
set_option maxHeartbeats 3200000 in
theorem RSend_any (p : Nat) (F : Nat → Prop) (s : Nt) (L : Option Addr) (lc : Nat) (hs : List He) (w : World) (h : RNetAt w p F s L lc hs) (hlast : s.last < 100000) (f t a : Int) (A : Option Addr) (b : List Int) (c : Nat)
    (hb : ∀ W, Kept (fun k => k = p ∨ (Value.slice L hs.length lc).ownBlock = some k) w W → BytesAt W A b) (hn : A = none → b = []) (hby : isByte b) (hlen : b.length ≤ 60000) :
    Calls Try.prog 28 #[.pointer (some ⟨p, 0, none⟩), .int .i64 f, .int .i64 t, .slice A b.length c, .int .i64 a] w (fun r w' => r = .returned (.tuple #[.int .i64 (s.send f t a b).1.1, .int .i64 (s.send f t a b).1.2]) ∧ RNetPost w p F (s.send f t a b).2 w') := by
  have HM := Lib.hid (RMore_any p F s L lc hs w h hlast h.small f t a A b c hb hn hby hlen)
  have HY := Lib.hid (show okSend f t a = true → s.send f t a b = ((((s.last + 1 : Nat) : Int), 0), s.add f t a b) from fun e => by unfold Nt.send; rw [if_pos e])
  have HNO := Lib.hid (show okSend f t a = false → s.send f t a b = ((0, 1), s) from fun e => Nt.send_no e)
  have HZ := Lib.hid (h.stay (Kept.refl _ w))
  have HF := Lib.hid (fun W => RSite_any f W)
  have HT := Lib.hid (fun W => RSite_any t W)
  have HOK := Lib.hid (show okSend f t a = (siteB f && siteB t && !decide (f = t) && !decide (a < 0)) from by
    unfold okSend siteB
    rw [Bool.eq_iff_iff]
    simp only [decide_eq_true_eq, Bool.and_eq_true, Bool.not_eq_true', decide_eq_false_iff_not]
    omega)
  obtain ⟨b1, hb1⟩ : ∃ b1, siteB f = b1 := ⟨_, rfl⟩
  obtain ⟨b2, hb2⟩ : ∃ b2, siteB t = b2 := ⟨_, rfl⟩
  rw [hb1] at HF HOK
  rw [hb2] at HT HOK
  clear hb1 hb2 h hb hn hby
  cases b1 with
  | false =>
    as_aux_lemma =>
    have hno := HNO.out (by rw [HOK.out]; rfl)
    rw [hno]
    have HNN := Lib.hid hno
    clear hno HNO HY HM HOK
    go_enter Try.func28, Try.ntmps28
    go_wp2_with (fail)
    refine (HF.out w).mono ?_
    rintro r w1 ⟨rfl, e9⟩
    have e9 := e9.symm
    subst e9
    go_wp2_with (fail)
    go_ret2
    exact ⟨rfl, HZ.out⟩
  | true =>
  cases b2 with
  | false =>
    as_aux_lemma =>
    have hno := HNO.out (by rw [HOK.out]; rfl)
    rw [hno]
    have HNN := Lib.hid hno
    clear hno HNO HY HM HOK
    go_enter Try.func28, Try.ntmps28
    go_wp2_with (fail)
    refine (HF.out w).mono ?_
    rintro r w1 ⟨rfl, e9⟩
    have e9 := e9.symm
    subst e9
    go_wp2_with (fail)
    refine (HT.out w).mono ?_
    rintro r w1 ⟨rfl, e9⟩
    have e9 := e9.symm
    subst e9
    go_wp2_with (fail)
    go_ret2
    exact ⟨rfl, HZ.out⟩
  | true =>
  by_cases h3 : f = t
  · as_aux_lemma =>
    have d3 : (f == t) = true := beq_iff_eq.2 h3
    have H3 := Lib.hid h3
    clear h3
    have hno := HNO.out (by rw [HOK.out, decide_eq_true H3.out]; rfl)
    rw [hno]
    have HNN := Lib.hid hno
    clear hno HNO HY HM HOK
    go_enter Try.func28, Try.ntmps28
    go_wp2_with (fail)
    refine (HF.out w).mono ?_
    rintro r w1 ⟨rfl, e9⟩
    have e9 := e9.symm
    subst e9
    go_wp2_with (fail)
    refine (HT.out w).mono ?_
    rintro r w1 ⟨rfl, e9⟩
    have e9 := e9.symm
    subst e9
    go_wp2_with (fail)
    go_ret2
    exact ⟨rfl, HZ.out⟩
  have d3 : (f == t) = false := beq_eq_false_iff_ne.mpr h3
  have H3 := Lib.hid h3
  clear h3
  by_cases h4 : a < 0
  · as_aux_lemma =>
    have H4 := Lib.hid h4
    have hno := HNO.out (by rw [HOK.out, decide_eq_false H3.out, decide_eq_true H4.out]; rfl)
    rw [hno]
    have HNN := Lib.hid hno
    clear hno HNO HY HM HOK
    go_enter Try.func28, Try.ntmps28
    go_wp2_with (fail)
    refine (HF.out w).mono ?_
    rintro r w1 ⟨rfl, e9⟩
    have e9 := e9.symm
    subst e9
    go_wp2_with (fail)
    refine (HT.out w).mono ?_
    rintro r w1 ⟨rfl, e9⟩
    have e9 := e9.symm
    subst e9
    go_wp2_with (fail)
    go_ret2
    exact ⟨rfl, HZ.out⟩
  have H4 := Lib.hid h4
  have hy := HY.out (by rw [HOK.out, decide_eq_false H3.out, decide_eq_false H4.out]; rfl)
  rw [hy]
  clear hy HY HNO HOK
  go_enter Try.func28, Try.ntmps28
  go_wp2_with (fail)
  refine (HF.out w).mono ?_
  rintro r w1 ⟨rfl, e9⟩
  have e9 := e9.symm
  subst e9
  go_wp2_with (fail)
  refine (HT.out w).mono ?_
  rintro r w1 ⟨rfl, e9⟩
  have e9 := e9.symm
  subst e9
  go_wp2_with (fail)
  refine HM.out.mono ?_
  rintro r w1 ⟨rfl, hp⟩
  have HP := Lib.hid hp
  clear hp
  go_wp2_with (fail)
  go_ret2
  exact ⟨rfl, HP.out⟩
theorem und_held : ∃ d, Try.prog.underlying 79 = some d ∧ d.isRow = true := ⟨.struct (Try.prog.fieldsOf 79), by kernel_rfl, rfl⟩
theorem size_held : (Try.prog.info? 79).map (·.size) = some 7 := by kernel_rfl
theorem und_cp : ∃ d, Try.prog.underlying 44 = some d ∧ d.isRow = true := ⟨.struct (Try.prog.fieldsOf 44), by kernel_rfl, rfl⟩
/-- Some cells of a row, loaded as one value. -/
theorem load_part {w : World} {ops : Array Oper} {rest : List Oper} {o : Oper} {a : Act} {Q : Exit → Act → World → Prop} (hgd : o.guard = none) (τ : TypeId) (x : Operand) (ho : o.op = .load τ x) (g off : Nat) (hx : a.eval x = .pointer (some ⟨g, off, none⟩)) {base n c z : Nat} {e : TypeId} {xs : List Value}
    (hr : w.ownsRow base e z (.slice (some ⟨g, 0, none⟩) n c) n xs) (cs : Array Value) (hu : ∃ d, Try.prog.underlying τ = some d ∧ d.isRow = true) (hs : (Try.prog.info? τ).map (·.size) = some cs.size) (hcs : ∀ j, j < cs.size → xs[off + j]? = cs[j]?)
    (h : wpList Try.prog ops Q rest (a.put o.dst (.agg cs)) w) : wpList Try.prog ops Q (o :: rest) a w := by
  obtain ⟨d, hu, hd⟩ := hu
  refine wpList_load_mid hgd _ x ho g off hx cs.toList d (fun j v hj => ?_) hu hd (by rw [Array.length_toList]; exact hs) ?_
  · have hj' : j < cs.size := by
      have := (List.getElem?_eq_some_iff.1 hj).1
      rwa [Array.length_toList] at this
    have := hr.cells (g := g) rfl (off + j) v (by rw [hcs j hj']; simpa using hj)
    rwa [add_none] at this
  · rw [Array.toArray_toList]
    exact h
theorem he_part {l : List He} {k : Nat} (h : k < l.length) {x : He} (hx : l[k] = x) : (∀ j, j < x.cs.size → (hes l)[k * 7 + j]? = x.cs[j]?) ∧ ∀ j, j < (cpC x.c x.dA x.dc).size → (hes l)[k * 7 + j]? = (cpC x.c x.dA x.dc)[j]? := by
  subst hx
  constructor
  · intro j hj
    rw [hes_get l k h j hj]
    simp
  · intro j hj
    have hj6 : j < 6 := hj
    rw [hes_get l k h j (by omega)]
    have e : (l[k].cs).toList = (cpC l[k].c l[k].dA l[k].dc).toList ++ [l[k].cV] := rfl
    rw [e, List.getElem?_append_left (by rw [Array.length_toList]; exact hj)]
    simp
set_option maxRecDepth 100000 in
set_option maxHeartbeats 3200000 in
theorem RDouble_any (p : Nat) (F : Nat → Prop) (s : Nt) (L : Option Addr) (lc : Nat) (hs : List He) (w : World) (h : RNetAt w p F s L lc hs) (hlast : s.last < 100000) (n : Int) :
    Calls Try.prog 31 #[.pointer (some ⟨p, 0, none⟩), .int .i64 n] w (fun r w' => r = .returned (.tuple #[.int .i64 (s.double n).1.1, .int .i64 (s.double n).1.2]) ∧ RNetPost w p F (s.double n).2 w') := by
  have HZ := Lib.hid h
  have HY := Lib.hid (show ∀ c, s.get n = some c → s.double n = ((((s.last + 1 : Nat) : Int), 0), s.add c.src c.dst c.sent c.clean) from fun c e => by unfold Nt.double; rw [e])
  have HNO := Lib.hid (show s.get n = none → s.double n = ((0, 11), s) from fun e => by unfold Nt.double; rw [e])
  have HPL := Lib.hid (RPlace_any p F s L lc hs w h h.small n)
  clear h
  obtain ⟨z, hz⟩ : ∃ z, s.double n = z := ⟨_, rfl⟩
  rw [hz] at HY HNO ⊢
  clear hz
  go_enter Try.func31, Try.ntmps31
  go_wp2_with (fail)
  refine HPL.out.mono ?_
  rintro r w1 ⟨hk, ⟨rfl, hg⟩ | ⟨j, hj, rfl, hg⟩⟩
  · have HE := Lib.hid (HNO.out hg)
    have HS := Lib.hid (HZ.out.stay hk)
    clear hk hg HY HNO
    go_wp2_with (fail)
    go_ret2
    exact ⟨by rw [HE.out]; rfl, by rw [HE.out]; exact HS.out⟩
  · have HE := Lib.hid (HY.out _ hg)
    have HZ1 := Lib.hid (HZ.out.fresh hk)
    have HK := Lib.hid hk
    have hjl : j < hs.length := by rw [HZ.out.len]; exact hj
    have hxc := he_map HZ.out.tie hjl hj
    obtain ⟨x, hx⟩ : ∃ x, hs[j] = x := ⟨_, rfl⟩
    have HXM := Lib.hid (show x ∈ hs by rw [← hx]; exact List.getElem_mem hjl)
    have HPT := Lib.hid (he_part hjl hx).1
    rw [hx] at hxc
    rw [← hxc] at HE
    have HBY := Lib.hid (show isByte x.c.clean ∧ x.c.clean.length ≤ 60000 from by
      rw [hxc]
      exact ⟨(HZ.out.ok.by_ _ (List.getElem_mem hj)).1, (HZ.out.ok.len _ (List.getElem_mem hj)).1⟩)
    obtain ⟨g, e1, -, -, -⟩ := own_cells HZ1.out.row (by omega)
    subst e1
    have hj0 : (0 : Int) ≤ (j : Int) := by omega
    have hji : (j : Int) < (hs.length : Int) := by omega
    have hjn : ¬ (j : Int) < 0 := by omega
    have x0 : w1.cell? ⟨p, 0, none⟩ = some (.slice (some ⟨g, 0, none⟩) hs.length lc) := (HZ1.out.box.cell 0).trans rfl
    have HN := Lib.hid (Box.new w1 79 #[.int .i64 0, .int .i64 0, .int .i64 0, .slice none 0 0, .int .i64 0, .bool false, .slice none 0 0])
    obtain ⟨xc, xdA, xdc, xcA, xcc⟩ := x
    obtain ⟨x1, x2, x3, x4, x5, x6, x7⟩ := xc
    simp only at HE HBY HXM HPT
    clear hk hg hj hx hxc HY HNO HPL
    go_wp2_with (first | (refine load_part rfl 79 _ rfl g (j * 7) rfl HZ1.out.row #[.int .i64 x1, .int .i64 x2, .int .i64 x3, .slice xdA x6.length xdc, .int .i64 x4, .bool x7, .slice xcA x5.length xcc] und_held size_held HPT.out ?_) | (refine wpList_store_box rfl 79 _ _ rfl w1.heap.size #[.int .i64 x1, .int .i64 x2, .int .i64 x3, .slice xdA x6.length xdc, .int .i64 x4, .bool x7, .slice xcA x5.length xcc] rfl rfl 79 _ HN.out size_held rfl (by kernel_rfl) ?_))
    intro w2 HB2 hk2
    have hk2' : Kept (fun _ => False) w1 w2 := ((Kept.refl _ w1).alloc _).trans hk2 fun j hj e => by omega
    have HZ2 := Lib.hid (HZ1.out.fresh hk2')
    have HK2 := Lib.hid (HK.out.trans hk2' fun _ _ e => e)
    obtain ⟨X, hX⟩ : ∃ X, w1.heap.size = X := ⟨_, rfl⟩
    rw [hX] at HB2 ⊢
    have ha := HZ2.out.ats _ HXM.out
    have hfar := HZ2.out.far ha.cl
    have HMO := Lib.hid (RMore_any p F s _ lc hs w2 HZ2.out hlast HZ2.out.small x2 x3 x4 xcA x5 xcc (fun W hk => (BytesAt.of_own ha.cl).kept hk fun ad e e2 => e2.elim (fun e2 => hfar.1 ad e e2) fun e2 => hfar.2 ad e e2) (own_noneNil ha.cl) HBY.out.1 HBY.out.2)
    have y1 : w2.cell? ⟨X, 1, none⟩ = some (.int .i64 x2) := (HB2.out.cell 1).trans rfl
    have y2 : w2.cell? ⟨X, 2, none⟩ = some (.int .i64 x3) := (HB2.out.cell 2).trans rfl
    have y4 : w2.cell? ⟨X, 4, none⟩ = some (.int .i64 x4) := (HB2.out.cell 4).trans rfl
    have y6 : w2.cell? ⟨X, 6, none⟩ = some (.slice xcA x5.length xcc) := (HB2.out.cell 6).trans rfl
    clear hk2 hk2' hX ha hfar HN x0
    go_wp2_with (fail)
    refine HMO.out.mono ?_
    rintro r w3 ⟨rfl, hp⟩
    have HP := Lib.hid (RNetPost.from_ HK2.out hp)
    clear hp HMO y1 y2 y4 y6
    go_wp2_with (fail)
    go_ret2
    exact ⟨by rw [HE.out]; rfl, by rw [HE.out]; exact HP.out⟩
end Go.Proofs.Ytopcogogpbcbhaa
