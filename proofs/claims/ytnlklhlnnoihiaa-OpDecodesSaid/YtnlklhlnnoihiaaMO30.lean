/- The elements of byte slices and of vectors. · The reference's Writer and Reader, by value: the walks of its Number, Read, Left, TakeNumber. Conditions: the bytes lie in memory as BytesAt says. -/
import Derived.Test.YtnlklhlnnoihiaaMO18
import Derived.Test.YtnlklhlnnoihiaaMO5
import Derived.Test.YtnlklhlnnoihiaaMO17
import Derived.StillTailTactics
namespace Go.Proofs.Ytnlklhlnnoihiaa
open Go.RowKit

theorem eltDts : Elt Try.prog 25 23 2 16 := .of Try.underlying25 info_dot rfl (by decide) (by decide)
theorem eltBytes : Elt Try.prog 41 5 1 1 := .of Try.underlying41 info_byte rfl (by decide) (by decide)
end Go.Proofs.Ytnlklhlnnoihiaa

namespace Go.Proofs.Ytnlklhlnnoihiaa
open Go.RowKit

/-- Bytes in memory, nil only if there are none. -/
structure RB (w : World) (A : Option Addr) (l : List Int) (c : Nat) : Prop where
  at_ : BytesAt w A l
  nil : A = none → c = 0
theorem RB.fresh {w w' : World} {A : Option Addr} {l : List Int} {c : Nat} (h : RB w A l c) (hk : Kept (fun _ => False) w w') : RB w' A l c := ⟨h.at_.fresh hk, h.nil⟩
theorem RB.none' {w : World} {A : Option Addr} {l : List Int} {c : Nat} (h : RB w A l c) : A = none → l.length = 0 ∧ c = 0 := by
  rintro rfl
  refine ⟨?_, h.nil rfl⟩
  rcases Nat.eq_zero_or_pos l.length with h0 | h0
  · exact h0
  · obtain ⟨ad, e, _⟩ := h.at_ 0 h0
    cases e
theorem RB.cells {w : World} {A : Option Addr} {l : List Int} {c : Nat} (h : RB w A l c) : ∀ j u, (bys l)[j]? = some u → ∃ ad, A = some ad ∧ w.cell? (ad.add j) = some u := by
  intro j u hj
  have hlt : j < (bys l).length := (List.getElem?_eq_some_iff.1 hj).1
  rw [bys_len] at hlt
  obtain ⟨ad, e, h0⟩ := h.at_ j hlt
  exact ⟨ad, e, by rw [h0, ← bys_get l j hlt, hj]⟩
theorem RB.of_own {w : World} {base : Nat} {A : Option Addr} {l : List Int} {c : Nat} (h : w.ownsRow base 5 1 (.slice A l.length c) l.length (bys l)) : RB w A l c := ⟨BytesAt.of_own h, fun e => by
  subst e
  rcases Go.Joins.ownsRow_forms h with ⟨e, _⟩ | ⟨g, cap, e⟩
  · injection e
  · injection e with e
    cases e⟩
/-- A Writer's value. -/
def wrV (A : Option Addr) (l : List Int) (c : Nat) (e : Int) : Array Value := #[.slice A l.length c, .int .i64 e]
/-- Where bytes lie behind a step from w: they are as they were, or new. -/
def Lies (N : Nat) (A0 : Option Addr) (l0 : List Int) (A : Option Addr) (l : List Int) : Prop := (A = A0 ∧ l = l0) ∨ ∀ a, A = some a → N ≤ a.block
theorem Lies.less {N M : Nat} {A0 : Option Addr} {l0 : List Int} {A : Option Addr} {l : List Int} (h : Lies N A0 l0 A l) (hm : M ≤ N) : Lies M A0 l0 A l := h.imp_right fun h a ha => Nat.le_trans hm (h a ha)
theorem Lies.trans {N : Nat} {A0 A1 A2 : Option Addr} {l0 l1 l2 : List Int} (h : Lies N A0 l0 A1 l1) (h' : Lies N A1 l1 A2 l2) : Lies N A0 l0 A2 l2 := by
  rcases h' with ⟨rfl, rfl⟩ | h'
  · exact h
  · exact .inr h'
theorem Lies.of_own {N : Nat} {w1 : World} {A0 : Option Addr} {l0 : List Int} {base : Nat} {A : Option Addr} {l : List Int} {c n : Nat} {xs : List Value} {e : TypeId} (h : w1.ownsRow base e 1 (.slice A n c) n xs) (hb : N ≤ base) : Lies N A0 l0 A l := .inr fun a ha => by
  subst ha
  have := (h.lt a.block rfl).1
  omega
def RWPost (w : World) (A0 : Option Addr) (l0 : List Int) (l : List Int) (e : Int) (r : Ending) (w' : World) : Prop := ∃ A c, r = .returned (.agg (wrV A l c e)) ∧ RB w' A l c ∧ Lies w.heap.size A0 l0 A l ∧ Kept (fun _ => False) w w'
theorem wrV_one (A : Option Addr) (l : List Int) (c : Nat) (e : Int) : (wrV A l c e).all (·.oneCell') = true := by simp [wrV, Value.oneCell']
theorem size_RW : (Try.prog.info? 75).map (·.size) = some 2 := by kernel_rfl

theorem RWPost.ret {w w' : World} {A0 : Option Addr} {l0 l : List Int} {e : Int} {A : Option Addr} {c g : Nat} {a : Act} (hb : Box w' g 75 (wrV A l c e)) (hr : RB w' A l c) (hL : Lies w.heap.size A0 l0 A l) (hk : Kept (fun _ => False) w w') (ha : a.tmps.getD 4 undef = .pointer (some ⟨g, 0, none⟩)) (hd : a.defers = []) :
    bodyPost Try.prog Try.f39 (RWPost w A0 l0 l e) Exit.ret a w' :=
  bodyPost_ret (results_cell_row (show Try.f39.results = #[.cell 4 75] by kernel_rfl) _ _ g 75 (wrV A l c e) (0, 0) _ ha hb Try.underlying75 rfl (size_RW.trans rfl)) hd ⟨A, c, rfl, hr, hL, hk⟩
/-- what is laid so far of the number n: m is left -/
def RNumAt (w : World) (A : Option Addr) (l : List Int) (c n m : Nat) (v : Value) (wr : World) : Prop :=
  ∃ l', wr.ownsRow w.heap.size 5 1 v l'.length (bys l') ∧ l' ++ enc m = l ++ enc n ∧ Box wr w.heap.size 75 (wrV A l c 0) ∧ Box wr (w.heap.size + 1) 75 (wrV none [] 0 0) ∧ Kept (fun _ => False) w wr

set_option maxHeartbeats 1600000 in
set_option maxRecDepth 100000 in
theorem RWNum_any (A : Option Addr) (l : List Int) (c : Nat) (e v : Int) (w : World) (h : RB w A l c) (hl : l.length ≤ 1000000) (hv : v ≤ 9223372036854775807) :
    Calls Try.prog 39 #[.agg #[.slice A l.length c, .int .i64 e], .int .i64 v] w (RWPost w A l (wrB l e v) (wrE e v)) := by
  have H := Lib.hid h
  have HK2 := Lib.hid (((Kept.refl (fun _ => False) w).alloc (.cells #[.slice A l.length c, .int .i64 e] 75)).alloc (.cells #[.slice none 0 0, .int .i64 0] 75))
  have HB1 := Lib.hid ((Box.new w 75 #[.slice A l.length c, .int .i64 e]).alloc (.cells #[.slice none 0 0, .int .i64 0] 75))
  have HB2 := Lib.hid ((Box.new (w.alloc (.cells #[.slice A l.length c, .int .i64 e] 75)) 75 #[.slice none 0 0, .int .i64 0]).at_eq (show _ = w.heap.size + 1 by simp))
  clear h
  by_cases he : e = 0
  · subst he
    by_cases hn : v < 0
    · have HW := Lib.hid (wr_neg (l := l) hn)
      go_enter Try.func39, Try.ntmps39
      go_wp2
      refine RWPost.ret (A := A) (c := c) (g := w.heap.size + 1) ?_ ?_ (.inl ⟨rfl, HW.out.1⟩) (((Kept.refl _ _).alloc _).alloc _) rfl rfl
      · rw [HW.out.1, HW.out.2]
        exact (Box.new (w.alloc (.cells #[.slice A l.length c, .int .i64 1] 75)) 75 #[.slice A l.length c, .int .i64 1]).at_eq (by simp)
      · rw [HW.out.1]
        exact H.out.fresh (((Kept.refl _ _).alloc _).alloc _)
    · obtain ⟨n, rfl⟩ : ∃ n : Nat, v = n := ⟨v.toNat, by omega⟩
      clear hn
      have HW := Lib.hid (wr_ok (l := l) (v := n))
      go_enter Try.func39, Try.ntmps39
      go_wp2_with (at_builtin; refine wpList_append_copy eltBytes rfl (.tmp 14) (.tmp 16) rfl rfl A l.length c (bys l) rfl ?c0 (by rw [bys_len]; omega) ?c1 (bys_one l) (by omega) ?_)
      case c0 => exact (H.out.fresh HK2.out).none'
      case c1 => exact (H.out.fresh HK2.out).cells
      intro A1 c1 w1 HO1 HK1
      have HAT := Lib.hid (show RNumAt w A l c n n (.slice A1 l.length c1) w1 from ⟨l, own_base HO1.out (by omega), rfl, HB1.out.kept HK1.out id, HB2.out.kept HK1.out id, HK2.out.trans HK1.out fun _ _ e => e⟩)
      clear HO1 HK1 HB1 HB2 HK2
      go_wp2_with (fail)
      go_loopw [1, 5] (fun u b wr => ∃ m : Nat, u = .int .i64 m ∧ m ≤ n ∧ RNumAt w A l c n m b wr) (fun u _ _ => (intOf u).toNat)
      case atStart => exact ⟨n, rfl, Nat.le_refl _, HAT.out⟩
      case round =>
        clear HAT
        obtain ⟨m, rfl, hm, l', ho, heq, hb1, hb2, hk⟩ := hrel
        obtain ⟨A', c', rfl⟩ := own_shape ho
        have HO := Lib.hid ho
        have HE := Lib.hid heq
        have HB1 := Lib.hid hb1
        have HB2 := Lib.hid hb2
        have HK := Lib.hid hk
        have hll := num_len HE.out hv
        have hsz := hk.size
        clear ho heq hb1 hb2 hk
        by_cases hlt : 128 ≤ m
        · have hmm : ((m : Int) % 128 + 128) % 256 = (m : Int) % 128 + 128 := by omega
          go_wp2_with (at_builtin; refine wpList_append_new eltBytes rfl (.tmp 20) (.tmp 25) rfl w.heap.size _ l'.length (bys l') rfl HO.out 1 1 rfl rfl rfl (by omega) hsz ?_)
          intro A2 c2 w2 HO2 HK2 _
          clear hmm
          go_wp2
          go_roundw
          case rel =>
            refine ⟨m / 128, by go_num, by omega, l' ++ [(m : Int) % 128 + 128], ?_, ?_, ?_, ?_, ?_⟩
            · have := HO2.out
              simpa [bys] using this
            · have := HE.out
              rw [enc_big (show ¬ m < 128 by omega)] at this
              simpa using this
            · exact HB1.out.kept HK2.out fun e => own_box_ne HO.out HB1.out (by decide) e
            · exact HB2.out.kept HK2.out fun e => own_box_ne HO.out HB2.out (by decide) e
            · exact HK.out.trans HK2.out fun k hk e => by have := (HO.out.lt k e).1; omega
          case measure => simp [intOf]; omega
        · have hmm : (m : Int) % 256 = m := by omega
          have HS := Lib.hid (enc_small (show m < 128 by omega))
          go_wp2_with (at_builtin; refine wpList_append_new eltBytes rfl (.tmp 29) (.tmp 32) rfl w.heap.size _ l'.length (bys l') rfl HO.out 1 1 rfl rfl rfl (by omega) hsz ?_)
          intro A2 c2 w2 HO2 HK2 _
          have HB1' := Lib.hid (HB1.out.kept HK2.out fun e => own_box_ne HO.out HB1.out (by decide) e)
          have HB2' := Lib.hid (HB2.out.kept HK2.out fun e => own_box_ne HO.out HB2.out (by decide) e)
          have x0 : w2.cell? ⟨w.heap.size, 0, none⟩ = some (.slice A l.length c) := by simpa [wrV] using HB1'.out.cell 0
          have x1 : w2.cell? ⟨w.heap.size, 1, none⟩ = some (.int .i64 0) := by simpa [wrV] using HB1'.out.cell 1
          have f0 : w2.frozen? ⟨w.heap.size, 0, none⟩ = false := HB1'.out.frozen 0
          have y0 : w2.cell? ⟨w.heap.size + 1, 0, none⟩ = some (.slice none 0 0) := by simpa [wrV] using HB2'.out.cell 0
          have y1 : w2.cell? ⟨w.heap.size + 1, 1, none⟩ = some (.int .i64 0) := by simpa [wrV] using HB2'.out.cell 1
          have g0 : w2.frozen? ⟨w.heap.size + 1, 0, none⟩ = false := HB2'.out.frozen 0
          have g1 : w2.frozen? ⟨w.heap.size + 1, 1, none⟩ = false := HB2'.out.frozen 1
          clear hmm
          go_wp2
          have hkk : Kept (fun k => k = w.heap.size ∨ k = w.heap.size + 1) w2 (((w2.setCell ⟨w.heap.size, 0, none⟩ (.slice A2 (l'.length + 1) c2)).setCell ⟨w.heap.size + 1, 0, none⟩ (.slice A2 (l'.length + 1) c2)).setCell ⟨w.heap.size + 1, 1, none⟩ (.int .i64 0)) :=
            (((Kept.refl _ _).at 0 _ (.inl (.inl rfl))).at 0 _ (.inl (.inr rfl))).at 1 _ (.inl (.inr rfl))
          have hrow := hkk.own HO2.out fun k e hs => by
            rcases hs with rfl | rfl
            · exact own_box_ne HO2.out HB1'.out (by decide) e
            · exact own_box_ne HO2.out HB2'.out (by decide) e
          refine RWPost.ret (A := A2) (c := c2) (g := w.heap.size + 1) ?_ ?_ (Lies.of_own hrow (Nat.le_refl _)) ?_ rfl rfl
          · rw [HW.out.1, HW.out.2, ← HE.out, HS.out]
            have := ((HB2'.out.far (p := ⟨w.heap.size, 0, none⟩) (by show w.heap.size + 1 ≠ w.heap.size; omega) (.slice A2 (l'.length + 1) c2)).set 0 (.slice A2 (l'.length + 1) c2)).set 1 (.int .i64 0)
            simpa [wrV] using this
          · rw [HW.out.1, ← HE.out, HS.out]
            refine RB.of_own (base := w.heap.size) ?_
            simpa [bys] using hrow
          · exact (HK.out.trans HK2.out fun k hk e => by have := (HO.out.lt k e).1; omega).trans hkk fun k hk e => by omega
  · have HW := Lib.hid (wr_err (l := l) (v := v) he)
    have e1 : (e != 0) = true := by simp [he]
    clear he
    go_enter Try.func39, Try.ntmps39
    go_wp2
    refine RWPost.ret (A := A) (c := c) (g := w.heap.size + 1) ?_ ?_ (.inl ⟨rfl, HW.out.1⟩) (((Kept.refl _ _).alloc _).alloc _) rfl rfl
    · rw [HW.out.1, HW.out.2]
      exact (Box.new (w.alloc (.cells #[.slice A l.length c, .int .i64 e] 75)) 75 #[.slice A l.length c, .int .i64 e]).at_eq (by simp)
    · rw [HW.out.1]
      exact H.out.fresh (((Kept.refl _ _).alloc _).alloc _)

theorem RB.kept {S : Nat → Prop} {w w' : World} {A : Option Addr} {l : List Int} {c : Nat} (h : RB w A l c) (hk : Kept S w w') (hA : l ≠ [] → ∀ a, A = some a → ¬ S a.block) : RB w' A l c := by
  refine ⟨?_, h.nil⟩
  rcases l with _ | ⟨b, l⟩
  · exact BytesAt.nil
  · exact h.at_.kept hk (hA (by simp))
theorem RB.block_lt {w : World} {A : Option Addr} {l : List Int} {c : Nat} (h : RB w A l c) (hl : l ≠ []) : ∀ a, A = some a → a.block < w.heap.size := by
  rintro a rfl
  obtain ⟨ad, e, h0⟩ := h.at_ 0 (List.length_pos_iff.2 hl)
  injection e with e
  subst e
  have := World.block_lt_of_cell? w _ h0
  have hb : (a.add 0).block = a.block := by unfold Addr.add; split <;> rfl
  rwa [hb] at this

/-- The reference's Writer in block g, gone on from; what it began with: A0, l0. -/
structure RPAt (w : World) (g : Nat) (A0 : Option Addr) (l0 l : List Int) (e : Int) (wr : World) : Prop where
  box : ∃ A c, Box wr g 75 (wrV A l c e) ∧ RB wr A l c ∧ Lies (g + 2) A0 l0 A l
  res : Box wr (g + 1) 75 (wrV none [] 0 0)
  old : l0 ≠ [] → ∀ a, A0 = some a → a.block < g
  k : Kept (fun _ => False) w wr
  ge : w.heap.size ≤ g
theorem RPAt.fresh {w : World} {g : Nat} {A0 : Option Addr} {l0 l : List Int} {e : Int} {w1 w2 : World} (h : RPAt w g A0 l0 l e w1) (hk : Kept (fun _ => False) w1 w2) : RPAt w g A0 l0 l e w2 := by
  obtain ⟨A, c, hb, hr, hn⟩ := h.box
  exact ⟨⟨A, c, hb.kept hk id, hr.fresh hk, hn⟩, h.res.kept hk id, h.old, h.k.trans hk fun _ _ e => e, h.ge⟩
theorem RPAt.off {g : Nat} {A0 A : Option Addr} {l0 l : List Int} (h0 : l0 ≠ [] → ∀ a, A0 = some a → a.block < g) (h : Lies (g + 2) A0 l0 A l) (hl : l ≠ []) : ∀ a, A = some a → ¬ (a.block = g ∨ a.block = g + 1) := by
  intro a ha
  rcases h with ⟨rfl, rfl⟩ | h
  · have := h0 hl a ha; omega
  · have := h a ha; omega
theorem RPAt.left {w : World} {g : Nat} {A0 A1 A : Option Addr} {l0 l l' : List Int} {e : Int} {c : Nat} {w1 w2 w3 : World} (h : RPAt w g A0 l0 l e w1) (h1 : Lies (g + 2) A0 l0 A1 l) (hr : RB w2 A l' c) (hL : Lies w1.heap.size A1 l A l')
    (hk3 : Kept (fun k => k = g) w2 w3) : Lies (g + 2) A0 l0 A l' ∧ RB w3 A l' c := by
  have hs : g + 2 ≤ w1.heap.size := by have := h.res.lt; omega
  have hL2 := h1.trans (hL.less hs)
  exact ⟨hL2, hr.kept hk3 fun hl a ha => by have := RPAt.off h.old hL2 hl a ha; omega⟩
theorem RPAt.store {w : World} {g : Nat} {A0 A1 A : Option Addr} {l0 l l' : List Int} {e e' : Int} {c : Nat} {w1 w2 w3 : World} (h : RPAt w g A0 l0 l e w1) (h1 : Lies (g + 2) A0 l0 A1 l) (hk : Kept (fun _ => False) w1 w2) (hr : RB w2 A l' c) (hL : Lies w1.heap.size A1 l A l')
    (hb : Box w3 g 75 (wrV A l' c e')) (hk3 : Kept (fun k => k = g) w2 w3) : RPAt w g A0 l0 l' e' w3 := by
  have hs : g + 2 ≤ w1.heap.size := by have := h.res.lt; omega
  have hL2 := h1.trans (hL.less hs)
  refine ⟨⟨A, c, hb, hr.kept hk3 fun hl a ha => ?_, hL2⟩, (h.res.kept hk id).kept hk3 (by omega), h.old, (h.k.trans hk fun _ _ e => e).trans hk3 fun k hlt e => ?_, h.ge⟩
  · have := RPAt.off h.old hL2 hl a ha; omega
  · have := h.ge; omega

set_option maxHeartbeats 1600000 in
set_option maxRecDepth 100000 in
theorem RPut_any (A : Option Addr) (l : List Int) (c : Nat) (e : Int) (B : Option Addr) (v : List Dt) (d : Nat) (w : World) (h : RB w A l c) (hv : DotsAt w B v) (hlen : v.length ≤ 4611686018427387904) (hl : l.length ≤ 900000) :
    Calls Try.prog 64 #[.agg #[.slice A l.length c, .int .i64 e], .slice B v.length d] w (RWPost w A l (puts l e (vnums (vec (says v)))) e) := by
  have HV := Lib.hid hv
  have HK2 := Lib.hid (((Kept.refl (fun _ => False) w).alloc (.cells #[.slice A l.length c, .int .i64 e] 75)).alloc (.cells #[.slice none 0 0, .int .i64 0] 75))
  have HAT := Lib.hid (show RPAt w w.heap.size A l l e ((w.alloc (.cells #[.slice A l.length c, .int .i64 e] 75)).alloc (.cells #[.slice none 0 0, .int .i64 0] 75)) from by
    refine ⟨⟨A, c, (Box.new w _ _).alloc _, h.fresh HK2.out, .inl ⟨rfl, rfl⟩⟩, ?_, fun hl a ha => h.block_lt hl a ha, HK2.out, Nat.le_refl _⟩
    · exact (Box.new (w.alloc (.cells #[.slice A l.length c, .int .i64 e] 75)) 75 #[.slice none 0 0, .int .i64 0]).at_eq (by simp))
  have H := Lib.hid h
  obtain ⟨out, hout⟩ : ∃ out, puts l e (vnums (vec (says v))) = out := ⟨_, rfl⟩
  rw [hout]
  have HOUT := Lib.hid (show ∀ r, says v = r → puts l e (vnums (vec r)) = out from fun r hr => by rw [← hr]; exact hout)
  clear h hv hout
  go_enter Try.func64, Try.ntmps64
  go_wp2_with (fail)
  generalize (w.alloc (.cells #[.slice A l.length c, .int .i64 e] 75)).alloc (.cells #[.slice none 0 0, .int .i64 0] 75) = w0 at HAT HK2 ⊢
  refine (Says_any B v d _ (HV.out.fresh HK2.out) hlen).mono ?_
  rintro r w1 ⟨rfl, hk⟩
  have HA1 := Lib.hid (HAT.out.fresh hk)
  have HR := Lib.hid (Row.says v)
  clear hk HV HK2 HAT
  obtain ⟨r, hr⟩ : ∃ r, says v = r := ⟨_, rfl⟩
  rw [hr] at HR ⊢
  have HOU := Lib.hid (HOUT.out r hr)
  clear hr HOUT
  go_wp2_with (fail)
  refine (Of_any _ _ HR.out).mono ?_
  rintro e2 w2 hf
  obtain ⟨A', c', rfl, ho, hk⟩ := hf
  have hd := DotsAt.of_own ho
  have HA' := Lib.hid (show ∀ a, A' = some a → a.block ≠ w.heap.size from fun a ha => by
    subst ha
    have h1 := (ho.lt a.block rfl).1
    have h2 := HA1.out.res.lt
    omega)
  have HOK := Lib.hid (vec_ok HR.out 17 (Nat.le_refl _))
  have hll := vecTo_len r 17
  have HA2 := Lib.hid (HA1.out.fresh hk)
  generalize hL : vecTo r 17 = L at HOK hll
  have HL := Lib.hid (show vec r = L from hL)
  clear hL
  have HD := Lib.hid (show DotsAt w2 A' L by rw [← HL.out]; exact hd)
  rw [HL.out]
  clear ho hd hk HA1
  have HP := Lib.hid (show wrB l e L.length = puts l e [L.length] ∧ wrE e L.length = e by have := puts_num l e [] L.length; rwa [puts_nil] at this)
  obtain ⟨A2, c2, hb2, hr2, hn2⟩ := HA2.out.box
  have x0 : w2.cell? ⟨w.heap.size, 0, none⟩ = some (.slice A2 l.length c2) := by simpa [wrV] using hb2.cell 0
  have x1 : w2.cell? ⟨w.heap.size, 1, none⟩ = some (.int .i64 e) := by simpa [wrV] using hb2.cell 1
  have HR2 := Lib.hid hr2
  have HN2 := Lib.hid hn2
  have HB2 := Lib.hid hb2
  clear hb2 hr2 hn2
  go_wp2_with (fail)
  refine (RWNum_any A2 l c2 e L.length _ HR2.out (by omega) (by omega)).mono ?_
  rw [HP.out.1, HP.out.2]
  rintro e3 w3 ⟨A3, c3, rfl, hr3, hl3, hk3⟩
  have HB3 := Lib.hid (HB2.out.kept hk3 id)
  have HST := Lib.hid (fun (w4 : World) (hb : Box w4 w.heap.size 75 (wrV A3 (puts l e [L.length]) c3 e)) (hk4 : Kept (fun k => k = w.heap.size) w3 w4) => HA2.out.store HN2.out hk3 hr3 hl3 hb hk4)
  have HK3 := Lib.hid hk3
  clear hr3 hl3 hk3 x0 x1
  go_wp2_with (refine wpList_store_box rfl 75 (.tmp 2) (.tmp 13) rfl w.heap.size (wrV A3 (puts l e [L.length]) c3 e) rfl rfl 75 (wrV A2 l c2 e) HB3.out (size_RW.trans rfl) rfl (wrV_one _ _ _ _) ?_; intro w4 HB4 hk4)
  have HAT := Lib.hid (show RPAt w w.heap.size A l (puts l e (L.length :: dotNums (L.take 0))) e w4 from HST.out w4 HB4.out hk4)
  have HD4 := Lib.hid (show DotsAt w4 A' L from (HD.out.fresh HK3.out).kept hk4 fun a ha => HA'.out a ha)
  clear hk4 HB4 HST HB3 HK3 HB2 HN2 HR2 HA2 HD HP
  go_loopw [6] (fun i wr => ∃ k : Nat, i = .int .i64 k ∧ k ≤ L.length ∧ RPAt w w.heap.size A l (puts l e (L.length :: dotNums (L.take k))) e wr ∧ DotsAt wr A' L) (fun i _ => L.length - (intOf i).toNat)
  case atStart => exact ⟨0, rfl, Nat.zero_le _, HAT.out, HD4.out⟩
  case round =>
    clear HAT HD4
    obtain ⟨k, rfl, hk, hat, hdd⟩ := hrel
    have HAT := Lib.hid hat
    have HD := Lib.hid hdd
    by_cases hlt : k < L.length
    · obtain ⟨ad, rfl, x0, x1⟩ := hdd k hlt
      have hs := dotNums_snoc L k hlt
      have hdk := HOK.out L[k] (List.getElem_mem hlt)
      have hbl : ∀ m : List Nat, m.length ≤ 1 → (∀ x ∈ m, x ≤ 9223372036854775807) → (puts l e (L.length :: dotNums (L.take k) ++ m)).length ≤ l.length + 9 * 36 := by
        intro m hm1 hm2
        have h1 := puts_len l e (L.length :: dotNums (L.take k) ++ m) fun x hx => by
          rcases List.mem_append.1 hx with hx | hx
          · rcases List.mem_cons.1 hx with rfl | hx
            · omega
            · have := dotNums_bd (L.take k) (fun d hd => HOK.out d (List.mem_of_mem_take hd)) x hx
              omega
          · exact hm2 x hx
        have h2 := dotNums_len (L.take k)
        have h3 := List.length_take_le k L
        simp only [List.length_cons, List.length_append] at h1
        omega
      have HX := Lib.hid (fun (w1 : World) (h : DotsAt w1 (some ad) L) => h k hlt)
      obtain ⟨site, hsite⟩ : ∃ s, L[k].site = s := ⟨_, rfl⟩
      obtain ⟨seq, hseq⟩ : ∃ s, L[k].seq = s := ⟨_, rfl⟩
      have hd : 1 ≤ site ∧ site ≤ 16 ∧ 1 ≤ seq ∧ seq ≤ 2147483647 := by rw [← hsite, ← hseq]; simpa [okDot] using hdk
      rw [hsite] at x0 hs
      rw [hseq] at x1 hs
      obtain ⟨st, rfl⟩ : ∃ n : Nat, site = n := ⟨site.toNat, by omega⟩
      obtain ⟨sq, rfl⟩ : ∃ n : Nat, seq = n := ⟨seq.toNat, by omega⟩
      simp only [Int.toNat_natCast] at hs
      have HXQ := Lib.hid (show ∀ w1, DotsAt w1 (some ad) L → w1.cell? ⟨(ad.add (k * 2)).block, (ad.add (k * 2)).off + 1, none⟩ = some (.int .i64 (sq : Int)) from fun w1 h => by
        obtain ⟨a, e, _, h1⟩ := h k hlt
        injection e with e
        subst e
        rw [h1, hseq])
      have HS := Lib.hid hs
      have HDB := Lib.hid hd
      have hps := puts_num l e (L.length :: dotNums (L.take k)) st
      have hpq := puts_num l e (L.length :: dotNums (L.take k) ++ [st]) sq
      have hb0 := hbl [] (by simp) (by simp)
      have hb1 := hbl [st] (by simp) (by simp; omega)
      rw [List.append_nil] at hb0
      obtain ⟨P1, hP1⟩ : ∃ P, puts l e (L.length :: dotNums (L.take k) ++ [st]) = P := ⟨_, rfl⟩
      obtain ⟨P2, hP2⟩ : ∃ P, puts l e (L.length :: dotNums (L.take k) ++ [st] ++ [sq]) = P := ⟨_, rfl⟩
      rw [hP1] at hps hpq hb1
      rw [hP2] at hpq
      have HPS := Lib.hid hps
      have HPQ := Lib.hid hpq
      have HP2 := Lib.hid hP2
      clear hps hpq hP1 hP2
      clear hs hdk hbl hd hsite hseq HX hdd
      obtain ⟨A5, c5, hb5, hr5, hn5⟩ := hat.box
      have z0 : wr.cell? ⟨w.heap.size, 0, none⟩ = some (.slice A5 (puts l e (L.length :: dotNums (L.take k))).length c5) := by simpa [wrV] using hb5.cell 0
      have z1 : wr.cell? ⟨w.heap.size, 1, none⟩ = some (.int .i64 e) := by simpa [wrV] using hb5.cell 1
      have HR5 := Lib.hid hr5
      have HN5 := Lib.hid hn5
      have HB5 := Lib.hid hb5
      clear hb5 hr5 hn5 hat
      go_wp2_with (fail)
      go_still_tail 6, (by kernel_rfl)
      change wpList _ _ _ _ _ wr.drew
      have hkd : Kept (fun _ => False) wr wr.drew := (Kept.refl _ _).drew
      have HAT' := Lib.hid (HAT.out.fresh hkd)
      have HD' := Lib.hid (HD.out.fresh hkd)
      have HR5' := Lib.hid (HR5.out.fresh hkd)
      have HB5' := Lib.hid (HB5.out.kept hkd id)
      clear HR5 HB5 hkd HAT HD x0 x1 z0 z1
      generalize wr.drew = W at HAT' HD' HR5' HB5' ⊢
      go_wp2_with (fail)
      refine (RWNum_any A5 _ c5 e st _ HR5'.out (by omega) (by have := HDB.out; omega)).mono ?_
      rw [HPS.out.1, HPS.out.2]
      rintro e6 w6 ⟨A6, c6, rfl, hr6, hl6, hk6⟩
      have HB6 := Lib.hid (HB5'.out.kept hk6 id)
      have HST := Lib.hid (fun (w7 : World) (hb : Box w7 w.heap.size 75 (wrV A6 P1 c6 e)) (hk7 : Kept (fun k => k = w.heap.size) w6 w7) => HAT'.out.store HN5.out hk6 hr6 hl6 hb hk7)
      have HD6 := Lib.hid (HD'.out.fresh hk6)
      have HSL := Lib.hid (fun (w7 : World) (hk7 : Kept (fun k => k = w.heap.size) w6 w7) => HAT'.out.left HN5.out hr6 hl6 hk7)
      clear hr6 hl6 hk6 HAT' HD' HR5' HB5' HN5
      go_wp2_with (refine wpList_store_box rfl 75 (.tmp 2) (.tmp 26) rfl w.heap.size (wrV A6 P1 c6 e) rfl rfl 75 (wrV A5 (puts l e (L.length :: dotNums (L.take k))) c5 e) HB6.out (size_RW.trans rfl) rfl (wrV_one _ _ _ _) ?_; intro w7 HB7 hk7)
      have HD7 := Lib.hid (HD6.out.kept hk7 fun a ha => HA'.out a ha)
      have HAT := Lib.hid (HST.out w7 HB7.out hk7)
      have x1 := HXQ.out w7 HD7.out
      have z0 : w7.cell? ⟨w.heap.size, 0, none⟩ = some (.slice A6 P1.length c6) := by simpa [wrV] using HB7.out.cell 0
      have z1 : w7.cell? ⟨w.heap.size, 1, none⟩ = some (.int .i64 e) := by simpa [wrV] using HB7.out.cell 1
      clear HD6 HST HB6
      have HL7 := Lib.hid (HSL.out w7 ‹_›)
      clear HSL
      go_still_tail 6, (by kernel_rfl)
      change wpList _ _ _ _ _ w7.drew
      have hkd : Kept (fun _ => False) w7 w7.drew := (Kept.refl _ _).drew
      have HAT' := Lib.hid (HAT.out.fresh hkd)
      have HD' := Lib.hid (HD7.out.fresh hkd)
      have HR7 := Lib.hid (HL7.out.2.fresh hkd)
      have HB7' := Lib.hid (HB7.out.kept hkd id)
      clear hkd HAT HD7 x1 z0 z1 HB7
      generalize w7.drew = W7 at HAT' HD' HR7 HB7' ⊢
      go_wp2_with (fail)
      refine (RWNum_any A6 _ c6 e sq _ HR7.out (by omega) (by have := HDB.out; omega)).mono ?_
      rw [HPQ.out.1, HPQ.out.2]
      rintro e8 w8 ⟨A8, c8, rfl, hr8, hl8, hk8⟩
      have HB8 := Lib.hid (HB7'.out.kept hk8 id)
      have HST := Lib.hid (fun (w9 : World) (hb : Box w9 w.heap.size 75 (wrV A8 P2 c8 e)) (hk9 : Kept (fun k => k = w.heap.size) w8 w9) => HAT'.out.store HL7.out.1 hk8 hr8 hl8 hb hk9)
      have HD8 := Lib.hid (HD'.out.fresh hk8)
      clear hr8 hl8 hk8 HAT' HD' HR7 HB7' HL7
      go_wp2_with (refine wpList_store_box rfl 75 (.tmp 2) (.tmp 33) rfl w.heap.size (wrV A8 P2 c8 e) rfl rfl 75 (wrV A6 P1 c6 e) HB8.out (size_RW.trans rfl) rfl (wrV_one _ _ _ _) ?_; intro w9 HB9 hk9)
      have HD9 := Lib.hid (HD8.out.kept hk9 fun a ha => HA'.out a ha)
      have HAT := Lib.hid (HST.out w9 HB9.out hk9)
      clear hk9 HD8 HST HB8
      go_roundw
      case rel =>
        refine ⟨k + 1, by go_num, by omega, ?_, HD9.out⟩
        rw [HS.out]
        have := HAT.out
        rw [← HP2.out] at this
        simpa using this
      case measure => simp [intOf]; omega
    · obtain rfl : k = L.length := by omega
      have hout : puts l e (L.length :: dotNums (L.take L.length)) = out := by rw [List.take_length, ← HOU.out, HL.out]; rfl
      rw [hout] at hat
      clear HAT hdd hout
      have HAT := Lib.hid hat
      clear hat
      obtain ⟨A9, c9, hb9, hr9, hn9⟩ := HAT.out.box
      have z0 : wr.cell? ⟨w.heap.size, 0, none⟩ = some (.slice A9 out.length c9) := by simpa [wrV] using hb9.cell 0
      have z1 : wr.cell? ⟨w.heap.size, 1, none⟩ = some (.int .i64 e) := by simpa [wrV] using hb9.cell 1
      have HR9 := Lib.hid hr9
      have HN9 := Lib.hid hn9
      have HRS := Lib.hid HAT.out.res
      clear hb9 hr9 hn9
      go_wp2_with (refine wpList_store_box rfl 75 (.tmp 4) (.tmp 34) rfl (w.heap.size + 1) (wrV A9 out c9 e) rfl rfl 75 (wrV none [] 0 0) HRS.out (size_RW.trans rfl) rfl (wrV_one _ _ _ _) ?_; intro w9 HB9 hk9)
      refine bodyPost_ret (results_cell_row (show Try.f64.results = #[.cell 4 75] by kernel_rfl) _ _ (w.heap.size + 1) 75 (wrV A9 out c9 e) (0, 0) _ rfl HB9.out Try.underlying75 rfl (size_RW.trans rfl)) rfl ⟨A9, c9, rfl, HR9.out.kept hk9 fun hl a ha => ?_, HN9.out.less (by omega), HAT.out.k.trans hk9 fun k hlt e => ?_⟩
      · have := RPAt.off HAT.out.old HN9.out hl a ha
        omega
      · omega
end Go.Proofs.Ytnlklhlnnoihiaa
