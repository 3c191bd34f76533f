/- The walk of the law VectorPuts: it returns true, whatever the list and the two numbers. Conditions: the Dots lie in memory as DotsAt says; numbers are of Go's int. -/
import Derived.Test.YtlefbnnlcacheaaVTells
import Derived.Test.YtlefbnnlcacheaaSRef
import Derived.Test.YtlefbnnlcacheaaVBack
namespace Go.Proofs.Ytlefbnnlcacheaa
open Go.RowKit

theorem int_le {n : Int} (h : (Lit.int .i64 n).wf = true) : n ≤ 9223372036854775807 := by
  simp [Lit.wf] at h
  exact h.2
theorem REnd_any (d g : Nat) (s : Rd) (w : World) (h : RdAt w d g s) :
    Calls Try.prog 44 #[.pointer (some ⟨g, 0, none⟩)] w (fun r w' => r = .returned (.int .i64 (if s.e ≠ 0 then s.e else if s.l ≠ [] then 6 else 0)) ∧ w = w') := by
  obtain ⟨l, e⟩ := s
  obtain ⟨A, c, hb, -⟩ := h.at_.box
  have x0 : w.cell? ⟨g, 0, none⟩ = some (.slice A l.length c) := by simpa using hb.cell 0
  have H := Lib.hid h
  clear h hb
  by_cases he : e = 0
  · subst he
    rcases l with _ | ⟨b, l⟩
    · go_enter Try.func44, Try.ntmps44
      go_wp2_with (fail)
      refine (RErrs_any d g _ _ H.out).mono ?_
      rintro r w2 ⟨rfl, rfl⟩
      go_wp2
      go_ret
      exact ⟨rfl, rfl⟩
    · have hp : (0 : Int) < ((b :: l).length : Int) := by simp only [List.length_cons]; omega
      go_enter Try.func44, Try.ntmps44
      go_wp2_with (fail)
      refine (RErrs_any d g _ _ H.out).mono ?_
      rintro r w2 ⟨rfl, rfl⟩
      go_wp2
      go_ret
      exact ⟨rfl, rfl⟩
  · have e1 : (e != 0) = true := by simp [he]
    have e2 : (e == 0) = false := by simp [he]
    rw [if_pos he]
    clear he
    go_enter Try.func44, Try.ntmps44
    go_wp2_with (fail)
    refine (RErrs_any d g _ _ H.out).mono ?_
    rintro r w2 ⟨rfl, rfl⟩
    go_wp2
    go_ret
    exact ⟨rfl, rfl⟩

theorem BytesAt.noneNil {w : World} {A : Option Addr} {l : List Int} (h : BytesAt w A l) : A = none → l = [] := by
  rintro rfl
  rcases l with _ | ⟨b, l⟩
  · rfl
  · obtain ⟨ad, e, _⟩ := h 0 (by simp)
    cases e
/-- What VectorPuts has, once its bytes are laid; all of it lies below block N. -/
structure PutsAt (w : World) (N : Nat) (A X : Option Addr) (l : List Dt) (g : Nat) (sv : Value) (b : List Int) (wr : World) : Prop where
  v : DotsAt wr A l
  x : DotsAt wr X (l ++ [mark])
  wtr : WriterAt wr g g sv b 0
  k : Kept (fun _ => False) w wr
  ge : w.heap.size ≤ N
  vb : 0 < l.length → ∀ a, A = some a → a.block < N
  xb : ∀ a, X = some a → a.block < N
  wb : ∀ k, OwnsW g sv k → k < N
/-- A reference's Writer in block g behind N, its bytes elsewhere. -/
structure UAt (N g : Nat) (U : Option Addr) (c : Nat) (l : List Int) (wr : World) : Prop where
  box : Box wr g 64 (wrV U l c 0)
  rb : RB wr U l c
  off : l ≠ [] → ∀ a, U = some a → a.block ≠ g
  ge : N ≤ g
theorem UAt.fresh {N g : Nat} {U : Option Addr} {c : Nat} {l : List Int} {w1 w2 : World} (h : UAt N g U c l w1) (hk : Kept (fun _ => False) w1 w2) : UAt N g U c l w2 := ⟨h.box.kept hk id, h.rb.fresh hk, h.off, h.ge⟩
theorem UAt.store {N g : Nat} {U U' : Option Addr} {c c' : Nat} {l l' : List Int} {w1 w2 w3 : World} (h : UAt N g U c l w1) (hr : RB w2 U' l' c') (hL : Lies w1.heap.size U l U' l') (hb : Box w3 g 64 (wrV U' l' c' 0)) (hk3 : Kept (fun k => k = g) w2 w3) : UAt N g U' c' l' w3 := by
  have ho : l' ≠ [] → ∀ a, U' = some a → a.block ≠ g := fun hl a ha => by
    rcases hL with ⟨rfl, rfl⟩ | hL
    · exact h.off hl a ha
    · have := hL a ha; have := h.box.lt; omega
  exact ⟨hb, hr.kept hk3 ho, ho, h.ge⟩
/-- all that is looked at from then on -/
structure PU (w : World) (N : Nat) (A X : Option Addr) (l : List Dt) (g : Nat) (sv : Value) (b : List Int) (gu : Nat) (U : Option Addr) (c : Nat) (wr : World) : Prop where
  p : PutsAt w N A X l g sv b wr
  u : UAt N gu U c b wr
theorem UAt.cell {N g : Nat} {U : Option Addr} {c : Nat} {l : List Int} {w : World} (h : UAt N g U c l w) : w.cell? ⟨g, 0, none⟩ = some (.slice U l.length c) := by simpa [wrV] using h.box.cell 0
section
variable {w : World} {N : Nat} {A X : Option Addr} {l : List Dt} {g : Nat} {sv : Value} {b : List Int} {w1 w2 : World} {S : Nat → Prop}
theorem PutsAt.kept (h : PutsAt w N A X l g sv b w1) (hk : Kept S w1 w2) (hS : ∀ k, S k → N ≤ k) : PutsAt w N A X l g sv b w2 := by
  refine ⟨?_, h.x.kept hk fun a ha hs => ?_, h.wtr.kept hk fun k e hs => ?_, h.k.trans hk fun k hlt e => ?_, h.ge, h.vb, h.xb, h.wb⟩
  · rcases Nat.eq_zero_or_pos l.length with h0 | h0
    · obtain rfl := List.eq_nil_of_length_eq_zero h0
      exact DotsAt.nil
    · exact h.v.kept hk fun a ha hs => by have := h.vb h0 a ha; have := hS _ hs; omega
  · have := h.xb a ha; have := hS _ hs; omega
  · have := h.wb k e; have := hS _ hs; omega
  · have := h.ge; have := hS _ e; omega
theorem PutsAt.fresh (h : PutsAt w N A X l g sv b w1) (hk : Kept (fun _ => False) w1 w2) : PutsAt w N A X l g sv b w2 := h.kept hk fun _ e => e.elim
theorem PutsAt.front (h : PutsAt w N A X l g sv b w1) : DotsAt w1 X l := fun k hk => by
  obtain ⟨ad, e, x0, x1⟩ := h.x k (by simp; omega)
  rw [List.getElem_append_left hk] at x0 x1
  exact ⟨ad, e, x0, x1⟩
theorem PU.fresh {gu c : Nat} {U : Option Addr} (h : PU w N A X l g sv b gu U c w1) (hk : Kept (fun _ => False) w1 w2) : PU w N A X l g sv b gu U c w2 := ⟨h.p.fresh hk, h.u.fresh hk⟩
theorem PU.drew {gu c : Nat} {U : Option Addr} (h : PU w N A X l g sv b gu U c w1) : PU w N A X l g sv b gu U c w1.drew := h.fresh (Kept.refl _ _).drew
theorem PU.toS {gu c : Nat} {U : Option Addr} (h : PU w N A X l g sv b gu U c w1) : w1.cell? ⟨gu, 0, none⟩ = some (.slice U b.length c) ∧ Hid (PU w N A X l g sv b gu U c w1) := ⟨h.u.cell, Lib.hid h⟩
theorem PU.ofS {gu c : Nat} {U : Option Addr} (h : w1.cell? ⟨gu, 0, none⟩ = some (.slice U b.length c) ∧ Hid (PU w N A X l g sv b gu U c w1)) : PU w N A X l g sv b gu U c w1 := h.2.out
end

set_option maxRecDepth 100000 in
set_option maxHeartbeats 12800000 in
theorem Puts_walk (A : Option Addr) (l : List Dt) (cA : Nat) (ahead behind : Int) (w : World) (hA : DotsAt w A l) (nA : A = none → cA = 0) (ha : ahead ≤ 9223372036854775807) (hb : behind ≤ 9223372036854775807) :
    Calls Try.prog 8 #[.slice A l.length cA, .int .i64 ahead, .int .i64 behind] w (KnownEnd w) := by
  have hwide : 4000 < l.length ∨ (l.length ≤ 4000 ∧ ahead < 0) ∨ (l.length ≤ 4000 ∧ 0 ≤ ahead ∧ behind < 0) ∨ (l.length ≤ 4000 ∧ 0 ≤ ahead ∧ 0 ≤ behind) := by omega
  rcases hwide with h1 | ⟨h1, h2⟩ | ⟨h1, h2, h3⟩ | ⟨h1, h2, h3⟩
  iterate 3
    · clear hA nA
      go_enter Try.func8, Try.ntmps8
      go_wp2_with (fail)
      refine (known_any _).mono ?_
      rintro e w1 ⟨rfl, hk⟩
      have HK := Lib.hid hk
      clear hk
      go_wp2
      go_ret
      exact ⟨rfl, HK.out⟩
  obtain ⟨na, rfl⟩ : ∃ n : Nat, ahead = n := ⟨ahead.toNat, by omega⟩
  obtain ⟨nb, rfl⟩ : ∃ n : Nat, behind = n := ⟨behind.toNat, by omega⟩
  have lA : l.length ≤ 4611686018427387904 := by omega
  have HRow := Lib.hid (Row.says l)
  have HV0 := Lib.hid hA
  have HNA := Lib.hid nA
  have hvb : 0 < l.length → ∀ a, A = some a → a.block < w.heap.size := fun h0 => hA.lt h0
  have HVB := Lib.hid hvb
  have HW0 := Lib.hid (WriterAt.new w)
  have HK0 := Lib.hid ((Kept.refl (fun _ => False) w).alloc (.cells #[.slice none 0 0, .int .i64 0] 46))
  have HA1 := Lib.hid (show wrB [] 0 na = enc na ∧ wrE 0 na = 0 by have := wr_ok (l := []) (v := na); simpa using this)
  have hn9 := enc_len9 na (by omega)
  obtain ⟨V, hV⟩ : ∃ V, vec (says l) = V := ⟨_, rfl⟩
  have HVV := Lib.hid hV
  have HP := Lib.hid (show puts (enc na) 0 (vnums (vec (says l))) = enc na ++ encs (vnums V) by rw [hV]; simp [puts, encs])
  have hv16 : V.length ≤ 16 := by rw [← hV]; exact vec_len HRow.out
  have hvl : (encs (vnums V)).length ≤ 9 * 33 := by
    have h1 := encs_len (vnums V) fun x hx => by
      rcases List.mem_cons.1 hx with rfl | hx
      · omega
      · have := dotNums_bd V (by rw [← hV]; exact vec_ok HRow.out 17 (Nat.le_refl _)) x hx
        omega
    have h2 := dotNums_len V
    simp only [vnums, List.length_cons] at h1
    unfold encs
    simp only [vnums]
    omega
  have hckV : checkV V = 0 := by rw [← hV]; exact check_vec HRow.out
  have HCK := Lib.hid hckV
  have HA3 := Lib.hid (show wrB (enc na ++ encs (vnums V)) 0 nb = enc na ++ encs (vnums V) ++ enc nb ∧ wrE 0 nb = 0 from wr_ok)
  have hbl : (enc na ++ encs (vnums V)).length ≤ 9 + 9 * 33 := by rw [List.length_append]; omega
  have hn9b := enc_len9 nb (by omega)
  obtain ⟨bs, hbs⟩ : ∃ bs, enc na ++ encs (vnums V) ++ enc nb = bs := ⟨_, rfl⟩
  have hbsl : bs.length ≤ 400 := by rw [← hbs, List.length_append]; omega
  have HBS := Lib.hid hbs
  obtain ⟨p1, hp1⟩ : ∃ p, enc na ++ encs (vnums V) = p := ⟨_, rfl⟩
  obtain ⟨p0, hp0⟩ : ∃ p, enc na = p := ⟨_, rfl⟩
  rw [hp1] at HP HA3 hbl
  rw [hp0] at HP HA1 hn9
  have HP0 := Lib.hid hp0
  have HP1 := Lib.hid hp1
  have HBS' := Lib.hid (show p1 ++ enc nb = bs by rw [← hp1]; exact hbs)
  clear hA nA hvb hV hckV hvl hp1 hp0 hbs
  go_enter Try.func8, Try.ntmps8
  go_wp2_with (fail)
  have hs0 : (w.alloc (.cells #[.slice none 0 0, .int .i64 0] 46)).heap.size = w.heap.size + 1 := by simp
  generalize w.alloc (.cells #[.slice none 0 0, .int .i64 0] 46) = w0 at HW0 HK0 hs0 ⊢
  refine (Number_any _ _ _ [] 0 na _ HW0.out (by simp) (by omega)).mono ?_
  rw [HA1.out.1, HA1.out.2]
  rintro e w1 ⟨rfl, sv1, hw1, hk1, hm1⟩
  have HK1 := Lib.hid (HK0.out.trans hk1 fun k hk h => by rcases h with h | h; omega; cases h)
  have HW1 := Lib.hid hw1
  have HV1 := Lib.hid (HV0.out.fresh HK1.out)
  clear hw1 hk1 hm1 HW0 HK0 hs0
  go_wp2_with (fail)
  refine (room_any A l cA _ HV1.out HNA.out (by omega)).mono ?_
  rintro e w2 hf
  have hxb : ∀ X cX, e = .returned (.slice X l.length cX) → ∀ a, X = some a → w1.heap.size ≤ a.block ∧ a.block < w2.heap.size := by
    intro X cX he a ha
    obtain ⟨X', cX', he', ho, _⟩ := hf
    rw [he'] at he
    injection he with he
    injection he with he _ _
    subst he ha
    exact ho.lt a.block rfl
  obtain ⟨X, cX, rfl, hd1, hd2, hXc, hk⟩ := hf.at
  have HXB := Lib.hid (hxb X cX rfl)
  have HK2 := Lib.hid (HK1.out.trans hk fun _ _ e => e)
  have HW2 := Lib.hid (HW1.out.fresh hk)
  have HX2 := Lib.hid hd1
  have HM2 := Lib.hid hd2
  have HFAR := Lib.hid (show ∀ a, X = some a → ¬ OwnsW w.heap.size sv1 a.block from fun a ha e => by have := (HW1.out.own_lt _ e).2; have := (HXB.out a ha).1; omega)
  clear hf hxb hd1 hd2 hk HK1 HW1 HV1
  go_wp2_with (fail)
  refine (Put_any _ _ sv1 p0 0 X l cX _ HW2.out HX2.out lA (by omega)).mono ?_
  rw [HP.out]
  rintro e w3 ⟨rfl, sv3, hw3, hk3, hm3⟩
  have HK3 := Lib.hid (HK2.out.trans hk3 fun k hk h => by have := (HW2.out.own_lt _ h).1; omega)
  have HM3 := Lib.hid (HM2.out.kept hk3 HFAR.out)
  have HFAR3 := Lib.hid (show ∀ a, X = some a → ¬ OwnsW w.heap.size sv3 a.block from fun a ha e => by
    have h1 := (HXB.out a ha).2
    exact HFAR.out a ha (hm3.owns _ h1 e))
  have hs3 := hk3.size
  have HW3 := Lib.hid hw3
  clear hw3 hk3 hm3 HX2 HM2 HW2 HK2 HFAR
  go_wp2_with (fail)
  refine (Number_any _ _ sv3 p1 0 nb _ HW3.out (by omega) (by omega)).mono ?_
  rw [HA3.out.1, HA3.out.2]
  rintro e w4 ⟨rfl, sv4, hw4, hk4, hm4⟩
  rw [HBS'.out] at hw4
  have HP4 := Lib.hid (show PutsAt w w4.heap.size A X l w.heap.size sv4 bs w4 from by
    have hk := HK3.out.trans hk4 fun k hk h => by have := (HW3.out.own_lt _ h).1; omega
    refine ⟨HV0.out.fresh hk, HM3.out.kept hk4 HFAR3.out, hw4, hk, hk.size, fun h0 a ha => ?_, fun a ha => ?_, fun k h => (hw4.own_lt k h).2⟩
    · have := HVB.out h0 a ha; have := hk.size; omega
    · have := (HXB.out a ha).2; have := hk4.size; omega)
  clear hw4 hk4 hm4 HM3 HFAR3 HW3 HK3 HV0 HXB HVB
  as_aux_lemma =>
    go_wp2_with (fail)
    refine (RWNum_any none [] 0 0 na _ ⟨BytesAt.nil, fun _ => rfl⟩ (by simp) (by omega)).mono ?_
    rw [HA1.out.1, HA1.out.2]
    rintro e w5 ⟨U1, c1, rfl, hr1, hl1, hk5⟩
    have HP5 := Lib.hid (HP4.out.fresh hk5)
    have HR5 := Lib.hid hr1
    have HKS := Lib.hid hk5.size
    clear HP4 hr1 hl1 hk5
    simp only [wrV]
    go_wp2_with (fail)
    have HU6 := Lib.hid (show UAt w4.heap.size w5.heap.size U1 c1 p0 (w5.alloc (.cells #[.slice U1 p0.length c1, .int .i64 0] 64)) from
      ⟨Box.new w5 _ _, HR5.out.fresh ((Kept.refl _ _).alloc _), fun hl a ha e => by have := HR5.out.block_lt hl a ha; omega, HKS.out⟩)
    have HP6 := Lib.hid (HP5.out.fresh ((Kept.refl _ _).alloc (.cells #[.slice U1 p0.length c1, .int .i64 0] 64)))
    clear HP5 HR5
    generalize w5.alloc (.cells #[.slice U1 p0.length c1, .int .i64 0] 64) = w6 at HU6 HP6 ⊢
    generalize w5.heap.size = gu at HU6 HKS ⊢
    refine (RPut_any U1 p0 c1 0 A l cA _ HU6.out.rb HP6.out.v lA (by omega)).mono ?_
    rw [HP.out]
    rintro e w7 ⟨U2, c2, rfl, hr2, hl2, hk7⟩
    have HP7 := Lib.hid (HP6.out.fresh hk7)
    have HB7 := Lib.hid (HU6.out.box.kept hk7 id)
    have HST := Lib.hid (fun (w8 : World) (hb : Box w8 gu 64 (wrV U2 p1 c2 0)) (hk8 : Kept (fun k => k = gu) w7 w8) => HU6.out.store hr2 hl2 hb hk8)
    clear hr2 hl2 hk7 HP6 HU6
    go_wp2_with (refine wpList_store_box rfl 64 (.tmp 9) (.tmp 45) rfl gu (wrV U2 p1 c2 0) rfl rfl 64 (wrV U1 p0 c1 0) HB7.out (size_RW.trans rfl) rfl (wrV_one _ _ _ _) ?_; intro w8 HB8 hk8; have z0 : w8.cell? ⟨gu, 0, none⟩ = some (.slice U2 p1.length c2) := (by simpa [wrV] using HB8.out.cell 0); have z1 : w8.cell? ⟨gu, 1, none⟩ = some (.int .i64 0) := (by simpa [wrV] using HB8.out.cell 1))
    have HU8 := Lib.hid (HST.out w8 HB8.out hk8)
    have HP8 := Lib.hid (HP7.out.kept hk8 fun k e => by subst e; exact HKS.out)
    clear hk8 HST HB7 HP7 HB8 z0 z1
    refine (RWNum_any U2 p1 c2 0 nb _ HU8.out.rb (by omega) (by omega)).mono ?_
    rw [HA3.out.1, HA3.out.2, HBS'.out]
    rintro e w9 ⟨U3, c3, rfl, hr3, hl3, hk9⟩
    have HP9 := Lib.hid (HP8.out.fresh hk9)
    have HB9 := Lib.hid (HU8.out.box.kept hk9 id)
    have HST := Lib.hid (fun (w10 : World) (hb : Box w10 gu 64 (wrV U3 bs c3 0)) (hk10 : Kept (fun k => k = gu) w9 w10) => HU8.out.store hr3 hl3 hb hk10)
    clear hr3 hl3 hk9 HP8 HU8
    go_wp2_with (refine wpList_store_box rfl 64 (.tmp 9) (.tmp 48) rfl gu (wrV U3 bs c3 0) rfl rfl 64 (wrV U2 p1 c2 0) HB9.out (size_RW.trans rfl) rfl (wrV_one _ _ _ _) ?_; intro w10 HB10 hk10)
    have HU := Lib.hid (HST.out w10 HB10.out hk10)
    have HZ := Lib.hid (HP9.out.kept hk10 fun k e => by subst e; exact HKS.out)
    clear hk10 HST HB9 HP9
    as_aux_lemma =>
      have z0 : w10.cell? ⟨gu, 0, none⟩ = some (.slice U3 bs.length c3) := by simpa [wrV] using HB10.out.cell 0
      clear HB10
      have HY := Lib.hid (show PU w w4.heap.size A X l w.heap.size sv4 bs gu U3 c3 w10 from ⟨HZ.out, HU.out⟩)
      clear HZ HU
      go_region_held3 (fun w' => w'.cell? ⟨gu, 0, none⟩ = some (.slice U3 bs.length c3) ∧ Hid (PU w w4.heap.size A X l w.heap.size sv4 bs gu U3 c3 w'))
        (first | exact PU.toS (Hid.out (by assumption)) | exact PU.toS (PU.drew (Hid.out (by assumption))))
        (first
          | (go_at_call 42; (with_reducible refine (WErr_any w.heap.size w.heap.size sv4 bs 0 _ ?_).mono ?_); (exact (PU.ofS (w := w) (N := w4.heap.size) (A := A) (X := X) (l := l) (g := w.heap.size) (sv := sv4) (b := bs) (gu := gu) (U := U3) (c := c3) (by assumption)).p.wtr); rintro r w11 ⟨rfl, rfl⟩; have HZ1 := Lib.hid (PU.ofS (w := w) (N := w4.heap.size) (A := A) (X := X) (l := l) (g := w.heap.size) (sv := sv4) (b := bs) (gu := gu) (U := U3) (c := c3) (by assumption)))
          | (go_at_call 32; (with_reducible refine (Data_any w.heap.size w.heap.size sv4 bs 0 _ ?_ (by omega)).mono ?_); (exact (PU.ofS (w := w) (N := w4.heap.size) (A := A) (X := X) (l := l) (g := w.heap.size) (sv := sv4) (b := bs) (gu := gu) (U := U3) (c := c3) (by assumption)).p.wtr); rintro r w12 hf; obtain ⟨D, cD, rfl, hd, hk⟩ := hf.at; have HZ2 := Lib.hid (PU.fresh (PU.ofS (w := w) (N := w4.heap.size) (A := A) (X := X) (l := l) (g := w.heap.size) (sv := sv4) (b := bs) (gu := gu) (U := U3) (c := c3) (by assumption)) hk); have HD := Lib.hid hd; clear hf hd hk)
          | (go_at_call 38; (with_reducible refine (bytes_any D U3 bs bs cD c3 _ HD.out ?_ (by omega)).mono ?_); (exact (PU.ofS (w := w) (N := w4.heap.size) (A := A) (X := X) (l := l) (g := w.heap.size) (sv := sv4) (b := bs) (gu := gu) (U := U3) (c := c3) (by assumption)).u.rb.at_); rw [decide_eq_true rfl]; rintro r w13 ⟨rfl, hk⟩; have HZ3 := Lib.hid (PU.fresh (PU.ofS (w := w) (N := w4.heap.size) (A := A) (X := X) (l := l) (g := w.heap.size) (sv := sv4) (b := bs) (gu := gu) (U := U3) (c := c3) (by assumption)) hk); clear hk)
          | (go_at_call 28; (with_reducible refine (stands_any X A l l cX cA _ ?_ ?_ hXc (by omega)).mono ?_); (exact (PU.ofS (w := w) (N := w4.heap.size) (A := A) (X := X) (l := l) (g := w.heap.size) (sv := sv4) (b := bs) (gu := gu) (U := U3) (c := c3) (by assumption)).p.x); (exact (PU.ofS (w := w) (N := w4.heap.size) (A := A) (X := X) (l := l) (g := w.heap.size) (sv := sv4) (b := bs) (gu := gu) (U := U3) (c := c3) (by assumption)).p.v); rw [decide_eq_true rfl]; rintro r w14 ⟨rfl, hk⟩; have HZ4 := Lib.hid (PU.fresh (PU.ofS (w := w) (N := w4.heap.size) (A := A) (X := X) (l := l) (g := w.heap.size) (sv := sv4) (b := bs) (gu := gu) (U := U3) (c := c3) (by assumption)) hk); clear hk))
      clear HY HZ1 HZ2 HD HZ3
      have HZ := Lib.hid HZ4.out.p
      have HSZ := Lib.hid (show w4.heap.size ≤ w14.heap.size from by have := HZ4.out.u.box.lt; have := HKS.out; omega)
      clear HZ4
      have HN0 := Lib.hid (show (⟨bs, 0⟩ : Rd).val = na ∧ (⟨bs, 0⟩ : Rd).nx = ⟨encs (vnums V) ++ enc nb, 0⟩ by
        rw [← HBS.out, List.append_assoc]
        exact Rd.num (by omega) _)
      have HTK := Lib.hid (takeV_encs HCK.out hv16 (enc nb))
      have HN2 := Lib.hid (show (⟨enc nb, 0⟩ : Rd).val = nb ∧ (⟨enc nb, 0⟩ : Rd).nx = ⟨[], 0⟩ by
        have := Rd.num (x := nb) (by omega) []
        rwa [List.append_nil] at this)
      have HBY := Lib.hid (show isByte bs by rw [← HBS.out]; exact isByte_app (isByte_app (enc_byte _) (encs_byte _)) (enc_byte _))
      as_aux_lemma =>
        go_wp2_with (fail)
        refine (Data_any _ _ sv4 bs 0 _ HZ.out.wtr (by omega)).mono ?_
        rintro r w15 hf
        obtain ⟨D, cD, rfl, hd, hk⟩ := hf.at
        have HZ5 := Lib.hid (HZ.out.fresh hk)
        have HD := Lib.hid hd
        have HSZ5 := Lib.hid (Nat.le_trans HSZ.out hk.size)
        clear hf hd hk HZ
        go_wp2_with (fail)
        refine (Read_any D bs cD _ HD.out HD.out.noneNil (by omega)).mono ?_
        rintro r w16 ⟨dd, gr, rfl, hr, ⟨hdd, hgr⟩, hk⟩
        have HZ6 := Lib.hid (HZ5.out.fresh hk)
        have HR6 := Lib.hid (show RdAt w16 dd gr ⟨bs, 0⟩ from ⟨hr, HBY.out⟩)
        have HGR := Lib.hid (show w4.heap.size ≤ gr from Nat.le_trans HSZ5.out hgr)
        clear hr hdd hgr hk HZ5 HD
        go_wp2_with (fail)
        refine (RNum_any dd gr _ _ HR6.out).mono ?_
        rintro r w17 ⟨rfl, hk, hr⟩
        rw [HN0.out.1]
        rw [HN0.out.2] at hr
        have HZ7 := Lib.hid (HZ6.out.kept hk fun k e => by subst e; exact HGR.out)
        have HR7 := Lib.hid hr
        clear hk hr HZ6 HR6
        go_wp2_with (fail)
        refine (Take_any dd gr _ _ HR7.out).mono ?_
        rw [HTK.out]
        rintro r w18 ⟨A8, c8, rfl, ho, hk, hr⟩
        have HZ8 := Lib.hid (HZ7.out.kept hk fun k e => by subst e; exact HGR.out)
        have HR8 := Lib.hid hr
        have HA8 := Lib.hid (show ∀ a, A8 = some a → a.block ≠ gr from fun a ha e => by
          subst ha
          have h1 := (ho.lt a.block rfl).1
          have h2 := HR7.out.at_.lt
          omega)
        have HD8 := Lib.hid (show DotsAt w18 A8 V from DotsAt.of_own ho)
        clear ho hk hr HZ7 HR7
        go_wp2_with (fail)
        refine (RNum_any dd gr _ _ HR8.out).mono ?_
        rintro r w19 ⟨rfl, hk, hr⟩
        rw [HN2.out.1]
        rw [HN2.out.2] at hr
        have HZ9 := Lib.hid (HZ8.out.kept hk fun k e => by subst e; exact HGR.out)
        have HR9 := Lib.hid hr
        have HD9 := Lib.hid (HD8.out.kept hk fun a ha e => HA8.out a ha e)
        clear hk hr HZ8 HR8 HD8
        as_aux_lemma =>
          go_wp2_with (fail)
          refine (REnd_any dd gr _ _ HR9.out).mono ?_
          rintro r w20 ⟨rfl, rfl⟩
          go_wp2_with (fail)
          refine (RMerge_any A none l [] cA 0 _ HZ9.out.v DotsAt.nil lA (by simp)).mono ?_
          rw [show says [] = row0 from rfl, max_row0 HRow.out, HVV.out]
          rintro r w21 hf
          obtain ⟨A9, c9, rfl, hd, hk⟩ := hf.at
          have HZ10 := Lib.hid (HZ9.out.fresh hk)
          have HD10 := Lib.hid (HD9.out.fresh hk)
          have HD11 := Lib.hid hd
          clear hf hd hk HZ9 HD9 HR9
          go_wp2_with (fail)
          refine (Same_any A8 A9 V V c8 c9 _ HD10.out HD11.out (by omega)).mono ?_
          rw [decide_eq_true rfl]
          rintro r w22 ⟨rfl, hk⟩
          have HZ11 := Lib.hid (HZ10.out.fresh hk)
          clear hk HZ10 HD10 HD11
          go_wp2_with (fail)
          refine (known_any _).mono ?_
          rintro r w23 ⟨rfl, hk⟩
          have HF := Lib.hid (HZ11.out.fresh hk)
          clear hk HZ11
          go_wp2
          go_ret
          exact ⟨rfl, HF.out.k⟩
end Go.Proofs.Ytlefbnnlcacheaa
