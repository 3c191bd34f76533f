/- The walk of the law VectorTakes: it returns true, whatever the bytes. Conditions: the bytes lie in memory as BytesAt says. -/
import Derived.Test.YtlefbnnlcacheaaVRTake
import Derived.Test.YtlefbnnlcacheaaVBack2
import Derived.Test.YtlefbnnlcacheaaVKnown
import Derived.Test.YtlefbnnlcacheaaVHave
namespace Go.Proofs.Ytlefbnnlcacheaa
open Go.RowKit

theorem BytesAt.noneNil {w : World} {A : Option Addr} {l : List Int} (h : BytesAt w A l) : A = none → l = [] := by
  rintro rfl
  rcases l with _ | ⟨b, l⟩
  · rfl
  · obtain ⟨ad, e, _⟩ := h 0 (by simp)
    cases e
theorem RRead_any (A : Option Addr) (b : List Int) (c : Nat) (w : World) : Calls Try.prog 34 #[.slice A b.length c] w fun r w' => r = .returned (.agg (rdV A b c 0 0)) ∧ Kept (fun _ => False) w w' := by
  go_enter Try.func34, Try.ntmps34
  go_wp2
  exact bodyPost_ret (results_cell_row (show Try.f34.results = #[.cell 2 53] by kernel_rfl) _ _ w.heap.size 53 (rdV A b c 0 0) (0, 0) _ rfl (Box.new w _ _) Try.underlying53 rfl (size_RR.trans rfl)) rfl ⟨rfl, (Kept.refl _ _).alloc _⟩
theorem RLeft_any (A : Option Addr) (b : List Int) (c a : Nat) (e : Int) (w : World) (ha : a ≤ b.length) (hl : b.length ≤ 1000000) : Calls Try.prog 36 #[.agg #[.slice A b.length c, .int .i64 a, .int .i64 e]] w fun r w' => r = .returned (.int .i64 (b.drop a).length) ∧ Kept (fun _ => False) w w' := by
  go_enter Try.func36, Try.ntmps36
  go_wp2
  go_ret
  exact ⟨ret_int (by rw [List.length_drop]; omega), (Kept.refl _ _).alloc _⟩
theorem Take_nil (w : World) : Calls Try.prog 30 #[.pointer none] w fun r w' => r = .returned (.tuple #[.slice none 0 0, .int .i64 1]) ∧ w = w' := by
  go_enter Try.func30, Try.ntmps30
  go_wp2_with (fail)
  refine (RNumber_nil _).mono ?_
  rintro r w1 ⟨rfl, rfl⟩
  go_wp2_with (fail)
  refine (RErr_nil _).mono ?_
  rintro r w1 ⟨rfl, rfl⟩
  go_wp2
  go_ret2
  exact ⟨rfl, rfl⟩
/-- What VectorTakes has once both have taken. -/
structure TkAt (w : World) (A : Option Addr) (b : List Int) (c : Nat) (d g : Nat) (s : Rd) (V1 V2 : Option Addr) (V : List Dt) (gr a : Nat) (wr : World) : Prop where
  rd : RdAt wr d g s
  p : DotsAt wr V1 V
  q : DotsAt wr V2 V
  arg : BytesAt wr A b
  box : Box wr gr 53 (rdV A b c a s.e)
  k : Kept (fun _ => False) w wr
section
variable {w : World} {A V1 V2 : Option Addr} {b : List Int} {c d g gr a : Nat} {s : Rd} {V : List Dt} {w1 w2 : World}
theorem TkAt.fresh (h : TkAt w A b c d g s V1 V2 V gr a w1) (hk : Kept (fun _ => False) w1 w2) : TkAt w A b c d g s V1 V2 V gr a w2 :=
  ⟨h.rd.fresh hk, h.p.fresh hk, h.q.fresh hk, h.arg.fresh hk, h.box.kept hk id, h.k.trans hk fun _ _ e => e⟩
theorem TkAt.drew (h : TkAt w A b c d g s V1 V2 V gr a w1) : TkAt w A b c d g s V1 V2 V gr a w1.drew := h.fresh (Kept.refl _ _).drew
theorem TkAt.toS (h : TkAt w A b c d g s V1 V2 V gr a w1) : w1.cell? ⟨gr, 0, none⟩ = some (.slice A b.length c) ∧ w1.cell? ⟨gr, 1, none⟩ = some (.int .i64 a) ∧ w1.cell? ⟨gr, 2, none⟩ = some (.int .i64 s.e) ∧ Hid (TkAt w A b c d g s V1 V2 V gr a w1) :=
  ⟨by simpa [rdV] using h.box.cell 0, by simpa [rdV] using h.box.cell 1, by simpa [rdV] using h.box.cell 2, Lib.hid h⟩
theorem TkAt.ofS (h : w1.cell? ⟨gr, 0, none⟩ = some (.slice A b.length c) ∧ w1.cell? ⟨gr, 1, none⟩ = some (.int .i64 a) ∧ w1.cell? ⟨gr, 2, none⟩ = some (.int .i64 s.e) ∧ Hid (TkAt w A b c d g s V1 V2 V gr a w1)) : TkAt w A b c d g s V1 V2 V gr a w1 := h.2.2.2.out
end

set_option maxRecDepth 100000 in
set_option maxHeartbeats 12800000 in
theorem Takes_walk (A : Option Addr) (b : List Int) (cA : Nat) (w : World) (hA : BytesAt w A b) (hby : isByte b) (hc : b.length ≤ cA ∧ cA ≤ maxLen) :
    Calls Try.prog 7 #[.slice A b.length cA] w (KnownEnd w) := by
  by_cases h4 : 4000 < b.length
  · clear hA hby
    go_enter Try.func7, Try.ntmps7
    go_wp2_with (fail)
    refine (known_any _).mono ?_
    rintro e w1 ⟨rfl, hk⟩
    have HK := Lib.hid hk
    clear hk
    go_wp2
    go_ret
    exact ⟨rfl, HK.out⟩
  obtain ⟨hc1, hc2⟩ := hc
  have HA := Lib.hid hA
  have HBY := Lib.hid hby
  have HBL := Lib.hid (show b ≠ [] → ∀ a, A = some a → a.block < w.heap.size from fun hl a ha => by
    subst ha
    obtain ⟨ad, e, h0⟩ := hA 0 (List.length_pos_iff.2 hl)
    injection e with e
    subst e
    have := World.block_lt_of_cell? w _ h0
    have hb : (a.add 0).block = a.block := by unfold Addr.add; split <;> rfl
    rwa [hb] at this)
  obtain ⟨er, V, s, hx⟩ : ∃ er V s, takeV ⟨b, 0⟩ = (er, V, s) := ⟨_, _, _, rfl⟩
  have HX := Lib.hid hx
  have hvl : V.length ≤ 16 := by have := takeV_len ⟨b, 0⟩; rw [hx] at this; exact this
  have hle : er = 0 → b = encs (vnums V) ++ s.l ∧ s.e = 0 ∧ checkV V = 0 ∧ V.length ≤ 16 := fun h => by subst h; exact takeV_inv hby hx
  have HLE := Lib.hid hle
  clear hA hby hx hle
  go_enter Try.func7, Try.ntmps7
  go_wp2_with (fail)
  refine (Read_any A b cA _ HA.out HA.out.noneNil (by omega)).mono ?_
  rintro r w1 ⟨d, g, rfl, hr, ⟨hd, hg⟩, hk⟩
  have HR1 := Lib.hid (show RdAt w1 d g ⟨b, 0⟩ from ⟨hr, HBY.out⟩)
  have HG1 := Lib.hid (show w.heap.size ≤ g from hg)
  have HA1 := Lib.hid (HA.out.fresh hk)
  have HK1 := Lib.hid hk
  clear hr hd hg hk HA
  go_wp2_with (fail)
  refine (Take_any d g _ _ HR1.out).mono ?_
  rw [HX.out]
  rintro r w2 ⟨V1, c1, rfl, ho, hk, hr⟩
  have HK2 := Lib.hid (HK1.out.trans hk fun k hk e => by have := HG1.out; omega)
  have HA2 := Lib.hid (show BytesAt w2 A b from by
    rcases b with _ | ⟨x, b⟩
    · exact BytesAt.nil
    · exact HA1.out.kept hk fun a ha e => by have := HBL.out (by simp) a ha; have := HG1.out; omega)
  have HR2 := Lib.hid hr
  have HD2 := Lib.hid (show DotsAt w2 V1 V from DotsAt.of_own ho)
  clear ho hk hr HR1 HA1 HK1
  go_wp2_with (fail)
  refine (RRead_any A b cA _).mono ?_
  rintro r w3 ⟨rfl, hk⟩
  have HK3 := Lib.hid (HK2.out.trans hk fun _ _ e => e)
  have HA3 := Lib.hid (HA2.out.fresh hk)
  have HR3 := Lib.hid (HR2.out.fresh hk)
  have HD3 := Lib.hid (HD2.out.fresh hk)
  clear hk HK2 HA2 HR2 HD2
  simp only [rdV, Int.natCast_zero]
  go_wp2_with (fail)
  refine (RTake_any A b cA _ HA3.out HBY.out (by omega) fun hl a ha => Nat.lt_of_lt_of_le (HBL.out hl a ha) HK3.out.size).mono ?_
  rw [HX.out]
  rintro r w4 ⟨V2, c2, a, rfl, ha, hla, hd2, hk⟩
  have HK4 := Lib.hid (HK3.out.trans hk fun _ _ e => e)
  have HA4 := Lib.hid (HA3.out.fresh hk)
  have HR4 := Lib.hid (HR3.out.fresh hk)
  have HD4 := Lib.hid (HD3.out.fresh hk)
  have HDD4 := Lib.hid (show DotsAt w4 V2 V from hd2)
  have HLA := Lib.hid (show b.drop a = s.l from hla)
  clear hk hd2 hla HK3 HA3 HR3 HD3
  simp only [rdV]
  go_upto_region 6 with (fail)
  have hgr : w.heap.size ≤ w4.heap.size := HK4.out.size
  have HZ := Lib.hid (show TkAt w A b cA d g s V1 V2 V w4.heap.size a (w4.alloc (.cells #[.slice A b.length cA, .int .i64 a, .int .i64 s.e] 53)) from by
    have hk := (Kept.refl (fun _ => False) w4).alloc (.cells #[.slice A b.length cA, .int .i64 a, .int .i64 s.e] 53)
    exact ⟨HR4.out.fresh hk, HD4.out.fresh hk, HDD4.out.fresh hk, HA4.out.fresh hk, Box.new w4 _ _, HK4.out.trans hk fun _ _ e => e⟩)
  clear HR4 HD4 HDD4 HA4 HK4
  generalize w4.alloc (.cells #[.slice A b.length cA, .int .i64 a, .int .i64 s.e] 53) = W at HZ ⊢
  generalize w4.heap.size = gr at HZ hgr ⊢
  obtain ⟨z0, z1, z2, -⟩ := HZ.out.toS
  have hee : (er != er) = false := by simp
  have HSL := Lib.hid (show (b.drop a).length = s.l.length by rw [HLA.out])
  go_region_held3 (fun w' => w'.cell? ⟨gr, 0, none⟩ = some (.slice A b.length cA) ∧ w'.cell? ⟨gr, 1, none⟩ = some (.int .i64 a) ∧ w'.cell? ⟨gr, 2, none⟩ = some (.int .i64 s.e) ∧ Hid (TkAt w A b cA d g s V1 V2 V gr a w'))
    (first | exact TkAt.toS (Hid.out (by assumption)) | exact TkAt.toS (TkAt.drew (Hid.out (by assumption))))
    (first
      | (go_at_call 21; (with_reducible refine (Same_any V1 V2 V V c1 c2 _ ?_ ?_ (by omega)).mono ?_); (exact (TkAt.ofS (w := w) (A := A) (b := b) (c := cA) (d := d) (g := g) (s := s) (V1 := V1) (V2 := V2) (V := V) (gr := gr) (a := a) (by assumption)).p); (exact (TkAt.ofS (w := w) (A := A) (b := b) (c := cA) (d := d) (g := g) (s := s) (V1 := V1) (V2 := V2) (V := V) (gr := gr) (a := a) (by assumption)).q); rw [decide_eq_true rfl]; rintro r w5 ⟨rfl, hk⟩; have HZ1 := Lib.hid (TkAt.fresh (TkAt.ofS (w := w) (A := A) (b := b) (c := cA) (d := d) (g := g) (s := s) (V1 := V1) (V2 := V2) (V := V) (gr := gr) (a := a) (by assumption)) hk); clear hk)
      | (go_at_call 35; (with_reducible refine (Left_any d g s.l s.e _ ?_).mono ?_); (exact (TkAt.ofS (w := w) (A := A) (b := b) (c := cA) (d := d) (g := g) (s := s) (V1 := V1) (V2 := V2) (V := V) (gr := gr) (a := a) (by assumption)).rd.at_); rintro r w6 ⟨rfl, rfl⟩; have HZ2 := Lib.hid (TkAt.ofS (w := w) (A := A) (b := b) (c := cA) (d := d) (g := g) (s := s) (V1 := V1) (V2 := V2) (V := V) (gr := gr) (a := a) (by assumption)))
      | (go_at_call 36; (with_reducible refine (RLeft_any A b cA a s.e _ ha (by omega)).mono ?_); rw [HSL.out]; rintro r w7 ⟨rfl, hk⟩; have HZ3 := Lib.hid (TkAt.fresh (TkAt.ofS (w := w) (A := A) (b := b) (c := cA) (d := d) (g := g) (s := s) (V1 := V1) (V2 := V2) (V := V) (gr := gr) (a := a) (by assumption)) hk); clear hk)
      | (go_at_call 37; (with_reducible refine (RErrs_any d g s _ ?_).mono ?_); (exact (TkAt.ofS (w := w) (A := A) (b := b) (c := cA) (d := d) (g := g) (s := s) (V1 := V1) (V2 := V2) (V := V) (gr := gr) (a := a) (by assumption)).rd); rintro r w8 ⟨rfl, rfl⟩; have HZ4 := Lib.hid (TkAt.ofS (w := w) (A := A) (b := b) (c := cA) (d := d) (g := g) (s := s) (V1 := V1) (V2 := V2) (V := V) (gr := gr) (a := a) (by assumption))))
  have HY := Lib.hid (TkAt.ofS (w := w) (A := A) (b := b) (c := cA) (d := d) (g := g) (s := s) (V1 := V1) (V2 := V2) (V := V) (gr := gr) (a := a) (by assumption))
  clear HZ z0 z1 z2 hee
  as_aux_lemma =>
    go_wp2_with (fail)
    refine (Take_nil _).mono ?_
    rintro r w10 ⟨rfl, rfl⟩
    by_cases her : er = 0
    · subst her
      obtain ⟨hb, hse, hck, -⟩ := HLE.out rfl
      have HB := Lib.hid hb
      have HCK := Lib.hid hck
      have hn : b.length - s.l.length = (encs (vnums V)).length := by
        have := congrArg List.length hb
        rw [List.length_append] at this
        omega
      have hsl : s.l.length ≤ b.length := by
        have := congrArg List.length hb
        rw [List.length_append] at this
        omega
      have HN := Lib.hid hn
      clear hb hse hck hn
      clear HLE HX
      have HPV := Lib.hid (show puts [] 0 (vnums (vec (says V))) = encs (vnums V) by rw [vec_says HCK.out]; simp [puts, encs])
      have HDL := Lib.hid (show (encs (vnums V)).length ≤ 4000 from by
        have h1 := congrArg List.length HB.out
        rw [List.length_append] at h1
        omega)
      have HW := Lib.hid (WriterAt.new w7)
      have HKW := Lib.hid ((Kept.refl (fun _ => False) w7).alloc (.cells #[.slice none 0 0, .int .i64 0] 46))
      go_wp2_with (fail)
      generalize w7.alloc (.cells #[.slice none 0 0, .int .i64 0] 46) = W2 at HW HKW ⊢
      refine (Put_any _ _ _ [] 0 V1 V c1 _ HW.out (HY.out.p.fresh HKW.out) (by omega) (by simp)).mono ?_
      rw [HPV.out]
      rintro r w12 ⟨rfl, sv, hw, hk, -⟩
      have hk2 : Kept (fun _ => False) w7 w12 := HKW.out.trans hk fun k hk h => by rcases h with h | h; omega; cases h
      have HZ := Lib.hid (HY.out.fresh hk2)
      have HW2 := Lib.hid hw
      clear hw hk hk2 HY HW HKW
      go_wp2_with (fail)
      refine (Check_any V1 V c1 _ HZ.out.p (by omega)).mono ?_
      rw [HCK.out]
      rintro r w13 ⟨rfl, hk⟩
      have HZ3 := Lib.hid (HZ.out.fresh hk)
      have HW3 := Lib.hid (HW2.out.fresh hk)
      clear hk HZ HW2
      go_wp2_with (fail)
      refine (Data_any _ _ _ _ _ _ HW3.out (by have := HDL.out; omega)).mono ?_
      rintro r w14 hf
      obtain ⟨D, cD, rfl, hd, hk⟩ := hf.at
      have HZ4 := Lib.hid (HZ3.out.fresh hk)
      have HD := Lib.hid hd
      clear hf hd hk HZ3 HW3
      go_wp2_with (fail)
      refine (Left_any d g s.l s.e _ HZ4.out.rd.at_).mono ?_
      rintro r w15 ⟨rfl, rfl⟩
      have hcast : (b.length : Int) - s.l.length = ((b.length - s.l.length : Nat) : Int) := by omega
      go_wp2_with (fail)
      rw [HN.out]
      have HAP := Lib.hid (show BytesAt w14 A (encs (vnums V)) from by
        have := HZ4.out.arg
        rw [HB.out] at this
        intro k hk
        obtain ⟨ad, e, h0⟩ := this k (by rw [List.length_append]; omega)
        rw [List.getElem_append_left hk] at h0
        exact ⟨ad, e, h0⟩)
      refine (bytes_any D A _ _ cD cA _ HD.out HAP.out (by have := HDL.out; omega)).mono ?_
      rw [decide_eq_true rfl]
      rintro r w16 ⟨rfl, hk⟩
      have HZ5 := Lib.hid (HZ4.out.fresh hk)
      clear hk HZ4 HD HAP hcast
      go_wp2_with (fail)
      refine (known_any _).mono ?_
      rintro r w17 ⟨rfl, hk⟩
      have HF := Lib.hid (HZ5.out.k.trans hk fun _ _ e => e)
      clear hk
      go_wp2
      go_ret
      exact ⟨rfl, HF.out⟩
    · have e1 : (er != 0) = true := by simp [her]
      have e2 : (er == 0) = false := by simp [her]
      clear her
      go_wp2_with (fail)
      refine (known_any _).mono ?_
      rintro r w11 ⟨rfl, hk⟩
      have HF := Lib.hid (HY.out.k.trans hk fun _ _ e => e)
      clear hk
      go_wp2
      go_ret
      exact ⟨rfl, HF.out⟩
end Go.Proofs.Ytlefbnnlcacheaa
