/- The walk of Put. Conditions: the Writer and the Dots lie in memory as WriterAt and DotsAt say. -/
import Derived.Test.YtoeipjhdpeibpaaGreatVRAdd
import Derived.Test.YtoeipjhdpeibpaaGreatSRNum
namespace Go.Proofs.YtoeipjhdpeibpaaGreat
open Go.RowKit

/-- what numbers lay behind l, if there is no error -/
def puts (l : List Int) (e : Int) (m : List Nat) : List Int := if e ≠ 0 then l else l ++ m.flatMap enc
def dotNums (l : List Dt) : List Nat := l.flatMap fun d => [d.site.toNat, d.seq.toNat]
def vnums (l : List Dt) : List Nat := l.length :: dotNums l
theorem puts_nil (l : List Int) (e : Int) : puts l e [] = l := by unfold puts; split <;> simp
theorem puts_num (l : List Int) (e : Int) (m : List Nat) (x : Nat) : wrB (puts l e m) e (x : Int) = puts l e (m ++ [x]) ∧ wrE e (x : Int) = e := by
  by_cases h : e = 0
  · subst h
    have := wr_ok (l := puts l 0 m) (v := x)
    rw [this.1, this.2]
    simp [puts]
  · have := wr_err (l := puts l e m) (v := (x : Int)) h
    rw [this.1, this.2]
    simp [puts, h]
theorem enc_len9 (x : Nat) (h : x ≤ 9223372036854775807) : (enc x).length ≤ 9 := enc_len 8 x (Nat.lt_of_le_of_lt h (by decide))
theorem encs_len (m : List Nat) (h : ∀ x ∈ m, x ≤ 9223372036854775807) : (m.flatMap enc).length ≤ 9 * m.length := by
  induction m with
  | nil => simp
  | cons x m ih =>
    have h1 := enc_len9 x (h x (by simp))
    have h2 := ih fun y hy => h y (by simp [hy])
    simp only [List.flatMap_cons, List.length_append, List.length_cons]
    omega
theorem puts_len (l : List Int) (e : Int) (m : List Nat) (h : ∀ x ∈ m, x ≤ 9223372036854775807) : (puts l e m).length ≤ l.length + 9 * m.length := by
  unfold puts
  split
  · omega
  · rw [List.length_append]
    have := encs_len m h
    omega
theorem dotNums_snoc (l : List Dt) (k : Nat) (h : k < l.length) : dotNums (l.take (k + 1)) = dotNums (l.take k) ++ [l[k].site.toNat, l[k].seq.toNat] := by
  unfold dotNums
  rw [List.take_succ_eq_append_getElem h, List.flatMap_append]
  rfl
theorem dotNums_len (l : List Dt) : (dotNums l).length = 2 * l.length := by
  induction l with
  | nil => rfl
  | cons d l ih => simp only [dotNums, List.flatMap_cons, List.length_append, List.length_cons, List.length_nil] at ih ⊢; omega
def okDots (l : List Dt) : Prop := ∀ d ∈ l, okDot d = true
theorem vec_ok {r : List Int} (h : Row r) (k : Nat) (hk : k ≤ 17) : okDots (vecTo r k) := by
  induction k with
  | zero => intro d hd; simp [vecTo] at hd
  | succ k ih =>
    intro d hd
    unfold vecTo at hd
    split at hd
    · rename_i hp
      rcases List.mem_append.1 hd with hd | hd
      · exact ih (by omega) d hd
      · simp at hd
        subst hd
        have hb := h.bd k
        have h0 := h.zero
        have : k ≠ 0 := by rintro rfl; omega
        simp [okDot]
        omega
    · exact ih (by omega) d hd
theorem dotNums_bd (l : List Dt) (h : okDots l) : ∀ x ∈ dotNums l, x ≤ 2147483647 := by
  intro x hx
  simp only [dotNums, List.mem_flatMap] at hx
  obtain ⟨d, hd, hx⟩ := hx
  have := h d hd
  simp [okDot] at this
  simp at hx
  omega

/-- A Writer gone on from. -/
def WNext (w : World) (base g : Nat) (sv : Value) (l : List Int) (e : Int) (w' : World) : Prop := ∃ sv', WriterAt w' base g sv' l e ∧ Kept (OwnsW g sv) w w' ∧ MovedW w sv sv'
theorem WNext.refl {w : World} {base g : Nat} {sv : Value} {l : List Int} {e : Int} (h : WriterAt w base g sv l e) : WNext w base g sv l e w := ⟨sv, h, Kept.refl _ _, fun _ h => .inl h⟩
theorem WNext.fresh {w w1 w2 : World} {base g : Nat} {sv : Value} {l : List Int} {e : Int} (h : WNext w base g sv l e w1) (hk : Kept (fun _ => False) w1 w2) : WNext w base g sv l e w2 := by
  obtain ⟨sv', h1, h2, h3⟩ := h
  exact ⟨sv', h1.fresh hk, h2.trans hk fun _ _ e => e.elim, h3⟩
theorem WNext.before {w w1 w2 : World} {base g : Nat} {sv : Value} {l : List Int} {e : Int} (h : WNext w1 base g sv l e w2) (hk : Kept (fun _ => False) w w1) : WNext w base g sv l e w2 := by
  obtain ⟨sv', h1, h2, h3⟩ := h
  exact ⟨sv', h1, (hk.more fun _ _ e => e.elim).trans h2 fun _ _ e => e, fun k e => (h3 k e).imp_right fun h => Nat.le_trans hk.size h⟩
theorem WNext.trans {w w1 w2 : World} {base g : Nat} {sv sv' : Value} {l : List Int} {e : Int} (h2 : Kept (OwnsW g sv) w w1) (h3 : MovedW w sv sv') (h : WNext w1 base g sv' l e w2) : WNext w base g sv l e w2 := by
  obtain ⟨sv'', g1, g2, g3⟩ := h
  exact ⟨sv'', g1, h2.trans g2 h3.owns, h3.trans g3 h2.size⟩

set_option maxRecDepth 100000 in
set_option maxHeartbeats 1600000 in
theorem Put_any (base g : Nat) (sv : Value) (l : List Int) (e : Int) (A : Option Addr) (v : List Dt) (c : Nat) (w : World) (h : WriterAt w base g sv l e) (hv : DotsAt w A v) (hlen : v.length ≤ 4611686018427387904) (hl : l.length ≤ 900000) :
    Calls Tryz.prog 15 #[.pointer (some ⟨g, 0, none⟩), .slice A v.length c] w (WPost w base g sv (puts l e (vnums (vec (says v)))) e) := by
  have H := Lib.hid h
  have HV := Lib.hid hv
  obtain ⟨out, hout⟩ : ∃ out, puts l e (vnums (vec (says v))) = out := ⟨_, rfl⟩
  rw [hout]
  have HOUT := Lib.hid (show ∀ r, says v = r → puts l e (vnums (vec r)) = out from fun r hr => by rw [← hr]; exact hout)
  clear h hv hout
  go_enter Tryz.func15, Tryz.ntmps15
  go_wp2_with (fail)
  refine (of_any A v c _ HV.out hlen).mono ?_
  rintro r w1 ⟨rfl, hk⟩
  have HK := Lib.hid hk
  have HR := Lib.hid (Row.says v)
  clear hk
  obtain ⟨r, hr⟩ : ∃ r, says v = r := ⟨_, rfl⟩
  rw [hr] at HR ⊢
  have HOU := Lib.hid (HOUT.out r hr)
  clear hr HOUT
  go_wp2_with (fail)
  refine (vector_any _ _ HR.out).mono ?_
  rintro e2 w2 hf
  obtain ⟨A', c', rfl, ho, hk⟩ := hf.since HK.out
  have HO := Lib.hid ho
  have HK2 := Lib.hid hk
  have HOK := Lib.hid (vec_ok HR.out 17 (Nat.le_refl _))
  have hll := vecTo_len r 17
  have HA := Lib.hid (show ∀ a, A' = some a → ¬ OwnsW g sv a.block from fun a ha hw => by
    subst ha
    have h1 := (H.out.own_lt _ hw).2
    have h2 := (ho.lt a.block rfl).1
    omega)
  have HW := Lib.hid (H.out.fresh hk)
  clear hf ho hk HK H HV
  generalize hL : vecTo r 17 = L at HOK hll
  have HL := Lib.hid (show vec r = L from hL)
  clear hL
  have HO2 := Lib.hid (show w2.ownsRow w.heap.size 55 2 (.slice A' L.length c') L.length (dots L) by rw [← HL.out]; exact HO.out)
  rw [HL.out]
  clear HO
  have HD := Lib.hid (DotsAt.of_own HO2.out)
  have HP := Lib.hid (show wrB l e L.length = puts l e [L.length] ∧ wrE e L.length = e by have := puts_num l e [] L.length; rwa [puts_nil] at this)
  go_wp2_with (fail)
  refine (Number_any base g sv l e L.length _ HW.out (by omega) (by omega)).mono ?_
  rw [HP.out.1, HP.out.2]
  rintro e3 w3 ⟨rfl, hn⟩
  have HN := Lib.hid (show WNext w2 base g sv (puts l e (L.length :: dotNums (L.take 0))) e w3 from hn)
  clear hn HW
  go_wp2_with (fail)
  go_loopw [16] (fun i wr => ∃ k : Nat, i = .int .i64 k ∧ k ≤ L.length ∧ WNext w2 base g sv (puts l e (L.length :: dotNums (L.take k))) e wr) (fun i _ => L.length - (intOf i).toNat)
  case atStart => exact ⟨0, rfl, Nat.zero_le _, HN.out⟩
  case round =>
    obtain ⟨k, rfl, hk, hn⟩ := hrel
    by_cases hlt : k < L.length
    · obtain ⟨sv', hw, hkk, hm⟩ := hn
      obtain ⟨ad, rfl, x0, x1⟩ := (HD.out.kept hkk HA.out) k hlt
      have hs := dotNums_snoc L k hlt
      have hdk := HOK.out L[k] (List.getElem_mem hlt)
      have hbl : ∀ m : List Nat, m.length ≤ 1 → (∀ x ∈ m, x ≤ 9223372036854775807) → (puts l e (L.length :: dotNums (L.take k) ++ m)).length ≤ l.length + 9 * 36 := by
        intro m hm1 hm2
        have h1 := puts_len l e (L.length :: dotNums (L.take k) ++ m) fun x hx => by
          rcases List.mem_append.1 hx with hx | hx
          · rcases List.mem_cons.1 hx with rfl | hx
            · omega
            · have := dotNums_bd (L.take k) (fun d hd => HOK.out d (List.mem_of_mem_take hd)) x hx
              omega
          · exact hm2 x hx
        have h2 := dotNums_len (L.take k)
        have h3 := List.length_take_le k L
        simp only [List.length_cons, List.length_append] at h1
        omega
      generalize L[k] = d at x0 x1 hs hdk
      obtain ⟨site, seq⟩ := d
      have hd : 1 ≤ site ∧ site ≤ 16 ∧ 1 ≤ seq ∧ seq ≤ 2147483647 := by simpa [okDot] using hdk
      obtain ⟨st, rfl⟩ : ∃ n : Nat, site = n := ⟨site.toNat, by omega⟩
      obtain ⟨sq, rfl⟩ : ∃ n : Nat, seq = n := ⟨seq.toNat, by omega⟩
      simp only [Int.toNat_natCast] at x0 x1 hs
      have HS := Lib.hid hs
      have HDB := Lib.hid hd
      have HPS := Lib.hid (puts_num l e (L.length :: dotNums (L.take k)) st)
      have HPQ := Lib.hid (puts_num l e (L.length :: dotNums (L.take k) ++ [st]) sq)
      have HBL := Lib.hid hbl
      have HX := Lib.hid (Box.new wr 55 #[.int .i64 (st : Int), .int .i64 (sq : Int)])
      have HKX := Lib.hid ((Kept.refl (fun _ => False) wr).alloc (.cells #[.int .i64 (st : Int), .int .i64 (sq : Int)] 55))
      have HWW := Lib.hid (hw.fresh HKX.out)
      have HKK := Lib.hid (hkk.trans HKX.out fun _ _ e => e.elim)
      have HM := Lib.hid hm
      have HG := Lib.hid (show ¬ OwnsW g sv' wr.heap.size from fun e => by have := (hw.own_lt _ e).2; omega)
      clear hs hdk hbl hd hw hkk hm
      go_wp2_with (fail)
      generalize wr.alloc (.cells #[.int .i64 (st : Int), .int .i64 (sq : Int)] 55) = W at HX HKX HWW HKK ⊢
      clear x0 x1
      have y1 : W.cell? ⟨wr.heap.size, 1, none⟩ = some (.int .i64 (sq : Int)) := by simpa using HX.out.cell 1
      refine (Number_any base g sv' _ e st _ HWW.out (by have := HBL.out [] (by simp) (by simp); simp only [List.append_nil] at this; omega) (by have := HDB.out; omega)).mono ?_
      rw [HPS.out.1, HPS.out.2]
      rintro e4 w4 ⟨rfl, sv2, hw4, hk4, hm4⟩
      have z1 : w4.cell? ⟨wr.heap.size, 1, none⟩ = some (.int .i64 (sq : Int)) := by simpa using (HX.out.kept hk4 HG.out).cell 1
      have HW4 := Lib.hid hw4
      have HK4 := Lib.hid (HKK.out.trans hk4 (fun k hk h => HM.out.owns k hk h))
      have HM4 := Lib.hid (HM.out.trans hm4 HKK.out.size)
      clear hw4 hk4 hm4 y1
      go_wp2_with (fail)
      refine (Number_any base g sv2 _ e sq _ HW4.out (by have h0 := HDB.out; have := HBL.out [st] (by simp) (by simp; omega); omega) (by have := HDB.out; omega)).mono ?_
      rw [HPQ.out.1, HPQ.out.2]
      rintro e5 w5 ⟨rfl, hn5⟩
      have HN5 := Lib.hid (WNext.trans HK4.out HM4.out hn5)
      clear hn5 z1
      go_wp2
      go_roundw
      case rel =>
        refine ⟨k + 1, by go_num, by omega, ?_⟩
        rw [HS.out]
        have := HN5.out
        simpa using this
      case measure => simp [intOf]; omega
    · obtain rfl : k = L.length := by omega
      have HF := Lib.hid (hn.before HK2.out)
      clear hn
      go_wp2
      go_end0
      rw [List.take_length] at HF
      have := HF.out
      rw [show L.length :: dotNums L = vnums (vec r) by rw [HL.out]; rfl, HOU.out] at this
      exact ⟨rfl, this⟩
end Go.Proofs.YtoeipjhdpeibpaaGreat
