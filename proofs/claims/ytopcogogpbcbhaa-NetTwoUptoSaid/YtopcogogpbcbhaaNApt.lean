/- The walk of the law's apart, where it answers true. Conditions: the bytes lie in memory. -/
import Derived.Test.YtopcogogpbcbhaaNLst
namespace Go.Proofs.Ytopcogogpbcbhaa
open Go Go.RowKit

/-- Bytes that differ from others as a bad copy may. -/
def Apart (a b : List Int) : Prop := (a.length < b.length ∧ a = b.take a.length) ∨ (a.length = b.length ∧ a ≠ b ∧ ∃ P : Nat, ∀ j (h : j < a.length) (h' : j < b.length), a[j] ≠ b[j] → P ≤ j ∧ j < P + 4)
theorem BytesAt.taken {w : World} {A : Option Addr} {b : List Int} (h : BytesAt w A b) (n : Nat) : BytesAt w A (b.take n) := fun k hk => by
  have hk' : k < b.length := by rw [List.length_take] at hk; omega
  have := h k hk'
  rwa [List.getElem_take]
set_option maxRecDepth 100000 in
set_option maxHeartbeats 3200000 in
theorem Apart_true (A B : Option Addr) (a b : List Int) (c d : Nat) (w : World) (ha : BytesAt w A a) (hb : BytesAt w B b) (hB : B ≠ none) (hd : b.length ≤ d) (hl : b.length ≤ 1000000) (h : Apart a b) :
    Calls Try.prog 27 #[.slice A a.length c, .slice B b.length d] w (BoolPost w true) := by
  have HA := Lib.hid ha
  have HB := Lib.hid hb
  clear ha hb
  rcases h with ⟨h1, h2⟩ | ⟨h1, h2, P, h3⟩
  · as_aux_lemma =>
    have hlt : (a.length : Int) < (b.length : Int) := by omega
    have HE := Lib.hid h2
    have hb0 : (0 : Int) ≤ (a.length : Int) := by omega
    have hcd : (a.length : Int) ≤ (d : Int) := by omega
    have htn : ((a.length : Int)).toNat = a.length := by omega
    obtain ⟨ad, rfl⟩ : ∃ ad, B = some ad := by cases B with | none => exact absurd rfl hB | some ad => exact ⟨ad, rfl⟩
    clear h2 hB
    go_enter Try.func27, Try.ntmps27
    go_wp2_with (fail)
    have hc := Bytes20_any A (some ad) a (b.take a.length) c d w HA.out (HB.out.taken _) (by omega)
    rw [show (b.take a.length).length = a.length by rw [List.length_take]; omega, decide_eq_true HE.out] at hc
    refine hc.mono ?_
    clear hc
    rintro r w1 ⟨rfl, hk⟩
    have HK := Lib.hid hk
    clear hk
    go_wp2_with (fail)
    go_ret
    exact ⟨rfl, HK.out⟩
  · have H2 := Lib.hid h2
    have H3 := Lib.hid h3
    rw [← h1]
    have H1 := Lib.hid h1
    have hl' : a.length ≤ 1000000 := by omega
    clear h1 h2 h3 hl hd hB
    go_enter Try.func27, Try.ntmps27
    go_wp2_with (fail)
    go_loopw [5, 6, 7] (fun f t i wr => ∃ (k : Nat) (fi li : Int), f = .int .i64 fi ∧ t = .int .i64 li ∧ i = .int .i64 k ∧ k ≤ a.length ∧ ((fi = -1 ∧ li = -1 ∧ a.take k = b.take k) ∨ (∃ x y : Nat, fi = x ∧ li = y ∧ P ≤ x ∧ x ≤ y ∧ y < P + 4 ∧ y < k)) ∧ Kept (fun _ => False) w wr) (fun _ _ i _ => a.length - (intOf i).toNat)
    case atStart => exact ⟨0, -1, -1, rfl, rfl, rfl, Nat.zero_le _, .inl ⟨rfl, rfl, rfl⟩, Kept.refl _ _⟩
    case round =>
      obtain ⟨k, fi, li, rfl, rfl, rfl, hk, hst, hkk⟩ := hrel
      have HK := Lib.hid hkk
      by_cases hlt : k < a.length
      · obtain ⟨ad, rfl, x0⟩ := HA.out.fresh hkk k hlt
        obtain ⟨ad', rfl, y0⟩ := HB.out.fresh hkk k (by rw [← H1.out]; exact hlt)
        have hdf := H3.out k hlt (by rw [← H1.out]; exact hlt)
        generalize hd : a[k] = d1 at x0 hdf
        generalize hd' : b[k]'(by rw [← H1.out]; exact hlt) = d2 at y0 hdf
        have HD := Lib.hid hd
        have HD' := Lib.hid hd'
        have HDF := Lib.hid hdf
        clear hd hd' hkk hdf
        by_cases he : d1 = d2
        · have hx : (d1 != d2) = false := by simp [he]
          have HE := Lib.hid he
          have HST := Lib.hid hst
          clear he hst
          go_wp2_with (fail)
          go_quiet (fail)
          go_wp2
          go_roundw
          case rel =>
            refine ⟨k + 1, fi, li, rfl, rfl, by go_num, by omega, ?_, HK.out.trans (Kept.drewN_eq nq) fun _ _ e => e⟩
            rcases HST.out with ⟨e1, e2, e3⟩ | ⟨x, y, e1, e2, e3, e4, e5, e6⟩
            · refine .inl ⟨e1, e2, ?_⟩
              have hm' : k < b.length := by rw [← H1.out]; exact hlt
              rw [List.take_succ_eq_append_getElem hlt, List.take_succ_eq_append_getElem hm', e3, HD.out, HD'.out, HE.out]
            · exact .inr ⟨x, y, e1, e2, e3, e4, e5, by omega⟩
          case measure => simp [intOf]; omega
        · have hx : (d1 != d2) = true := by simp [he]
          obtain ⟨q1, q2⟩ := HDF.out he
          clear he HDF
          rcases hst with ⟨rfl, rfl, e3⟩ | ⟨x, y, rfl, rfl, e3, e4, e5, e6⟩
          · clear e3
            go_wp2_with (fail)
            go_quiet (fail)
            go_wp2
            go_roundw
            case rel => exact ⟨k + 1, k, k, rfl, rfl, by go_num, by omega, .inr ⟨k, k, rfl, rfl, q1, Nat.le_refl _, q2, by omega⟩, HK.out.trans (Kept.drewN_eq nq) fun _ _ e => e⟩
            case measure => simp [intOf]; omega
          · have hx0 : ¬ (x : Int) < 0 := by omega
            go_wp2_with (fail)
            go_quiet (fail)
            go_wp2
            go_roundw
            case rel => exact ⟨k + 1, x, k, rfl, rfl, by go_num, by omega, .inr ⟨x, k, rfl, rfl, e3, by omega, q2, by omega⟩, HK.out.trans (Kept.drewN_eq nq) fun _ _ e => e⟩
            case measure => simp [intOf]; omega
      · obtain rfl : k = a.length := by omega
        clear hkk
        rcases hst with ⟨rfl, rfl, e3⟩ | ⟨x, y, rfl, rfl, e3, e4, e5, e6⟩
        · rw [List.take_length, H1.out, List.take_length] at e3
          exact absurd e3 H2.out
        · have hx0 : (x : Int) ≥ 0 := by omega
          have hxy : ((y : Int) - (x : Int)) < 4 := by omega
          have hw : IntKind.i64.wrap ((y : Int) - (x : Int)) = (y : Int) - (x : Int) := IntWalk.i64_in _ ⟨by omega, by omega⟩
          clear e3 e4 e5 e6
          go_wp2_with (fail)
          go_ret
          exact ⟨by first | rfl | simp [hxy, hx0], HK.out⟩
end Go.Proofs.Ytopcogogpbcbhaa
