/- The law's comparison of two lists of windows. Condition: the lists lie in memory, at most a million. -/
import Derived.Test.YtkekhnohehhljaaEInt
import Derived.BigQuiet
namespace Go.Proofs.Ytkekhnohehhljaa
open Go Go.Shelf Go.RowKit Go.Lib Go.Sort

def wcs (W : List (Int × Int)) : List Value := W.flatMap fun x => [.int .i64 x.1, .int .i64 x.2]
theorem wcs_add (W : List (Int × Int)) (x : Int × Int) : wcs (W ++ [x]) = wcs W ++ [.int .i64 x.1, .int .i64 x.2] := by simp [wcs]
theorem wcs_len (W : List (Int × Int)) : (wcs W).length = W.length * 2 := by
  induction W with
  | nil => rfl
  | cons d l ih => simp only [wcs, List.flatMap_cons, List.length_append, List.length_cons, List.length_nil] at ih ⊢; omega
theorem wcs_get (l : List (Int × Int)) : ∀ (k : Nat) (h : k < l.length), (wcs l)[k * 2]? = some (.int .i64 l[k].1) ∧ (wcs l)[k * 2 + 1]? = some (.int .i64 l[k].2) := by
  induction l with
  | nil => intro k h; simp at h
  | cons x l ih =>
    intro k h
    have e : wcs (x :: l) = .int .i64 x.1 :: .int .i64 x.2 :: wcs l := rfl
    rw [e]
    cases k with
    | zero => exact ⟨rfl, rfl⟩
    | succ k =>
      rw [show (k + 1) * 2 = k * 2 + 1 + 1 by omega]
      exact ih k (by simpa using h)
theorem wcs_cell {w : World} {A : Option Addr} {l : List (Int × Int)} (h : CellsAt w A (wcs l)) (hn : 0 < l.length) : ∃ b f, A = some ⟨b, f, none⟩ ∧ ∀ k (hk : k < l.length), w.cell? ⟨b, f + k * 2, none⟩ = some (.int .i64 l[k].1) ∧ w.cell? ⟨b, f + k * 2 + 1, none⟩ = some (.int .i64 l[k].2) := by
  obtain ⟨b, f, e, h0⟩ := h.some_ (by rw [wcs_len]; omega)
  exact ⟨b, f, e, fun k hk => ⟨h0 _ _ (wcs_get l k hk).1, by rw [Nat.add_assoc]; exact h0 _ _ (wcs_get l k hk).2⟩⟩
theorem take_eq_step {α : Type} {V W : List α} {k : Nat} (h1 : k < V.length) (h2 : k < W.length) (h : V.take k = W.take k) (e : V[k] = W[k]) : V.take (k + 1) = W.take (k + 1) := by
  rw [List.take_succ_eq_append_getElem h1, List.take_succ_eq_append_getElem h2, h, e]

set_option maxRecDepth 100000 in
set_option maxHeartbeats 2000000 in
theorem same_any (A B : Option Addr) (V W : List (Int × Int)) (cA cB : Nat) (w : World) (hA : CellsAt w A (wcs V)) (hB : CellsAt w B (wcs W)) (hW : W.length ≤ 1000000) :
    Calls Try.prog 13 #[.slice A V.length cA, .slice B W.length cB] w fun r w' => r = .returned (.bool (decide (V = W))) ∧ ∃ q, w' = w.drewN q := by
  by_cases hl : V.length = W.length
  · have hB2 := hB
    rw [← hl] at hW ⊢
    obtain ⟨N, hN⟩ : ∃ N, V.length = N := ⟨_, rfl⟩
    have HV := Lib.hid hN
    have HW := Lib.hid (hl.symm.trans hN)
    have HA := Lib.hid hA
    have HB := Lib.hid hB
    rw [hN]
    rw [hN] at hW
    clear hN hl hA hB hB2
    go_enter Try.func13, Try.ntmps13
    go_wp2_with (fail)
    go_loopw [5] (fun i wr => ∃ k q : Nat, i = .int .i64 k ∧ k ≤ N ∧ wr = w.drewN q ∧ V.take k = W.take k) (fun i _ => N - (intOf i).toNat)
    case atStart => exact ⟨0, 0, rfl, Nat.zero_le _, rfl, rfl⟩
    case round =>
      obtain ⟨k, q, rfl, hk, hw, ht⟩ := hrel
      have HQ := Lib.hid hw
      have HT := Lib.hid ht
      clear hw ht
      by_cases hlt : k < N
      · have hin : (k : Int) < (N : Int) := by omega
        have h1 : k < V.length := by rw [HV.out]; exact hlt
        have h2 : k < W.length := by rw [HW.out]; exact hlt
        obtain ⟨b, f, rfl, hc⟩ := wcs_cell HA.out (by omega)
        obtain ⟨b', f', rfl, hc'⟩ := wcs_cell HB.out (by omega)
        obtain ⟨x1, x2⟩ := hc k h1
        obtain ⟨y1, y2⟩ := hc' k h2
        obtain ⟨va, hva⟩ : ∃ va, V[k] = va := ⟨_, rfl⟩
        obtain ⟨vb, hvb⟩ : ∃ vb, W[k] = vb := ⟨_, rfl⟩
        have HVA := Lib.hid hva
        have HVB := Lib.hid hvb
        rw [hva] at x1 x2
        rw [hvb] at y1 y2
        obtain ⟨p, p'⟩ := va
        obtain ⟨r, r'⟩ := vb
        simp only at x1 x2 y1 y2
        have z1 : wr.cell? ⟨b, f + k * 2, none⟩ = some (.int .i64 p) := by rw [HQ.out]; exact x1
        have z2 : wr.cell? ⟨b, f + k * 2 + 1, none⟩ = some (.int .i64 p') := by rw [HQ.out]; exact x2
        have z3 : wr.cell? ⟨b', f' + k * 2, none⟩ = some (.int .i64 r) := by rw [HQ.out]; exact y1
        have z4 : wr.cell? ⟨b', f' + k * 2 + 1, none⟩ = some (.int .i64 r') := by rw [HQ.out]; exact y2
        have aW := Try.isAgg31
        have zW := Try.sizeOf31
        clear hc hc' x1 x2 y1 y2 hva hvb
        by_cases e1 : p = r
        · by_cases e2 : p' = r'
          · as_aux_lemma =>
            subst e1 e2
            go_upto_region 6 with (fail)
            go_region
            go_wp2_with (fail)
            go_roundw
            case rel => exact ⟨k + 1, q + 1, by go_num, by omega, by rw [HQ.out]; rfl, take_eq_step h1 h2 HT.out (HVA.out.trans HVB.out.symm)⟩
            case measure => simp [intOf]; omega
          · as_aux_lemma =>
            go_upto_region 6 with (fail)
            go_region
            go_wp2_with (fail)
            go_ret
            refine ⟨ret_bool (decide_eq_false fun h => ?_).symm, q + 1, by rw [HQ.out]; rfl⟩
            have hvb := HVB.out
            have hva := HVA.out
            subst h
            rw [hva] at hvb
            injection hvb with _ h'
            exact e2 h'
        · as_aux_lemma =>
          go_upto_region 6 with (fail)
          go_region
          go_wp2_with (fail)
          go_ret
          refine ⟨ret_bool (decide_eq_false fun h => ?_).symm, q + 1, by rw [HQ.out]; rfl⟩
          have hvb := HVB.out
          have hva := HVA.out
          subst h
          rw [hva] at hvb
          injection hvb with h' _
          exact e1 h'
      · have hin : ¬ (k : Int) < (N : Int) := by omega
        go_wp2_with (fail)
        go_ret
        have ht := HT.out
        rw [List.take_of_length_le (by rw [HV.out]; omega), List.take_of_length_le (by rw [HW.out]; omega)] at ht
        exact ⟨ret_bool (decide_eq_true ht).symm, q, HQ.out⟩
  · have hl2 : ¬ (V.length : Int) = (W.length : Int) := by omega
    go_enter Try.func13, Try.ntmps13
    go_wp2_with (fail)
    go_ret
    exact ⟨ret_bool (decide_eq_false fun h => hl (by rw [h])).symm, 0, rfl⟩
end Go.Proofs.Ytkekhnohehhljaa
