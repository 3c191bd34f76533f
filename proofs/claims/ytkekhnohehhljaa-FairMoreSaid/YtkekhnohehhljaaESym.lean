/- The walk of slices' symMerge at events. Conditions: the row of events is one of the sort's; its two stretches rise. -/
import Derived.Test.YtkekhnohehhljaaERot
namespace Go.Proofs.Ytkekhnohehhljaa
open Go Go.Shelf Go.RowKit Go.Lib Go.Sort

theorem exec_ev {op : Oper} {a : Act} {w : World} {x : Operand} (ho : op.op = .load 35 x) {b : Nat} (_ : b = b) (f : Nat) (hx : a.eval x = .pointer (some ⟨b, f, none⟩)) (e : Ev) (hc : w.rangeAt b f e.cs) : (execOp a.eval op).run Try.prog w = .ok (.value (.agg e.cs.toArray)) w := by
  unfold execOp
  simp only [ho, hx, Instr.loadAt, Instr.sureAddr, Sem.run_bind, Sem.run_pure, Result.andThen_ok, run_loadVar_mid w b f 35 e.cs _ hc ev_und rfl ev_size]
theorem cmp_evs (x y : Ev) (W : World) : Calls Try.prog 19 #[.agg x.cs.toArray, .agg y.cs.toArray] W fun e w' => e = .returned (.int .i64 (cfE x y)) ∧ ∃ q os', w' = grow (W.drewN q) os' := cmp_any x y W
theorem cfE_lt (x y : Ev) : cfE x y < 0 ↔ x.key < y.key := by
  unfold cfE Lib.compareInt
  split
  · simp; omega
  · split <;> simp <;> omega
def SymPost (w0 : World) (blk : Nat) (dk : Array Ev) (a b : Nat) (e : Ending) (w' : World) : Prop := e = .returned (.tuple #[]) ∧ ∃ d', PermIn a b dk d' ∧ SortK Ev.key a b d' ∧ Sw w0 blk d' w'
set_option maxRecDepth 100000 in
set_option maxHeartbeats 6400000 in
theorem symA {w0 W : World} {blk N : Nat} {dk d0 : Array Ev} (h : Sw w0 blk dk W) (T : Srt w0 blk d0) (hs : dk.size = d0.size) (hN : dk.size = N) (cap a m b : Nat) (h1 : a < m) (h2 : m < b) (h3 : b ≤ N) (k1 : SortK Ev.key a m dk) (k2 : SortK Ev.key m b dk) (hA : m = a + 1) :
    Calls Try.prog 42 #[.slice (some ⟨blk, 0, none⟩) N cap, .int .i64 a, .int .i64 m, .int .i64 b, .func (.func 19) #[] #[]] W (SymPost w0 blk dk a b) := by
  have HW := Lib.hid h
  have HT := Lib.hid T
  have hsz := T.sz
  rw [← hs, hN] at hsz
  have HE := Lib.hid (show N = d0.size by rw [← hN, hs])
  have HZ := Lib.hid hN
  have HS1 := Lib.hid k1
  have HS2 := Lib.hid k2
  clear h T hs hN k1 k2
  have e0 : ((m : Int) - (a : Int) == 1) = true := by simp; omega
  have HA := Lib.hid hA
  clear hA
  go_enter Try.func42, Try.ntmps42
  go_wp2_with (fail)
  go_loopw [10, 11, 12] (fun vi vj vh wr => ∃ i j : Nat, vi = .int .i64 i ∧ vj = .int .i64 j ∧ m ≤ i ∧ i ≤ j ∧ j ≤ b ∧ (∀ k, m ≤ k → k < i → Ev.key dk[k]! < Ev.key dk[a]!) ∧ (∀ k, j ≤ k → k < b → Ev.key dk[a]! ≤ Ev.key dk[k]!) ∧ Sw w0 blk dk wr) (fun vi vj _ _ => (intOf vj - intOf vi).toNat)
  case atStart => exact ⟨m, b, rfl, rfl, Nat.le_refl _, by omega, Nat.le_refl _, fun k e1 e2 => by omega, fun k e1 e2 => by omega, HW.out⟩
  case round =>
    obtain ⟨i, j, rfl, rfl, hmi, hij, hjb, hlo, hhi, hsw⟩ := hrel
    have HLO := Lib.hid hlo
    have HHI := Lib.hid hhi
    clear hlo hhi HW
    have HW := Lib.hid hsw
    clear hsw
    by_cases hlt : i < j
    case' pos =>
      as_aux_lemma =>
      have hi : (i : Int) < (j : Int) := by omega
      obtain ⟨hh, hhe⟩ : ∃ hh : Nat, (i + j) / 2 = hh := ⟨_, rfl⟩
      have hh1 : i ≤ hh := by omega
      have hh2 : hh < j := by omega
      have hq : ((i : Int) + (j : Int)) / 2 = (hh : Int) := by omega
      have b1 : (hh : Int) < (N : Int) := by omega
      have b2 : (a : Int) < (N : Int) := by omega
      clear hhe
      go_upto_region 5 with (fail)
      clear hq
      obtain ⟨ex, hex⟩ : ∃ e, (dk)[hh]! = e := ⟨_, rfl⟩
      obtain ⟨ey, hey⟩ : ∃ e, (dk)[a]! = e := ⟨_, rfl⟩
      have HEX := Lib.hid (show ∀ Wz, Sw w0 blk (dk) Wz → Wz.rangeAt blk ((hh) * 7) ex.cs from fun Wz h => by rw [← hex]; exact Sw.cells h HT.out (by rw [HZ.out, HE.out]) (by rw [HZ.out]; omega))
      have HEY := Lib.hid (show ∀ Wz, Sw w0 blk (dk) Wz → Wz.rangeAt blk ((a) * 7) ey.cs from fun Wz h => by rw [← hey]; exact Sw.cells h HT.out (by rw [HZ.out, HE.out]) (by rw [HZ.out]; omega))
      have HLT := Lib.hid (show cfE ex ey < 0 ↔ Ev.key (dk)[hh]! < Ev.key (dk)[a]! by rw [hex, hey]; exact cfE_lt ex ey)
      have HCM := Lib.hid (fun W => cmp_evs ex ey W)
      obtain ⟨r, hr⟩ : ∃ r, cfE ex ey = r := ⟨_, rfl⟩
      rw [hr] at HLT HCM
      clear hex hey hr
      go_upto_region 5 with (fail)
      refine wp_region_held_drew (S := fun Wz => Sw w0 blk (dk) Wz) (by kernel_rfl) HW.out.drew fun hS => ?_
      clear HW
      generalize World.drew _ = w2 at hS ⊢
      refine held_takeTo 40 (i := 0) (v := .func (.func 19) #[] #[]) rfl rfl (by kernel_rfl) (by kernel_rfl) (by kernel_rfl) (fun _ _ _ h => h) rfl hS (fun Wz hW => by go_simp) ?_
      simp only [List.setIfInBounds_toArray, List.set_cons_zero, List.set_cons_succ]
      refine held_takeTo 41 (i := 1) (v := .slice (some ⟨blk, 0, none⟩) N cap) rfl rfl (by kernel_rfl) (by kernel_rfl) (by kernel_rfl) (fun _ _ _ h => h) rfl hS (fun Wz hW => by go_simp) ?_
      simp only [List.setIfInBounds_toArray, List.set_cons_zero, List.set_cons_succ]
      refine held_takeTo 42 (i := 2) (v := .int .i64 (hh : Int)) rfl rfl (by kernel_rfl) (by kernel_rfl) (by kernel_rfl) (fun _ _ _ h => h) rfl hS (fun Wz hW => by go_simp) ?_
      simp only [List.setIfInBounds_toArray, List.set_cons_zero, List.set_cons_succ]
      refine held_takeTo 43 (i := 3) (v := .pointer (some ⟨blk, (hh) * 7, none⟩)) rfl rfl (by kernel_rfl) (by kernel_rfl) (by kernel_rfl) (fun _ _ _ h => h) rfl hS (fun Wz hW => by go_simp) ?_
      simp only [List.setIfInBounds_toArray, List.set_cons_zero, List.set_cons_succ]
      refine held_takeTo 44 (i := 4) (v := .agg ex.cs.toArray) rfl rfl (by kernel_rfl) (by kernel_rfl) (by kernel_rfl) (fun _ _ _ h => h) rfl hS (fun Wz hW => exec_ev rfl rfl ((hh) * 7) rfl ex (HEX.out Wz hW)) ?_
      simp only [List.setIfInBounds_toArray, List.set_cons_zero, List.set_cons_succ]
      refine held_takeTo 45 (i := 5) (v := .slice (some ⟨blk, 0, none⟩) N cap) rfl rfl (by kernel_rfl) (by kernel_rfl) (by kernel_rfl) (fun _ _ _ h => h) rfl hS (fun Wz hW => by go_simp) ?_
      simp only [List.setIfInBounds_toArray, List.set_cons_zero, List.set_cons_succ]
      refine held_takeTo 46 (i := 6) (v := .int .i64 (a : Int)) rfl rfl (by kernel_rfl) (by kernel_rfl) (by kernel_rfl) (fun _ _ _ h => h) rfl hS (fun Wz hW => by go_simp) ?_
      simp only [List.setIfInBounds_toArray, List.set_cons_zero, List.set_cons_succ]
      refine held_takeTo 47 (i := 7) (v := .pointer (some ⟨blk, (a) * 7, none⟩)) rfl rfl (by kernel_rfl) (by kernel_rfl) (by kernel_rfl) (fun _ _ _ h => h) rfl hS (fun Wz hW => by go_simp) ?_
      simp only [List.setIfInBounds_toArray, List.set_cons_zero, List.set_cons_succ]
      refine held_takeTo 48 (i := 8) (v := .agg ey.cs.toArray) rfl rfl (by kernel_rfl) (by kernel_rfl) (by kernel_rfl) (fun _ _ _ h => h) rfl hS (fun Wz hW => exec_ev rfl rfl ((a) * 7) rfl ey (HEY.out Wz hW)) ?_
      simp only [List.setIfInBounds_toArray, List.set_cons_zero, List.set_cons_succ]
      refine held_one (i := 9) (by kernel_rfl) rfl fun K hK => ?_
      go_wp2_with (fail)
      refine (HCM.out _).mono ?_
      rintro e' w3 ⟨rfl, nq9, os9, rfl⟩
      have hS3 : Sw w0 blk (dk) (grow (w2.drewN nq9) os9) := SWK.grown hS nq9 os9
      clear HCM HEX HEY
      go_wp2_with (fail)
      refine hK.out _ _ hS3 fun _ => ?_
      clear hK K
      refine held_one (i := 10) (by kernel_rfl) rfl fun K hK => ?_
      go_wp2_with (fail)
      refine hK.out _ _ hS3 fun _ => ?_
      clear hK K
      refine wpAnyH_done (by kernel_rfl) ?_ _
      have HW := Lib.hid hS3
      clear hS3
      generalize grow (w2.drewN nq9) os9 = w3 at HW ⊢
      by_cases hl : r < 0
      · have HK := Lib.hid (HLT.out.1 hl)
        have hw1 : IntKind.i64.wrap ((hh : Int) + 1) = (hh : Int) + 1 := IntWalk.i64_in _ ⟨by omega, by omega⟩
        clear HLT
        go_wp2_with (fail)
        go_roundw
        case rel => exact ⟨hh + 1, j, by go_num, rfl, by omega, by omega, hjb, fun k e1 e2 => Int.lt_of_le_of_lt (HS2.out.le e1 (by omega) (by omega)) HK.out, HHI.out, HW.out⟩
        case measure => simp [intOf]; omega
      · have HK := Lib.hid (show Ev.key dk[a]! ≤ Ev.key dk[hh]! from by have := HLT.out; omega)
        clear HLT
        go_wp2_with (fail)
        go_roundw
        case rel => exact ⟨i, hh, rfl, rfl, hmi, by omega, by omega, HLO.out, fun k e1 e2 => Int.le_trans HK.out (HS2.out.le (by omega) e1 e2), HW.out⟩
        case measure => simp [intOf]; omega
    obtain rfl : i = j := by omega
    obtain ⟨wo, rfl⟩ : ∃ wo : World, wo = wr := ⟨_, rfl⟩
    have hw1 : IntKind.i64.wrap ((i : Int) - 1) = (i : Int) - 1 := IntWalk.i64_in _ ⟨by omega, by omega⟩
    go_wp2_with (fail)
    go_loopw [13] (fun vk wr => ∃ (k : Nat) (d1 : Array Ev), vk = .int .i64 k ∧ a ≤ k ∧ k + 1 ≤ i ∧ d1.size = N ∧ (∀ p, d1[p]! = if a ≤ p ∧ p < k then dk[p + 1]! else if p = k then dk[a]! else dk[p]!) ∧ PermIn a b dk d1 ∧ Sw w0 blk d1 wr) (fun vk _ => i - (intOf vk).toNat)
    case atStart => exact ⟨a, dk, rfl, Nat.le_refl _, by omega, HZ.out, fun p => by rw [if_neg (by omega)]; split; exact (by rename_i h; rw [h]); rfl, permIn_refl _ _ _, HW.out⟩
    case round =>
      obtain ⟨k, d1, rfl, hak, hki, hd, hp, hq, hsw⟩ := hrel
      have HDK := HZ
      have HZ := Lib.hid hd
      have HP := Lib.hid hp
      have HQ := Lib.hid hq
      clear hd hp hq HW
      have HW := Lib.hid hsw
      clear hsw
      by_cases hlt2 : k + 1 < i
      case' pos =>
        as_aux_lemma =>
        have hi : (k : Int) < (i : Int) - 1 := by omega
        have a1 : (0 : Int) ≤ (k : Int) := by omega
        have a2 : (k : Int) < (N : Int) := by omega
        have b1 : (0 : Int) ≤ (k : Int) + 1 := by omega
        have b2 : (k : Int) + 1 < (N : Int) := by omega
        have b3 : ((k : Int) + 1).toNat = k + 1 := by omega
        have hwy : IntKind.i64.wrap ((k : Int) + 1) = (k : Int) + 1 := IntWalk.i64_in _ ⟨by omega, by omega⟩
        obtain ⟨ex, hex⟩ : ∃ e, (d1)[k]! = e := ⟨_, rfl⟩
        obtain ⟨ey, hey⟩ : ∃ e, (d1)[k + 1]! = e := ⟨_, rfl⟩
        have HX := Lib.hid (show wr.drew.rangeAt blk ((k) * 7) ex.cs by rw [← hex]; exact Sw.cells HW.out.drew HT.out (by rw [HZ.out, HE.out]) (by rw [HZ.out]; omega))
        have HY := Lib.hid (show wr.drew.rangeAt blk ((k + 1) * 7) ey.cs by rw [← hey]; exact Sw.cells HW.out.drew HT.out (by rw [HZ.out, HE.out]) (by rw [HZ.out]; omega))
        have HTX := Lib.hid (show wr.drew.there blk ((k) * 7) 7 from Sw.there HW.out.drew HT.out (by rw [HZ.out, HE.out]) (by rw [HZ.out]; omega))
        have HTY := Lib.hid (show wr.drew.there blk ((k + 1) * 7) 7 from Sw.there HW.out.drew HT.out (by rw [HZ.out, HE.out]) (by rw [HZ.out]; omega))
        have HR := Lib.hid (show Sw w0 blk (swp d1 k (k + 1)) ((wr.drew.setCells blk ((k) * 7) ey.cs).setCells blk ((k + 1) * 7) ex.cs) by
          rw [← hex, ← hey]
          exact Sw.turned HW.out HT.out (by rw [HZ.out]; omega) (by rw [HZ.out]; omega))
        clear hex hey HW
        go_upto_region 11 with (fail)
        refine wp_region_held_drew (S := fun _ => True) (by kernel_rfl) trivial fun hS => ?_
        generalize wr.drew = w2 at HX HY HTX HTY HR ⊢
        refine held_takeTo 61 (i := 0) (v := .slice (some ⟨blk, 0, none⟩) N cap) rfl rfl (by kernel_rfl) (by kernel_rfl) (by kernel_rfl) (fun _ _ _ h => h) rfl hS (fun Wz hW => by go_simp) ?_
        simp only [List.setIfInBounds_toArray, List.set_cons_zero, List.set_cons_succ]
        refine held_takeTo 62 (i := 1) (v := .int .i64 (k : Int)) rfl rfl (by kernel_rfl) (by kernel_rfl) (by kernel_rfl) (fun _ _ _ h => h) rfl hS (fun Wz hW => by go_simp) ?_
        simp only [List.setIfInBounds_toArray, List.set_cons_zero, List.set_cons_succ]
        refine held_takeTo 63 (i := 2) (v := .slice (some ⟨blk, 0, none⟩) N cap) rfl rfl (by kernel_rfl) (by kernel_rfl) (by kernel_rfl) (fun _ _ _ h => h) rfl hS (fun Wz hW => by go_simp) ?_
        simp only [List.setIfInBounds_toArray, List.set_cons_zero, List.set_cons_succ]
        refine held_takeTo 64 (i := 3) (v := .int .i64 (k : Int)) rfl rfl (by kernel_rfl) (by kernel_rfl) (by kernel_rfl) (fun _ _ _ h => h) rfl hS (fun Wz hW => by go_simp) ?_
        simp only [List.setIfInBounds_toArray, List.set_cons_zero, List.set_cons_succ]
        refine held_takeTo 65 (i := 4) (v := .int .i64 ((k : Int) + 1)) rfl rfl (by kernel_rfl) (by kernel_rfl) (by kernel_rfl) (fun _ _ _ h => h) rfl hS (fun Wz hW => by go_simp) ?_
        simp only [List.setIfInBounds_toArray, List.set_cons_zero, List.set_cons_succ]
        refine held_takeTo 66 (i := 5) (v := .slice (some ⟨blk, 0, none⟩) N cap) rfl rfl (by kernel_rfl) (by kernel_rfl) (by kernel_rfl) (fun _ _ _ h => h) rfl hS (fun Wz hW => by go_simp) ?_
        simp only [List.setIfInBounds_toArray, List.set_cons_zero, List.set_cons_succ]
        refine held_takeTo 67 (i := 6) (v := .int .i64 (k : Int)) rfl rfl (by kernel_rfl) (by kernel_rfl) (by kernel_rfl) (fun _ _ _ h => h) rfl hS (fun Wz hW => by go_simp) ?_
        simp only [List.setIfInBounds_toArray, List.set_cons_zero, List.set_cons_succ]
        refine held_takeTo 68 (i := 7) (v := .int .i64 ((k : Int) + 1)) rfl rfl (by kernel_rfl) (by kernel_rfl) (by kernel_rfl) (fun _ _ _ h => h) rfl hS (fun Wz hW => by go_simp) ?_
        simp only [List.setIfInBounds_toArray, List.set_cons_zero, List.set_cons_succ]
        refine held_takeTo 69 (i := 8) (v := .pointer (some ⟨blk, (k + 1) * 7, none⟩)) rfl rfl (by kernel_rfl) (by kernel_rfl) (by kernel_rfl) (fun _ _ _ h => h) rfl hS (fun Wz hW => by go_simp) ?_
        simp only [List.setIfInBounds_toArray, List.set_cons_zero, List.set_cons_succ]
        refine held_takeTo 71 (i := 10) (v := .slice (some ⟨blk, 0, none⟩) N cap) rfl rfl (by kernel_rfl) (by kernel_rfl) (by kernel_rfl) (fun _ _ _ h => h) rfl hS (fun Wz hW => by go_simp) ?_
        simp only [List.setIfInBounds_toArray, List.set_cons_zero, List.set_cons_succ]
        refine held_takeTo 72 (i := 11) (v := .int .i64 (k : Int)) rfl rfl (by kernel_rfl) (by kernel_rfl) (by kernel_rfl) (fun _ _ _ h => h) rfl hS (fun Wz hW => by go_simp) ?_
        simp only [List.setIfInBounds_toArray, List.set_cons_zero, List.set_cons_succ]
        refine held_takeTo 73 (i := 12) (v := .pointer (some ⟨blk, (k) * 7, none⟩)) rfl rfl (by kernel_rfl) (by kernel_rfl) (by kernel_rfl) (fun _ _ _ h => h) rfl hS (fun Wz hW => by go_simp) ?_
        simp only [List.setIfInBounds_toArray, List.set_cons_zero, List.set_cons_succ]
        refine held_two (i := 9) (j := 13) (by kernel_rfl) rfl rfl ?_ ?_
        · as_aux_lemma =>
          intro K hK
          refine wpList_load_mid rfl _ _ rfl blk ((k + 1) * 7) rfl ey.cs _ HY.out ev_und rfl ev_size ?_
          go_wp2_with (fail)
          refine hK.out _ _ trivial fun _ => ?_
          clear hK K
          refine held_one (i := 13) (by kernel_rfl) rfl fun K hK => ?_
          refine wpList_load_mid rfl _ _ rfl blk ((k) * 7) rfl ex.cs _ HX.out ev_und rfl ev_size ?_
          go_wp2_with (fail)
          refine hK.out _ _ trivial fun _ => ?_
          clear hK K
          refine held_one (i := 14) (by kernel_rfl) rfl fun K hK => ?_
          go_wp2_with (fail)
          refine hK.out _ _ trivial fun _ => ?_
          clear hK K
          refine held_one (i := 15) (by kernel_rfl) rfl fun K hK => ?_
          refine wpList_store_mid rfl _ _ _ rfl blk ((k) * 7) ey.cs.toArray rfl rfl HTX.out ev_size ey.one ?_
          go_wp2_with (fail)
          refine hK.out _ _ trivial fun _ => ?_
          clear hK K
          refine held_one (i := 16) (by kernel_rfl) rfl fun K hK => ?_
          go_wp2_with (fail)
          refine hK.out _ _ trivial fun _ => ?_
          clear hK K
          refine held_one (i := 17) (by kernel_rfl) rfl fun K hK => ?_
          refine wpList_store_mid rfl _ _ _ rfl blk ((k + 1) * 7) ex.cs.toArray rfl rfl (World.there_setCells HTY.out _ _ _) ev_size ex.one ?_
          go_wp2_with (fail)
          refine hK.out _ _ trivial fun _ => ?_
          clear hK K
          refine wpAnyH_done (by kernel_rfl) ?_ _
          go_wp2_with (fail)
          go_roundw
          case rel =>
            refine ⟨k + 1, swp d1 k (k + 1), by go_num, by omega, by omega, by rw [size_swp]; exact HZ.out, fun p => ?_, permIn_trans _ _ _ _ _ HQ.out (swp_permIn _ _ _ _ _ hak (by omega) (by omega) (by omega) (by rw [HZ.out]; exact h3)), HR.out⟩
            by_cases c1 : p = k
            · subst c1
              rw [swp_left _ _ _ (by rw [HZ.out]; omega) (by omega), HP.out, if_neg (by omega), if_neg (by omega), if_pos (by omega)]
            · by_cases c2 : p = k + 1
              · subst c2
                rw [swp_right _ _ _ (by rw [HZ.out]; omega), HP.out, if_neg (by omega), if_pos rfl, if_neg (by omega), if_pos rfl]
              · rw [swp_other _ _ _ _ c1 c2, HP.out]
                by_cases c3 : a ≤ p ∧ p < k
                · rw [if_pos c3, if_pos (by omega)]
                · rw [if_neg c3, if_neg c1, if_neg (by omega), if_neg c2]
          case measure => simp [intOf]; omega
        · as_aux_lemma =>
          intro K hK
          refine wpList_load_mid rfl _ _ rfl blk ((k) * 7) rfl ex.cs _ HX.out ev_und rfl ev_size ?_
          go_wp2_with (fail)
          refine hK.out _ _ trivial fun _ => ?_
          clear hK K
          refine held_one (i := 9) (by kernel_rfl) rfl fun K hK => ?_
          refine wpList_load_mid rfl _ _ rfl blk ((k + 1) * 7) rfl ey.cs _ HY.out ev_und rfl ev_size ?_
          go_wp2_with (fail)
          refine hK.out _ _ trivial fun _ => ?_
          clear hK K
          refine held_one (i := 14) (by kernel_rfl) rfl fun K hK => ?_
          go_wp2_with (fail)
          refine hK.out _ _ trivial fun _ => ?_
          clear hK K
          refine held_one (i := 15) (by kernel_rfl) rfl fun K hK => ?_
          refine wpList_store_mid rfl _ _ _ rfl blk ((k) * 7) ey.cs.toArray rfl rfl HTX.out ev_size ey.one ?_
          go_wp2_with (fail)
          refine hK.out _ _ trivial fun _ => ?_
          clear hK K
          refine held_one (i := 16) (by kernel_rfl) rfl fun K hK => ?_
          go_wp2_with (fail)
          refine hK.out _ _ trivial fun _ => ?_
          clear hK K
          refine held_one (i := 17) (by kernel_rfl) rfl fun K hK => ?_
          refine wpList_store_mid rfl _ _ _ rfl blk ((k + 1) * 7) ex.cs.toArray rfl rfl (World.there_setCells HTY.out _ _ _) ev_size ex.one ?_
          go_wp2_with (fail)
          refine hK.out _ _ trivial fun _ => ?_
          clear hK K
          refine wpAnyH_done (by kernel_rfl) ?_ _
          go_wp2_with (fail)
          go_roundw
          case rel =>
            refine ⟨k + 1, swp d1 k (k + 1), by go_num, by omega, by omega, by rw [size_swp]; exact HZ.out, fun p => ?_, permIn_trans _ _ _ _ _ HQ.out (swp_permIn _ _ _ _ _ hak (by omega) (by omega) (by omega) (by rw [HZ.out]; exact h3)), HR.out⟩
            by_cases c1 : p = k
            · subst c1
              rw [swp_left _ _ _ (by rw [HZ.out]; omega) (by omega), HP.out, if_neg (by omega), if_neg (by omega), if_pos (by omega)]
            · by_cases c2 : p = k + 1
              · subst c2
                rw [swp_right _ _ _ (by rw [HZ.out]; omega), HP.out, if_neg (by omega), if_pos rfl, if_neg (by omega), if_pos rfl]
              · rw [swp_other _ _ _ _ c1 c2, HP.out]
                by_cases c3 : a ≤ p ∧ p < k
                · rw [if_pos c3, if_pos (by omega)]
                · rw [if_neg c3, if_neg c1, if_neg (by omega), if_neg c2]
          case measure => simp [intOf]; omega
      obtain rfl : i = k + 1 := by omega
      have hi : ¬ (k : Int) < (k : Int) + 1 - 1 := by omega
      go_wp2_with (fail)
      refine bodyPost_ret (results_none rfl _ _ _) rfl ?_
      exact ⟨rfl, d1, HQ.out, merge_one (d := dk) (i := k + 1) (by have := HA.out; rw [← HA.out]; exact HS2.out) (by have := HA.out; omega) hjb (fun q e1 e2 => HLO.out q (by have := HA.out; omega) e2) HHI.out (fun p => by rw [HP.out]; rfl), HW.out⟩
set_option maxRecDepth 100000 in
set_option maxHeartbeats 6400000 in
theorem symB {w0 W : World} {blk N : Nat} {dk d0 : Array Ev} (h : Sw w0 blk dk W) (T : Srt w0 blk d0) (hs : dk.size = d0.size) (hN : dk.size = N) (cap a m b : Nat) (h1 : a < m) (h2 : m < b) (h3 : b ≤ N) (k1 : SortK Ev.key a m dk) (k2 : SortK Ev.key m b dk) (hA : ¬ m = a + 1) (hB : b = m + 1) :
    Calls Try.prog 42 #[.slice (some ⟨blk, 0, none⟩) N cap, .int .i64 a, .int .i64 m, .int .i64 b, .func (.func 19) #[] #[]] W (SymPost w0 blk dk a b) := by
  have HW := Lib.hid h
  have HT := Lib.hid T
  have hsz := T.sz
  rw [← hs, hN] at hsz
  have HE := Lib.hid (show N = d0.size by rw [← hN, hs])
  have HZ := Lib.hid hN
  have HS1 := Lib.hid k1
  have HS2 := Lib.hid k2
  clear h T hs hN k1 k2
  have e0 : ((m : Int) - (a : Int) == 1) = false := by simp; omega
  have e1 : ((b : Int) - (m : Int) == 1) = true := by simp; omega
  have HB := Lib.hid hB
  clear hB hA
  go_enter Try.func42, Try.ntmps42
  go_wp2_with (fail)
  go_loopw [14, 15, 16] (fun vi vj vh wr => ∃ i j : Nat, vi = .int .i64 i ∧ vj = .int .i64 j ∧ a ≤ i ∧ i ≤ j ∧ j ≤ m ∧ (∀ k, a ≤ k → k < i → Ev.key dk[k]! ≤ Ev.key dk[m]!) ∧ (∀ k, j ≤ k → k < m → Ev.key dk[m]! < Ev.key dk[k]!) ∧ Sw w0 blk dk wr) (fun vi vj _ _ => (intOf vj - intOf vi).toNat)
  case atStart => exact ⟨a, m, rfl, rfl, Nat.le_refl _, by omega, Nat.le_refl _, fun k e1 e2 => by omega, fun k e1 e2 => by omega, HW.out⟩
  case round =>
    obtain ⟨i, j, rfl, rfl, hmi, hij, hjb, hlo, hhi, hsw⟩ := hrel
    have HLO := Lib.hid hlo
    have HHI := Lib.hid hhi
    clear hlo hhi HW
    have HW := Lib.hid hsw
    clear hsw
    by_cases hlt : i < j
    case' pos =>
      as_aux_lemma =>
      have hi : (i : Int) < (j : Int) := by omega
      obtain ⟨hh, hhe⟩ : ∃ hh : Nat, (i + j) / 2 = hh := ⟨_, rfl⟩
      have hh1 : i ≤ hh := by omega
      have hh2 : hh < j := by omega
      have hq : ((i : Int) + (j : Int)) / 2 = (hh : Int) := by omega
      have b1 : (hh : Int) < (N : Int) := by omega
      have b2 : (m : Int) < (N : Int) := by omega
      clear hhe
      go_upto_region 17 with (fail)
      clear hq
      obtain ⟨ex, hex⟩ : ∃ e, (dk)[m]! = e := ⟨_, rfl⟩
      obtain ⟨ey, hey⟩ : ∃ e, (dk)[hh]! = e := ⟨_, rfl⟩
      have HEX := Lib.hid (show ∀ Wz, Sw w0 blk (dk) Wz → Wz.rangeAt blk ((m) * 7) ex.cs from fun Wz h => by rw [← hex]; exact Sw.cells h HT.out (by rw [HZ.out, HE.out]) (by rw [HZ.out]; omega))
      have HEY := Lib.hid (show ∀ Wz, Sw w0 blk (dk) Wz → Wz.rangeAt blk ((hh) * 7) ey.cs from fun Wz h => by rw [← hey]; exact Sw.cells h HT.out (by rw [HZ.out, HE.out]) (by rw [HZ.out]; omega))
      have HLT := Lib.hid (show cfE ex ey < 0 ↔ Ev.key (dk)[m]! < Ev.key (dk)[hh]! by rw [hex, hey]; exact cfE_lt ex ey)
      have HCM := Lib.hid (fun W => cmp_evs ex ey W)
      obtain ⟨r, hr⟩ : ∃ r, cfE ex ey = r := ⟨_, rfl⟩
      rw [hr] at HLT HCM
      clear hex hey hr
      go_upto_region 17 with (fail)
      refine wp_region_held_drew (S := fun Wz => Sw w0 blk (dk) Wz) (by kernel_rfl) HW.out.drew fun hS => ?_
      clear HW
      generalize World.drew _ = w2 at hS ⊢
      refine held_takeTo 92 (i := 0) (v := .func (.func 19) #[] #[]) rfl rfl (by kernel_rfl) (by kernel_rfl) (by kernel_rfl) (fun _ _ _ h => h) rfl hS (fun Wz hW => by go_simp) ?_
      simp only [List.setIfInBounds_toArray, List.set_cons_zero, List.set_cons_succ]
      refine held_takeTo 93 (i := 1) (v := .slice (some ⟨blk, 0, none⟩) N cap) rfl rfl (by kernel_rfl) (by kernel_rfl) (by kernel_rfl) (fun _ _ _ h => h) rfl hS (fun Wz hW => by go_simp) ?_
      simp only [List.setIfInBounds_toArray, List.set_cons_zero, List.set_cons_succ]
      refine held_takeTo 94 (i := 2) (v := .int .i64 (m : Int)) rfl rfl (by kernel_rfl) (by kernel_rfl) (by kernel_rfl) (fun _ _ _ h => h) rfl hS (fun Wz hW => by go_simp) ?_
      simp only [List.setIfInBounds_toArray, List.set_cons_zero, List.set_cons_succ]
      refine held_takeTo 95 (i := 3) (v := .pointer (some ⟨blk, (m) * 7, none⟩)) rfl rfl (by kernel_rfl) (by kernel_rfl) (by kernel_rfl) (fun _ _ _ h => h) rfl hS (fun Wz hW => by go_simp) ?_
      simp only [List.setIfInBounds_toArray, List.set_cons_zero, List.set_cons_succ]
      refine held_takeTo 96 (i := 4) (v := .agg ex.cs.toArray) rfl rfl (by kernel_rfl) (by kernel_rfl) (by kernel_rfl) (fun _ _ _ h => h) rfl hS (fun Wz hW => exec_ev rfl rfl ((m) * 7) rfl ex (HEX.out Wz hW)) ?_
      simp only [List.setIfInBounds_toArray, List.set_cons_zero, List.set_cons_succ]
      refine held_takeTo 97 (i := 5) (v := .slice (some ⟨blk, 0, none⟩) N cap) rfl rfl (by kernel_rfl) (by kernel_rfl) (by kernel_rfl) (fun _ _ _ h => h) rfl hS (fun Wz hW => by go_simp) ?_
      simp only [List.setIfInBounds_toArray, List.set_cons_zero, List.set_cons_succ]
      refine held_takeTo 98 (i := 6) (v := .int .i64 (hh : Int)) rfl rfl (by kernel_rfl) (by kernel_rfl) (by kernel_rfl) (fun _ _ _ h => h) rfl hS (fun Wz hW => by go_simp) ?_
      simp only [List.setIfInBounds_toArray, List.set_cons_zero, List.set_cons_succ]
      refine held_takeTo 99 (i := 7) (v := .pointer (some ⟨blk, (hh) * 7, none⟩)) rfl rfl (by kernel_rfl) (by kernel_rfl) (by kernel_rfl) (fun _ _ _ h => h) rfl hS (fun Wz hW => by go_simp) ?_
      simp only [List.setIfInBounds_toArray, List.set_cons_zero, List.set_cons_succ]
      refine held_takeTo 100 (i := 8) (v := .agg ey.cs.toArray) rfl rfl (by kernel_rfl) (by kernel_rfl) (by kernel_rfl) (fun _ _ _ h => h) rfl hS (fun Wz hW => exec_ev rfl rfl ((hh) * 7) rfl ey (HEY.out Wz hW)) ?_
      simp only [List.setIfInBounds_toArray, List.set_cons_zero, List.set_cons_succ]
      refine held_one (i := 9) (by kernel_rfl) rfl fun K hK => ?_
      go_wp2_with (fail)
      refine (HCM.out _).mono ?_
      rintro e' w3 ⟨rfl, nq9, os9, rfl⟩
      have hS3 : Sw w0 blk (dk) (grow (w2.drewN nq9) os9) := SWK.grown hS nq9 os9
      clear HCM HEX HEY
      go_wp2_with (fail)
      refine hK.out _ _ hS3 fun _ => ?_
      clear hK K
      refine held_one (i := 10) (by kernel_rfl) rfl fun K hK => ?_
      go_wp2_with (fail)
      refine hK.out _ _ hS3 fun _ => ?_
      clear hK K
      refine held_one (i := 11) (by kernel_rfl) rfl fun K hK => ?_
      go_wp2_with (fail)
      refine hK.out _ _ hS3 fun _ => ?_
      clear hK K
      refine wpAnyH_done (by kernel_rfl) ?_ _
      have HW := Lib.hid hS3
      clear hS3
      generalize grow (w2.drewN nq9) os9 = w3 at HW ⊢
      have HBV := Lib.hid (show decide (r < 0) = true ↔ Ev.key dk[m]! < Ev.key dk[hh]! by rw [decide_eq_true_iff]; exact HLT.out)
      clear HLT
      generalize decide (r < 0) = bv at HBV ⊢
      cases bv with
      | true =>
        have HK := Lib.hid (HBV.out.1 rfl)
        clear HBV
        go_wp2_with (fail)
        go_roundw
        case rel => exact ⟨i, hh, rfl, rfl, hmi, by omega, by omega, HLO.out, fun k e1 e2 => Int.lt_of_lt_of_le HK.out (HS1.out.le (by omega) e1 e2), HW.out⟩
        case measure => simp [intOf]; omega
      | false =>
        have HK := Lib.hid (show Ev.key dk[hh]! ≤ Ev.key dk[m]! from Int.not_lt.1 fun h => by have := HBV.out.2 h; cases this)
        clear HBV
        have hw1 : IntKind.i64.wrap ((hh : Int) + 1) = (hh : Int) + 1 := IntWalk.i64_in _ ⟨by omega, by omega⟩
        go_wp2_with (fail)
        go_roundw
        case rel => exact ⟨hh + 1, j, by go_num, rfl, by omega, by omega, hjb, fun k e1 e2 => Int.le_trans (HS1.out.le e1 (by omega) (by omega)) HK.out, HHI.out, HW.out⟩
        case measure => simp [intOf]; omega
    obtain rfl : i = j := by omega
    obtain ⟨wo, rfl⟩ : ∃ wo : World, wo = wr := ⟨_, rfl⟩
    go_wp2_with (fail)
    go_loopw [17] (fun vk wr => ∃ (k : Nat) (d1 : Array Ev), vk = .int .i64 k ∧ i ≤ k ∧ k ≤ m ∧ d1.size = N ∧ (∀ p, d1[p]! = if k < p ∧ p ≤ m then dk[p - 1]! else if p = k then dk[m]! else dk[p]!) ∧ PermIn a b dk d1 ∧ Sw w0 blk d1 wr) (fun vk _ => (intOf vk).toNat)
    case atStart => exact ⟨m, dk, rfl, by omega, Nat.le_refl _, HZ.out, fun p => by rw [if_neg (by omega)]; split; exact (by rename_i h; rw [h]); rfl, permIn_refl _ _ _, HW.out⟩
    case round =>
      obtain ⟨k, d1, rfl, hak, hki, hd, hp, hq, hsw⟩ := hrel
      have HDK := HZ
      have HZ := Lib.hid hd
      have HP := Lib.hid hp
      have HQ := Lib.hid hq
      clear hd hp hq HW
      have HW := Lib.hid hsw
      clear hsw
      by_cases hlt2 : i < k
      case' pos =>
        as_aux_lemma =>
        have hi : (i : Int) < (k : Int) := by omega
        have a1 : (0 : Int) ≤ (k : Int) := by omega
        have a2 : (k : Int) < (N : Int) := by omega
        have b0 : ¬ (k : Int) < 1 := by omega
        have b1 : (0 : Int) ≤ (k : Int) - 1 := by omega
        have b2 : (k : Int) - 1 < (N : Int) := by omega
        have b3 : ((k : Int) - 1).toNat = k - 1 := by omega
        have hwy : IntKind.i64.wrap ((k : Int) - 1) = (k : Int) - 1 := IntWalk.i64_in _ ⟨by omega, by omega⟩
        obtain ⟨ex, hex⟩ : ∃ e, (d1)[k]! = e := ⟨_, rfl⟩
        obtain ⟨ey, hey⟩ : ∃ e, (d1)[k - 1]! = e := ⟨_, rfl⟩
        have HX := Lib.hid (show wr.drew.rangeAt blk ((k) * 7) ex.cs by rw [← hex]; exact Sw.cells HW.out.drew HT.out (by rw [HZ.out, HE.out]) (by rw [HZ.out]; omega))
        have HY := Lib.hid (show wr.drew.rangeAt blk ((k - 1) * 7) ey.cs by rw [← hey]; exact Sw.cells HW.out.drew HT.out (by rw [HZ.out, HE.out]) (by rw [HZ.out]; omega))
        have HTX := Lib.hid (show wr.drew.there blk ((k) * 7) 7 from Sw.there HW.out.drew HT.out (by rw [HZ.out, HE.out]) (by rw [HZ.out]; omega))
        have HTY := Lib.hid (show wr.drew.there blk ((k - 1) * 7) 7 from Sw.there HW.out.drew HT.out (by rw [HZ.out, HE.out]) (by rw [HZ.out]; omega))
        have HR := Lib.hid (show Sw w0 blk (swp d1 k (k - 1)) ((wr.drew.setCells blk ((k) * 7) ey.cs).setCells blk ((k - 1) * 7) ex.cs) by
          rw [← hex, ← hey]
          exact Sw.turned HW.out HT.out (by rw [HZ.out]; omega) (by rw [HZ.out]; omega))
        clear hex hey HW
        go_upto_region 23 with (fail)
        refine wp_region_held_drew (S := fun _ => True) (by kernel_rfl) trivial fun hS => ?_
        generalize wr.drew = w2 at HX HY HTX HTY HR ⊢
        refine held_takeTo 113 (i := 0) (v := .slice (some ⟨blk, 0, none⟩) N cap) rfl rfl (by kernel_rfl) (by kernel_rfl) (by kernel_rfl) (fun _ _ _ h => h) rfl hS (fun Wz hW => by go_simp) ?_
        simp only [List.setIfInBounds_toArray, List.set_cons_zero, List.set_cons_succ]
        refine held_takeTo 114 (i := 1) (v := .int .i64 (k : Int)) rfl rfl (by kernel_rfl) (by kernel_rfl) (by kernel_rfl) (fun _ _ _ h => h) rfl hS (fun Wz hW => by go_simp) ?_
        simp only [List.setIfInBounds_toArray, List.set_cons_zero, List.set_cons_succ]
        refine held_takeTo 115 (i := 2) (v := .slice (some ⟨blk, 0, none⟩) N cap) rfl rfl (by kernel_rfl) (by kernel_rfl) (by kernel_rfl) (fun _ _ _ h => h) rfl hS (fun Wz hW => by go_simp) ?_
        simp only [List.setIfInBounds_toArray, List.set_cons_zero, List.set_cons_succ]
        refine held_takeTo 116 (i := 3) (v := .int .i64 (k : Int)) rfl rfl (by kernel_rfl) (by kernel_rfl) (by kernel_rfl) (fun _ _ _ h => h) rfl hS (fun Wz hW => by go_simp) ?_
        simp only [List.setIfInBounds_toArray, List.set_cons_zero, List.set_cons_succ]
        refine held_takeTo 117 (i := 4) (v := .int .i64 ((k : Int) - 1)) rfl rfl (by kernel_rfl) (by kernel_rfl) (by kernel_rfl) (fun _ _ _ h => h) rfl hS (fun Wz hW => by go_simp) ?_
        simp only [List.setIfInBounds_toArray, List.set_cons_zero, List.set_cons_succ]
        refine held_takeTo 118 (i := 5) (v := .slice (some ⟨blk, 0, none⟩) N cap) rfl rfl (by kernel_rfl) (by kernel_rfl) (by kernel_rfl) (fun _ _ _ h => h) rfl hS (fun Wz hW => by go_simp) ?_
        simp only [List.setIfInBounds_toArray, List.set_cons_zero, List.set_cons_succ]
        refine held_takeTo 119 (i := 6) (v := .int .i64 (k : Int)) rfl rfl (by kernel_rfl) (by kernel_rfl) (by kernel_rfl) (fun _ _ _ h => h) rfl hS (fun Wz hW => by go_simp) ?_
        simp only [List.setIfInBounds_toArray, List.set_cons_zero, List.set_cons_succ]
        refine held_takeTo 120 (i := 7) (v := .int .i64 ((k : Int) - 1)) rfl rfl (by kernel_rfl) (by kernel_rfl) (by kernel_rfl) (fun _ _ _ h => h) rfl hS (fun Wz hW => by go_simp) ?_
        simp only [List.setIfInBounds_toArray, List.set_cons_zero, List.set_cons_succ]
        refine held_takeTo 121 (i := 8) (v := .pointer (some ⟨blk, (k - 1) * 7, none⟩)) rfl rfl (by kernel_rfl) (by kernel_rfl) (by kernel_rfl) (fun _ _ _ h => h) rfl hS (fun Wz hW => by go_simp) ?_
        simp only [List.setIfInBounds_toArray, List.set_cons_zero, List.set_cons_succ]
        refine held_takeTo 123 (i := 10) (v := .slice (some ⟨blk, 0, none⟩) N cap) rfl rfl (by kernel_rfl) (by kernel_rfl) (by kernel_rfl) (fun _ _ _ h => h) rfl hS (fun Wz hW => by go_simp) ?_
        simp only [List.setIfInBounds_toArray, List.set_cons_zero, List.set_cons_succ]
        refine held_takeTo 124 (i := 11) (v := .int .i64 (k : Int)) rfl rfl (by kernel_rfl) (by kernel_rfl) (by kernel_rfl) (fun _ _ _ h => h) rfl hS (fun Wz hW => by go_simp) ?_
        simp only [List.setIfInBounds_toArray, List.set_cons_zero, List.set_cons_succ]
        refine held_takeTo 125 (i := 12) (v := .pointer (some ⟨blk, (k) * 7, none⟩)) rfl rfl (by kernel_rfl) (by kernel_rfl) (by kernel_rfl) (fun _ _ _ h => h) rfl hS (fun Wz hW => by go_simp) ?_
        simp only [List.setIfInBounds_toArray, List.set_cons_zero, List.set_cons_succ]
        refine held_two (i := 9) (j := 13) (by kernel_rfl) rfl rfl ?_ ?_
        · as_aux_lemma =>
          intro K hK
          refine wpList_load_mid rfl _ _ rfl blk ((k - 1) * 7) rfl ey.cs _ HY.out ev_und rfl ev_size ?_
          go_wp2_with (fail)
          refine hK.out _ _ trivial fun _ => ?_
          clear hK K
          refine held_one (i := 13) (by kernel_rfl) rfl fun K hK => ?_
          refine wpList_load_mid rfl _ _ rfl blk ((k) * 7) rfl ex.cs _ HX.out ev_und rfl ev_size ?_
          go_wp2_with (fail)
          refine hK.out _ _ trivial fun _ => ?_
          clear hK K
          refine held_one (i := 14) (by kernel_rfl) rfl fun K hK => ?_
          go_wp2_with (fail)
          refine hK.out _ _ trivial fun _ => ?_
          clear hK K
          refine held_one (i := 15) (by kernel_rfl) rfl fun K hK => ?_
          refine wpList_store_mid rfl _ _ _ rfl blk ((k) * 7) ey.cs.toArray rfl rfl HTX.out ev_size ey.one ?_
          go_wp2_with (fail)
          refine hK.out _ _ trivial fun _ => ?_
          clear hK K
          refine held_one (i := 16) (by kernel_rfl) rfl fun K hK => ?_
          go_wp2_with (fail)
          refine hK.out _ _ trivial fun _ => ?_
          clear hK K
          refine held_one (i := 17) (by kernel_rfl) rfl fun K hK => ?_
          refine wpList_store_mid rfl _ _ _ rfl blk ((k - 1) * 7) ex.cs.toArray rfl rfl (World.there_setCells HTY.out _ _ _) ev_size ex.one ?_
          go_wp2_with (fail)
          refine hK.out _ _ trivial fun _ => ?_
          clear hK K
          refine wpAnyH_done (by kernel_rfl) ?_ _
          go_wp2_with (fail)
          go_roundw
          case rel =>
            refine ⟨k - 1, swp d1 k (k - 1), by congr 1; omega, by omega, by omega, by rw [size_swp]; exact HZ.out, fun p => ?_, permIn_trans _ _ _ _ _ HQ.out (swp_permIn _ _ _ _ _ (by omega) (by omega) (by omega) (by omega) (by rw [HZ.out]; exact h3)), HR.out⟩
            by_cases c1 : p = k
            · subst c1
              rw [swp_left _ _ _ (by rw [HZ.out]; omega) (by omega), HP.out, if_neg (by omega), if_neg (by omega), if_pos (by omega)]
            · by_cases c2 : p = k - 1
              · rw [c2, swp_right _ _ _ (by rw [HZ.out]; omega), HP.out, if_neg (by omega), if_pos rfl, if_neg (by omega), if_pos rfl]
              · rw [swp_other _ _ _ _ c1 c2, HP.out]
                by_cases c3 : k < p ∧ p ≤ m
                · rw [if_pos c3, if_pos (by omega)]
                · rw [if_neg c3, if_neg c1, if_neg (by omega), if_neg c2]
          case measure => simp [intOf]; omega
        · as_aux_lemma =>
          intro K hK
          refine wpList_load_mid rfl _ _ rfl blk ((k) * 7) rfl ex.cs _ HX.out ev_und rfl ev_size ?_
          go_wp2_with (fail)
          refine hK.out _ _ trivial fun _ => ?_
          clear hK K
          refine held_one (i := 9) (by kernel_rfl) rfl fun K hK => ?_
          refine wpList_load_mid rfl _ _ rfl blk ((k - 1) * 7) rfl ey.cs _ HY.out ev_und rfl ev_size ?_
          go_wp2_with (fail)
          refine hK.out _ _ trivial fun _ => ?_
          clear hK K
          refine held_one (i := 14) (by kernel_rfl) rfl fun K hK => ?_
          go_wp2_with (fail)
          refine hK.out _ _ trivial fun _ => ?_
          clear hK K
          refine held_one (i := 15) (by kernel_rfl) rfl fun K hK => ?_
          refine wpList_store_mid rfl _ _ _ rfl blk ((k) * 7) ey.cs.toArray rfl rfl HTX.out ev_size ey.one ?_
          go_wp2_with (fail)
          refine hK.out _ _ trivial fun _ => ?_
          clear hK K
          refine held_one (i := 16) (by kernel_rfl) rfl fun K hK => ?_
          go_wp2_with (fail)
          refine hK.out _ _ trivial fun _ => ?_
          clear hK K
          refine held_one (i := 17) (by kernel_rfl) rfl fun K hK => ?_
          refine wpList_store_mid rfl _ _ _ rfl blk ((k - 1) * 7) ex.cs.toArray rfl rfl (World.there_setCells HTY.out _ _ _) ev_size ex.one ?_
          go_wp2_with (fail)
          refine hK.out _ _ trivial fun _ => ?_
          clear hK K
          refine wpAnyH_done (by kernel_rfl) ?_ _
          go_wp2_with (fail)
          go_roundw
          case rel =>
            refine ⟨k - 1, swp d1 k (k - 1), by congr 1; omega, by omega, by omega, by rw [size_swp]; exact HZ.out, fun p => ?_, permIn_trans _ _ _ _ _ HQ.out (swp_permIn _ _ _ _ _ (by omega) (by omega) (by omega) (by omega) (by rw [HZ.out]; exact h3)), HR.out⟩
            by_cases c1 : p = k
            · subst c1
              rw [swp_left _ _ _ (by rw [HZ.out]; omega) (by omega), HP.out, if_neg (by omega), if_neg (by omega), if_pos (by omega)]
            · by_cases c2 : p = k - 1
              · rw [c2, swp_right _ _ _ (by rw [HZ.out]; omega), HP.out, if_neg (by omega), if_pos rfl, if_neg (by omega), if_pos rfl]
              · rw [swp_other _ _ _ _ c1 c2, HP.out]
                by_cases c3 : k < p ∧ p ≤ m
                · rw [if_pos c3, if_pos (by omega)]
                · rw [if_neg c3, if_neg c1, if_neg (by omega), if_neg c2]
          case measure => simp [intOf]; omega
      obtain rfl : i = k := by omega
      have hi : ¬ (i : Int) < (i : Int) := by omega
      go_wp2_with (fail)
      refine bodyPost_ret (results_none rfl _ _ _) rfl ?_
      exact ⟨rfl, d1, HQ.out, by rw [HB.out]; exact merge_last (d := dk) (i := i) HS1.out hmi hki HLO.out HHI.out HP.out, HW.out⟩
set_option maxRecDepth 100000 in
set_option maxHeartbeats 6400000 in
theorem symC {w0 W : World} {blk N : Nat} {dk d0 : Array Ev} (h : Sw w0 blk dk W) (T : Srt w0 blk d0) (hs : dk.size = d0.size) (hN : dk.size = N) (cap a m b : Nat) (h1 : a < m) (h2 : m < b) (h3 : b ≤ N) (k1 : SortK Ev.key a m dk) (k2 : SortK Ev.key m b dk) (hA : ¬ m = a + 1) (hB : ¬ b = m + 1)
    (IH : ∀ (W : World) (dk : Array Ev) (x y z : Nat) (x' y' z' : Int), z - x < b - a → x' = x → y' = y → z' = z → Sw w0 blk dk W → dk.size = N → x < y → y < z → z ≤ N → SortK Ev.key x y dk → SortK Ev.key y z dk →
      Calls Try.prog 42 #[.slice (some ⟨blk, 0, none⟩) N cap, .int .i64 x', .int .i64 y', .int .i64 z', .func (.func 19) #[] #[]] W (SymPost w0 blk dk x z)) :
    Calls Try.prog 42 #[.slice (some ⟨blk, 0, none⟩) N cap, .int .i64 a, .int .i64 m, .int .i64 b, .func (.func 19) #[] #[]] W (SymPost w0 blk dk a b) := by
  have HW := Lib.hid h
  have HT := Lib.hid T
  have hsz := T.sz
  rw [← hs, hN] at hsz
  have HE := Lib.hid (show N = d0.size by rw [← hN, hs])
  have HZ := Lib.hid hN
  have HS1 := Lib.hid k1
  have HS2 := Lib.hid k2
  clear h T hs hN k1 k2
  have HIH := Lib.hid IH
  clear IH
  have e0 : ((m : Int) - (a : Int) == 1) = false := by simp; omega
  have e1 : ((b : Int) - (m : Int) == 1) = false := by simp; omega
  have hba : a ≤ b := by omega
  obtain ⟨M, hM⟩ : ∃ M, (a + b) / 2 = M := ⟨_, rfl⟩
  have hM1 : 2 * M ≤ a + b := by omega
  have hM2 : a + b < 2 * M + 2 := by omega
  have hq : ((a : Int) + (b : Int)) / 2 = (M : Int) := by omega
  have HM := Lib.hid hM
  clear hA hB hM
  go_enter Try.func42, Try.ntmps42
  go_upto_region 25 with (fail)
  clear hq
  go_upto_if 140 with (fail)
  obtain ⟨s0, hs0⟩ : ∃ s0 : Nat, s0 = if M < m then M + m - b else a := ⟨_, rfl⟩
  obtain ⟨r0, hr0⟩ : ∃ r0 : Nat, r0 = if M < m then M else m := ⟨_, rfl⟩
  have hs1 : a ≤ s0 ∧ s0 ≤ r0 ∧ r0 ≤ m ∧ M + m ≤ s0 + b ∧ r0 ≤ M := by
    by_cases c : M < m
    · rw [if_pos c] at hs0 hr0; omega
    · rw [if_neg c] at hs0 hr0; omega
  have HS0 := Lib.hid hs0
  have HR0 := Lib.hid hr0
  clear hs0 hr0
  go_cut [20, 21] (fun v20 v21 wx => v20 = .int .i64 s0 ∧ v21 = .int .i64 r0 ∧ W = wx)
  case first =>
    as_aux_lemma =>
    have hs0 := HS0.out
    have hr0 := HR0.out
    by_cases c : M < m
    · rw [if_pos c] at hs0 hr0
      have c1 : (M : Int) < (m : Int) := by omega
      have c2 : IntKind.i64.wrap ((M : Int) + (m : Int) - (b : Int)) = (M : Int) + (m : Int) - (b : Int) := IntWalk.i64_in _ ⟨by omega, by omega⟩
      have HSX := Lib.hid (show (M : Int) + (m : Int) - (b : Int) = (s0 : Int) by omega)
      subst hr0
      clear hs0
      go_wp2_with (fail)
      go_meet
      case rel => exact ⟨by rw [HSX.out], rfl, rfl⟩
    · rw [if_neg c] at hs0 hr0
      have c1 : ¬ (M : Int) < (m : Int) := by omega
      subst hr0 hs0
      go_wp2_with (fail)
      go_meet
      case rel => exact ⟨rfl, rfl, rfl⟩
  case rest =>
  obtain ⟨rfl, rfl, hww⟩ := hcut
  subst hww
  obtain ⟨hsa, hsr, hrm, hsb, hrM⟩ := hs1
  have hp1 : IntKind.i64.wrap ((M : Int) + (m : Int) - 1) = (M : Int) + (m : Int) - 1 := IntWalk.i64_in _ ⟨by omega, by omega⟩
  obtain ⟨P, hP⟩ : ∃ P : Nat, M + m - 1 = P := ⟨_, rfl⟩
  have hP1 : (M : Int) + (m : Int) - 1 = (P : Int) := by omega
  go_wp2_with (fail)
  clear hP1 hp1
  go_loopw [20, 21, 23] (fun vi vj vh wr => ∃ s r : Nat, vi = .int .i64 s ∧ vj = .int .i64 r ∧ s0 ≤ s ∧ s ≤ r ∧ r ≤ r0 ∧ (∀ c, s0 ≤ c → c < s → Ev.key dk[c]! ≤ Ev.key dk[P - c]!) ∧ (∀ c, r ≤ c → c < r0 → Ev.key dk[P - c]! < Ev.key dk[c]!) ∧ Sw w0 blk dk wr) (fun vi vj _ _ => (intOf vj - intOf vi).toNat)
  case atStart => exact ⟨s0, r0, rfl, rfl, Nat.le_refl _, hsr, Nat.le_refl _, fun k e1 e2 => by omega, fun k e1 e2 => by omega, HW.out⟩
  case round =>
    obtain ⟨s, q, rfl, rfl, hss, hsq, hqr, hlo, hhi, hsw⟩ := hrel
    have HLO := Lib.hid hlo
    have HHI := Lib.hid hhi
    clear hlo hhi HW
    have HW := Lib.hid hsw
    clear hsw
    by_cases hlt : s < q
    case' pos =>
      as_aux_lemma =>
      have hi : (s : Int) < (q : Int) := by omega
      obtain ⟨hh, hhe⟩ : ∃ hh : Nat, (s + q) / 2 = hh := ⟨_, rfl⟩
      have hh1 : s ≤ hh := by omega
      have hh2 : hh < q := by omega
      have hq : ((s : Int) + (q : Int)) / 2 = (hh : Int) := by omega
      have a1 : (0 : Int) ≤ (P : Int) - (hh : Int) := by omega
      have a4 : hh ≤ P := by omega
      have a5 : ¬ P < hh := by omega
      have a2 : (P : Int) - (hh : Int) < (N : Int) := by omega
      have a3 : ((P : Int) - (hh : Int)).toNat = P - hh := by omega
      have hwx : IntKind.i64.wrap ((P : Int) - (hh : Int)) = (P : Int) - (hh : Int) := IntWalk.i64_in _ ⟨by omega, by omega⟩
      have b1 : (hh : Int) < (N : Int) := by omega
      clear hhe
      go_upto_region 35 with (fail)
      clear hq
      obtain ⟨ex, hex⟩ : ∃ e, (dk)[P - hh]! = e := ⟨_, rfl⟩
      obtain ⟨ey, hey⟩ : ∃ e, (dk)[hh]! = e := ⟨_, rfl⟩
      have HEX := Lib.hid (show ∀ Wz, Sw w0 blk (dk) Wz → Wz.rangeAt blk ((P - hh) * 7) ex.cs from fun Wz h => by rw [← hex]; exact Sw.cells h HT.out (by rw [HZ.out, HE.out]) (by rw [HZ.out]; omega))
      have HEY := Lib.hid (show ∀ Wz, Sw w0 blk (dk) Wz → Wz.rangeAt blk ((hh) * 7) ey.cs from fun Wz h => by rw [← hey]; exact Sw.cells h HT.out (by rw [HZ.out, HE.out]) (by rw [HZ.out]; omega))
      have HLT := Lib.hid (show cfE ex ey < 0 ↔ Ev.key (dk)[P - hh]! < Ev.key (dk)[hh]! by rw [hex, hey]; exact cfE_lt ex ey)
      have HCM := Lib.hid (fun W => cmp_evs ex ey W)
      obtain ⟨r, hr⟩ : ∃ r, cfE ex ey = r := ⟨_, rfl⟩
      rw [hr] at HLT HCM
      clear hex hey hr
      go_upto_region 35 with (fail)
      refine wp_region_held_drew (S := fun Wz => Sw w0 blk (dk) Wz) (by kernel_rfl) HW.out.drew fun hS => ?_
      clear HW
      generalize World.drew _ = w2 at hS ⊢
      refine held_takeTo 158 (i := 0) (v := .func (.func 19) #[] #[]) rfl rfl (by kernel_rfl) (by kernel_rfl) (by kernel_rfl) (fun _ _ _ h => h) rfl hS (fun Wz hW => by go_simp) ?_
      simp only [List.setIfInBounds_toArray, List.set_cons_zero, List.set_cons_succ]
      refine held_takeTo 159 (i := 1) (v := .slice (some ⟨blk, 0, none⟩) N cap) rfl rfl (by kernel_rfl) (by kernel_rfl) (by kernel_rfl) (fun _ _ _ h => h) rfl hS (fun Wz hW => by go_simp) ?_
      simp only [List.setIfInBounds_toArray, List.set_cons_zero, List.set_cons_succ]
      refine held_takeTo 160 (i := 2) (v := .int .i64 (P : Int)) rfl rfl (by kernel_rfl) (by kernel_rfl) (by kernel_rfl) (fun _ _ _ h => h) rfl hS (fun Wz hW => by go_simp) ?_
      simp only [List.setIfInBounds_toArray, List.set_cons_zero, List.set_cons_succ]
      refine held_takeTo 161 (i := 3) (v := .int .i64 (hh : Int)) rfl rfl (by kernel_rfl) (by kernel_rfl) (by kernel_rfl) (fun _ _ _ h => h) rfl hS (fun Wz hW => by go_simp) ?_
      simp only [List.setIfInBounds_toArray, List.set_cons_zero, List.set_cons_succ]
      refine held_takeTo 162 (i := 4) (v := .int .i64 ((P : Int) - (hh : Int))) rfl rfl (by kernel_rfl) (by kernel_rfl) (by kernel_rfl) (fun _ _ _ h => h) rfl hS (fun Wz hW => by go_simp) ?_
      simp only [List.setIfInBounds_toArray, List.set_cons_zero, List.set_cons_succ]
      refine held_takeTo 163 (i := 5) (v := .pointer (some ⟨blk, (P - hh) * 7, none⟩)) rfl rfl (by kernel_rfl) (by kernel_rfl) (by kernel_rfl) (fun _ _ _ h => h) rfl hS (fun Wz hW => by go_simp) ?_
      simp only [List.setIfInBounds_toArray, List.set_cons_zero, List.set_cons_succ]
      refine held_takeTo 164 (i := 6) (v := .agg ex.cs.toArray) rfl rfl (by kernel_rfl) (by kernel_rfl) (by kernel_rfl) (fun _ _ _ h => h) rfl hS (fun Wz hW => exec_ev rfl rfl ((P - hh) * 7) rfl ex (HEX.out Wz hW)) ?_
      simp only [List.setIfInBounds_toArray, List.set_cons_zero, List.set_cons_succ]
      refine held_takeTo 165 (i := 7) (v := .slice (some ⟨blk, 0, none⟩) N cap) rfl rfl (by kernel_rfl) (by kernel_rfl) (by kernel_rfl) (fun _ _ _ h => h) rfl hS (fun Wz hW => by go_simp) ?_
      simp only [List.setIfInBounds_toArray, List.set_cons_zero, List.set_cons_succ]
      refine held_takeTo 166 (i := 8) (v := .int .i64 (hh : Int)) rfl rfl (by kernel_rfl) (by kernel_rfl) (by kernel_rfl) (fun _ _ _ h => h) rfl hS (fun Wz hW => by go_simp) ?_
      simp only [List.setIfInBounds_toArray, List.set_cons_zero, List.set_cons_succ]
      refine held_takeTo 167 (i := 9) (v := .pointer (some ⟨blk, (hh) * 7, none⟩)) rfl rfl (by kernel_rfl) (by kernel_rfl) (by kernel_rfl) (fun _ _ _ h => h) rfl hS (fun Wz hW => by go_simp) ?_
      simp only [List.setIfInBounds_toArray, List.set_cons_zero, List.set_cons_succ]
      refine held_takeTo 168 (i := 10) (v := .agg ey.cs.toArray) rfl rfl (by kernel_rfl) (by kernel_rfl) (by kernel_rfl) (fun _ _ _ h => h) rfl hS (fun Wz hW => exec_ev rfl rfl ((hh) * 7) rfl ey (HEY.out Wz hW)) ?_
      simp only [List.setIfInBounds_toArray, List.set_cons_zero, List.set_cons_succ]
      refine held_one (i := 11) (by kernel_rfl) rfl fun K hK => ?_
      go_wp2_with (fail)
      refine (HCM.out _).mono ?_
      rintro e' w3 ⟨rfl, nq9, os9, rfl⟩
      have hS3 : Sw w0 blk (dk) (grow (w2.drewN nq9) os9) := SWK.grown hS nq9 os9
      clear HCM HEX HEY
      go_wp2_with (fail)
      refine hK.out _ _ hS3 fun _ => ?_
      clear hK K
      refine held_one (i := 12) (by kernel_rfl) rfl fun K hK => ?_
      go_wp2_with (fail)
      refine hK.out _ _ hS3 fun _ => ?_
      clear hK K
      refine held_one (i := 13) (by kernel_rfl) rfl fun K hK => ?_
      go_wp2_with (fail)
      refine hK.out _ _ hS3 fun _ => ?_
      clear hK K
      refine wpAnyH_done (by kernel_rfl) ?_ _
      have HW := Lib.hid hS3
      clear hS3
      generalize grow (w2.drewN nq9) os9 = w3 at HW ⊢
      have HBV := Lib.hid (show decide (r < 0) = true ↔ Ev.key dk[P - hh]! < Ev.key dk[hh]! by rw [decide_eq_true_iff]; exact HLT.out)
      clear HLT
      generalize decide (r < 0) = bv at HBV ⊢
      cases bv with
      | true =>
        have HK := Lib.hid (HBV.out.1 rfl)
        clear HBV
        go_wp2_with (fail)
        go_roundw
        case rel => exact ⟨s, hh, rfl, rfl, hss, by omega, by omega, HLO.out, fun k e1 e2 => Int.lt_of_le_of_lt (HS2.out.le (by omega) (by omega) (by omega)) (Int.lt_of_lt_of_le HK.out (HS1.out.le (by omega) e1 (by omega))), HW.out⟩
        case measure => simp [intOf]; omega
      | false =>
        have HK := Lib.hid (show Ev.key dk[hh]! ≤ Ev.key dk[P - hh]! from Int.not_lt.1 fun h => by have := HBV.out.2 h; cases this)
        clear HBV
        have hw1 : IntKind.i64.wrap ((hh : Int) + 1) = (hh : Int) + 1 := IntWalk.i64_in _ ⟨by omega, by omega⟩
        go_wp2_with (fail)
        go_roundw
        case rel => exact ⟨hh + 1, q, by go_num, rfl, by omega, by omega, hqr, fun k e1 e2 => Int.le_trans (HS1.out.le (by omega) (show k ≤ hh by omega) (by omega)) (Int.le_trans HK.out (HS2.out.le (by omega) (by omega) (by omega))), HHI.out, HW.out⟩
        case measure => simp [intOf]; omega
    obtain rfl : s = q := by omega
    obtain ⟨wo, rfl⟩ : ∃ wo : World, wo = wr := ⟨_, rfl⟩
    have hsm : s ≤ m := by omega
    have hsM : s ≤ M := by omega
    have hE : M + m - s ≤ b := by omega
    have hE2 : m ≤ M + m - s := by omega
    have HHALF := Lib.hid (fun T (hT : if s < m ∧ m < (a + b) / 2 + m - s then RotS dk m (m - s) ((a + b) / 2 - s) T else T = dk) => half_of (key := Ev.key) (d := dk) (T := T) h1 h2 (by rw [HZ.out]; exact h3) HS1.out HS2.out (s := s) (s0 := s0) (r0 := r0) (by rw [HM.out]; exact HS0.out) (by rw [HM.out]; exact HR0.out) hss hqr (fun c e1 e2 => by rw [HM.out, hP]; exact HLO.out c e1 e2) (fun c e1 e2 => by rw [HM.out, hP]; exact HHI.out c e1 e2) hT)
    rw [HM.out] at HHALF
    clear HLO HHI HS1 HS2 HS0 HR0 hlt hP
    have we : IntKind.i64.wrap ((M : Int) + (m : Int) - (s : Int)) = (M : Int) + (m : Int) - (s : Int) := IntWalk.i64_in _ ⟨by omega, by omega⟩
    obtain ⟨E, hEE⟩ : ∃ E : Nat, M + m - s = E := ⟨_, rfl⟩
    have HEE := Lib.hid hEE
    have hE3 : (M : Int) + (m : Int) - (s : Int) = (E : Int) := by omega
    rw [hEE] at hE hE2 HHALF
    go_upto_region 39 with (fail)
    clear hE3 we hEE
    obtain ⟨bb, hbb⟩ : ∃ bb : Bool, (decide (s < m) && decide (m < E)) = bb := ⟨_, rfl⟩
    have HBB := Lib.hid hbb
    clear hbb
    go_cut [185] (fun v wx => v = .bool bb ∧ wo = wx)
    case first =>
      as_aux_lemma =>
      by_cases c1 : s < m
      · have i1 : decide ((s : Int) < (m : Int)) = true := decide_eq_true (by omega)
        by_cases c2 : m < E
        · obtain rfl : true = bb := by rw [← HBB.out, decide_eq_true c1, decide_eq_true c2]; rfl
          have i2 : decide ((m : Int) < (E : Int)) = true := decide_eq_true (by omega)
          go_wp2_with (fail)
          go_meet
          case rel => exact ⟨rfl, rfl⟩
        · obtain rfl : false = bb := by rw [← HBB.out, decide_eq_false c2, Bool.and_false]
          have i2 : decide ((m : Int) < (E : Int)) = false := decide_eq_false (by omega)
          go_wp2_with (fail)
          go_meet
          case rel => exact ⟨rfl, rfl⟩
      · obtain rfl : false = bb := by rw [← HBB.out, decide_eq_false c1]; rfl
        have i1 : decide ((s : Int) < (m : Int)) = false := decide_eq_false (by omega)
        go_wp2_with (fail)
        go_meet
        case rel => exact ⟨rfl, rfl⟩
    case rest =>
    obtain ⟨rfl, hww⟩ := hcut
    subst hww
    go_upto_if 185 with (fail)
    go_cut [24] (fun v wx => v = .int .i64 E ∧ ∃ T : Array Ev, T.size = N ∧ Half Ev.key dk T a m b s ∧ Sw w0 blk T wx)
    case first =>
      as_aux_lemma =>
      cases bb with
      | true =>
        obtain ⟨c1, c2⟩ : s < m ∧ m < E := by have := HBB.out; simpa using this
        go_wp2_with (fail)
        refine (rotate_any HW.out HT.out (by rw [HZ.out, HE.out]) HZ.out cap s m E c1 c2 (by omega)).mono ?_
        rintro r' w5 ⟨rfl, T, hT, hsw⟩
        have HSW := Lib.hid hsw
        have HHT := Lib.hid (HHALF.out T (by rw [if_pos ⟨c1, c2⟩]; rw [show M - s = E - m by have := HEE.out; omega]; exact hT))
        clear hT hsw
        go_wp2_with (fail)
        go_meet
        case rel => exact ⟨rfl, T, by rw [HHT.out.perm.1]; exact HZ.out, HHT.out, HSW.out⟩
      | false =>
        have HHT := Lib.hid (HHALF.out dk (by rw [if_neg (by have := HBB.out; simpa using this)]))
        go_wp2_with (fail)
        go_meet
        case rel => exact ⟨rfl, dk, HZ.out, HHT.out, HW.out⟩
    case rest =>
    obtain ⟨rfl, T, hTs, hT, hsw⟩ := hcut
    have HTS := Lib.hid hTs
    have HTH := Lib.hid hT
    have HW := Lib.hid hsw
    clear hTs hT hsw HBB HHALF
    obtain ⟨w6, rfl⟩ : ∃ w6 : World, w6 = wc := ⟨_, rfl⟩
    have g1 := HTH.out.s1
    have g2 := HTH.out.s2
    have g3 := HTH.out.s3
    have g4 := HTH.out.s4
    rw [HM.out] at g2 g3 g4
    rw [HEE.out] at g3 g4
    have HG1 := Lib.hid g1
    have HG2 := Lib.hid g2
    have HG3 := Lib.hid g3
    have HG4 := Lib.hid g4
    clear g1 g2 g3 g4
    go_upto_region 41 with (fail)
    obtain ⟨bb, hbb⟩ : ∃ bb : Bool, (decide (a < s) && decide (s < M)) = bb := ⟨_, rfl⟩
    have HBB := Lib.hid hbb
    clear hbb
    go_cut [199] (fun v wx => v = .bool bb ∧ w6 = wx)
    case first =>
      as_aux_lemma =>
      by_cases c1 : a < s
      · have i1 : decide ((a : Int) < (s : Int)) = true := decide_eq_true (by omega)
        by_cases c2 : s < M
        · obtain rfl : true = bb := by rw [← HBB.out, decide_eq_true c1, decide_eq_true c2]; rfl
          have i2 : decide ((s : Int) < (M : Int)) = true := decide_eq_true (by omega)
          go_wp2_with (fail)
          go_meet
          case rel => exact ⟨rfl, rfl⟩
        · obtain rfl : false = bb := by rw [← HBB.out, decide_eq_false c2, Bool.and_false]
          have i2 : decide ((s : Int) < (M : Int)) = false := decide_eq_false (by omega)
          go_wp2_with (fail)
          go_meet
          case rel => exact ⟨rfl, rfl⟩
      · obtain rfl : false = bb := by rw [← HBB.out, decide_eq_false c1]; rfl
        have i1 : decide ((a : Int) < (s : Int)) = false := decide_eq_false (by omega)
        go_wp2_with (fail)
        go_meet
        case rel => exact ⟨rfl, rfl⟩
    case rest =>
    obtain ⟨rfl, hww⟩ := hcut
    subst hww
    go_upto_if 199 with (fail)
    go_cut [24] (fun v wx => v = .int .i64 E ∧ ∃ U : Array Ev, PermIn a M T U ∧ SortK Ev.key a M U ∧ Sw w0 blk U wx)
    case first =>
      as_aux_lemma =>
      cases bb with
      | true =>
        obtain ⟨c1, c2⟩ : a < s ∧ s < M := by have := HBB.out; simpa using this
        go_wp2_with (fail)
        refine (HIH.out _ T a s M _ _ _ (by omega) rfl rfl rfl HW.out HTS.out c1 c2 (by omega) HG1.out HG2.out).mono ?_
        rintro r' w7 ⟨rfl, U, hU, hU2, hsw⟩
        have HSW := Lib.hid hsw
        have HU := Lib.hid hU
        have HU2 := Lib.hid hU2
        clear hU hU2 hsw
        go_wp2_with (fail)
        go_meet
        case rel => exact ⟨rfl, U, HU.out, HU2.out, HSW.out⟩
      | false =>
        have hc : ¬ (a < s ∧ s < M) := by have := HBB.out; simpa using this
        have HSO := Lib.hid (show SortK Ev.key a M T by
          by_cases c : s = a
          · subst c; exact HG2.out
          · have e : s = M := by omega
            rw [← e]; exact HG1.out)
        clear hc
        go_wp2_with (fail)
        go_meet
        case rel => exact ⟨rfl, T, permIn_refl _ _ _, HSO.out, HW.out⟩
    case rest =>
    obtain ⟨rfl, U, hU, hU2, hsw⟩ := hcut
    have HU := Lib.hid hU
    have HU2 := Lib.hid hU2
    have HW := Lib.hid hsw
    have HU3 := Lib.hid (HG3.out.congr fun i e1 e2 => hU.2.1 i (.inr e1))
    have hME : M ≤ E := by have := HEE.out; omega
    have HU4 := Lib.hid (HG4.out.congr fun i e1 e2 => hU.2.1 i (.inr (by omega)))
    have HUS := Lib.hid (hU.1.trans HTS.out)
    clear hU hU2 hsw HBB HG1 HG2 HG3 HG4
    obtain ⟨w7, rfl⟩ : ∃ w7 : World, w7 = wc := ⟨_, rfl⟩
    have HEND := Lib.hid (fun V h2 hv => HTH.out.whole (U := U) (V := V) hba (by rw [HTS.out]; exact h3) (by rw [HM.out]; exact HU.out) (by rw [HM.out]; exact HU2.out) h2 hv)
    rw [HM.out] at HEND
    go_upto_region 43 with (fail)
    obtain ⟨bb, hbb⟩ : ∃ bb : Bool, (decide (M < E) && decide (E < b)) = bb := ⟨_, rfl⟩
    have HBB := Lib.hid hbb
    clear hbb
    go_cut [213] (fun v wx => v = .bool bb ∧ w7 = wx)
    case first =>
      as_aux_lemma =>
      by_cases c1 : M < E
      · have i1 : decide ((M : Int) < (E : Int)) = true := decide_eq_true (by omega)
        by_cases c2 : E < b
        · obtain rfl : true = bb := by rw [← HBB.out, decide_eq_true c1, decide_eq_true c2]; rfl
          have i2 : decide ((E : Int) < (b : Int)) = true := decide_eq_true (by omega)
          go_wp2_with (fail)
          go_meet
          case rel => exact ⟨rfl, rfl⟩
        · obtain rfl : false = bb := by rw [← HBB.out, decide_eq_false c2, Bool.and_false]
          have i2 : decide ((E : Int) < (b : Int)) = false := decide_eq_false (by omega)
          go_wp2_with (fail)
          go_meet
          case rel => exact ⟨rfl, rfl⟩
      · obtain rfl : false = bb := by rw [← HBB.out, decide_eq_false c1]; rfl
        have i1 : decide ((M : Int) < (E : Int)) = false := decide_eq_false (by omega)
        go_wp2_with (fail)
        go_meet
        case rel => exact ⟨rfl, rfl⟩
    case rest =>
    obtain ⟨rfl, hww⟩ := hcut
    subst hww
    cases bb with
    | true =>
      as_aux_lemma =>
      obtain ⟨c1, c2⟩ : M < E ∧ E < b := by have := HBB.out; simpa using this
      go_wp2_with (fail)
      refine (HIH.out _ U M E b _ _ _ (by omega) rfl rfl rfl HW.out HUS.out c1 c2 (by omega) HU3.out HU4.out).mono ?_
      rintro r' w8 ⟨rfl, V, hV, hV2, hsw⟩
      have HSW := Lib.hid hsw
      have HV := Lib.hid (HEND.out V hV hV2)
      clear hV hV2 hsw
      go_wp2_with (fail)
      go_end0
      exact ⟨rfl, V, HV.out.1, HV.out.2, HSW.out⟩
    | false =>
      as_aux_lemma =>
      have hc : ¬ (M < E ∧ E < b) := by have := HBB.out; simpa using this
      have HV := Lib.hid (HEND.out U (permIn_refl _ _ _) (by
        by_cases c : M = E
        · rw [c]; exact HU4.out
        · have e : E = b := by have := HEE.out; omega
          rw [← e]; exact HU3.out))
      clear hc
      go_wp2_with (fail)
      go_end0
      exact ⟨rfl, U, HV.out.1, HV.out.2, HW.out⟩
theorem symMerge_of (n : Nat) : ∀ {w0 W : World} {blk N : Nat} {dk d0 : Array Ev} (_ : Sw w0 blk dk W) (_ : Srt w0 blk d0) (_ : dk.size = d0.size) (_ : dk.size = N) (cap a m b : Nat) (_ : b - a = n) (_ : a < m) (_ : m < b) (_ : b ≤ N) (_ : SortK Ev.key a m dk) (_ : SortK Ev.key m b dk),
    Calls Try.prog 42 #[.slice (some ⟨blk, 0, none⟩) N cap, .int .i64 a, .int .i64 m, .int .i64 b, .func (.func 19) #[] #[]] W (SymPost w0 blk dk a b) := by
  induction n using Nat.strongRecOn with
  | _ n ih =>
    intro w0 W blk N dk d0 h T hs hN cap a m b hn h1 h2 h3 k1 k2
    by_cases hA : m = a + 1
    · exact symA h T hs hN cap a m b h1 h2 h3 k1 k2 hA
    · by_cases hB : b = m + 1
      · exact symB h T hs hN cap a m b h1 h2 h3 k1 k2 hA hB
      · refine symC h T hs hN cap a m b h1 h2 h3 k1 k2 hA hB fun W' dk' x y z x' y' z' hlt hx hy hz h' hN' c1 c2 c3 c4 c5 => ?_
        subst hx hy hz
        exact ih (z - x) (by omega) h' T (by rw [hN', ← hN, hs]) hN' cap x y z rfl c1 c2 c3 c4 c5
theorem symMerge_any {w0 W : World} {blk N : Nat} {dk d0 : Array Ev} (h : Sw w0 blk dk W) (T : Srt w0 blk d0) (hs : dk.size = d0.size) (hN : dk.size = N) (cap a m b : Nat) (h1 : a < m) (h2 : m < b) (h3 : b ≤ N) (k1 : SortK Ev.key a m dk) (k2 : SortK Ev.key m b dk) :
    Calls Try.prog 42 #[.slice (some ⟨blk, 0, none⟩) N cap, .int .i64 a, .int .i64 m, .int .i64 b, .func (.func 19) #[] #[]] W (SymPost w0 blk dk a b) := symMerge_of (b - a) h T hs hN cap a m b rfl h1 h2 h3 k1 k2
end Go.Proofs.Ytkekhnohehhljaa
