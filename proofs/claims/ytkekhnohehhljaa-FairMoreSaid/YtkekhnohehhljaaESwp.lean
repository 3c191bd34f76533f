/- The walks of slices' swapRange and rotate at events. Conditions: the row of events is one of the sort's. -/
import Derived.Test.YtkekhnohehhljaaEEv
import Derived.Test.YtkekhnohehhljaaELay
import Derived.Test.YtkekhnohehhljaaLHeld
import Derived.StillTailTactics
import Derived.Deep.MidRow
namespace Go.Proofs.Ytkekhnohehhljaa
open Go Go.Shelf Go.RowKit Go.Lib Go.Sort

/-- What the sort is told, once. -/
structure Srt (w0 : World) (blk : Nat) (d0 : Array Ev) : Prop where
  R : RowK Ev.cs 7 w0 blk 0 d0
  sz : d0.size < 4611686018427387904
abbrev Sw (w0 : World) (blk : Nat) (dk : Array Ev) (W : World) : Prop := SWK Ev.cs 7 w0 blk 0 dk W
theorem ev_und : Try.prog.underlying 35 = some (.struct (Try.prog.fieldsOf 35)) := by kernel_rfl
theorem ev_size : (Try.prog.info? 35).map (·.size) = some 7 := by kernel_rfl
theorem Ev.one (x : Ev) : x.cs.toArray.all (·.oneCell') = true := all_oneCell_toArray x.cs_one
section
variable {w0 W : World} {blk : Nat} {dk d0 : Array Ev}
theorem Sw.cells (h : Sw w0 blk dk W) (T : Srt w0 blk d0) (hs : dk.size = d0.size) {i : Nat} (hi : i < dk.size) : W.rangeAt blk (i * 7) (dk[i]!).cs := fun j v hj => by
  have h1 := HoldsK.cells (h.holds T.R.hblk T.R.hH hs) T.R.hk hi j v hj
  rw [Nat.zero_add] at h1
  have e : (⟨blk, i * 7, none⟩ : Addr).add j = ⟨blk, i * 7 + j, none⟩ := by unfold Addr.add; split <;> simp_all
  rwa [e] at h1
theorem Sw.there (h : Sw w0 blk dk W) (T : Srt w0 blk d0) (hs : dk.size = d0.size) {i : Nat} (hi : i < dk.size) : W.there blk (i * 7) 7 := fun j hj => by
  have h1 := (h.holds T.R.hblk T.R.hH hs).cell hi (c := j) (by simpa using hj)
  rw [Nat.zero_add] at h1
  exact ⟨by rw [h1.1]; rfl, h1.2⟩
theorem Sw.turned (h : Sw w0 blk dk W) (T : Srt w0 blk d0) {i j : Nat} (hi : i < dk.size) (hj : j < dk.size) : Sw w0 blk (swp dk i j) ((W.drew.setCells blk (i * 7) (dk[j]!).cs).setCells blk (j * 7) (dk[i]!).cs) := by
  have h1 := SWK.swapped h T.R i j hi hj
  rwa [Nat.zero_add, Nat.zero_add] at h1
end
/-- The closure that the sort is given. -/
def cmpV : Value := .func (.func 19) #[] #[]
def SwPost (w0 : World) (blk : Nat) (d' : Array Ev) (e : Ending) (w' : World) : Prop := e = .returned (.tuple #[]) ∧ Sw w0 blk d' w'
set_option maxRecDepth 100000 in
set_option maxHeartbeats 3200000 in
theorem swapRange_any {w0 W : World} {blk : Nat} {dk d0 : Array Ev} (h : Sw w0 blk dk W) (T : Srt w0 blk d0) (hs : dk.size = d0.size) (cap x y n : Nat) (h1 : x + n ≤ y) (h2 : y + n ≤ dk.size) :
    Calls Try.prog 51 #[.slice (some ⟨blk, 0, none⟩) dk.size cap, .int .i64 x, .int .i64 y, .int .i64 n, .func (.func 19) #[] #[]] W (SwPost w0 blk (swR dk x y n)) := by
  have HS := Lib.hid h
  have HT := Lib.hid T
  have HE := Lib.hid hs
  have hsz := T.sz
  rw [← hs] at hsz
  obtain ⟨N, hN⟩ : ∃ N, dk.size = N := ⟨_, rfl⟩
  have HN := Lib.hid hN
  rw [hN] at h2 hsz ⊢
  clear h T hs hN
  go_enter Try.func51, Try.ntmps51
  go_wp2_with (fail)
  go_loopw [10] (fun i wr => ∃ k : Nat, i = .int .i64 k ∧ k ≤ n ∧ Sw w0 blk (swR dk x y k) wr) (fun i _ => n - (intOf i).toNat)
  case atStart => exact ⟨0, rfl, Nat.zero_le _, HS.out⟩
  case round =>
    obtain ⟨k, rfl, hk, hsw⟩ := hrel
    have HW := Lib.hid hsw
    clear hsw
    by_cases hlt : k < n
    · as_aux_lemma =>
      have hi : (k : Int) < (n : Int) := by omega
      have a1 : (0 : Int) ≤ (x : Int) + (k : Int) := by omega
      have a2 : (x : Int) + (k : Int) < (N : Int) := by omega
      have a3 : ((x : Int) + (k : Int)).toNat = x + k := by omega
      have hwx : IntKind.i64.wrap ((x : Int) + (k : Int)) = (x : Int) + (k : Int) := IntWalk.i64_in _ ⟨by omega, by omega⟩
      have hwy : IntKind.i64.wrap ((y : Int) + (k : Int)) = (y : Int) + (k : Int) := IntWalk.i64_in _ ⟨by omega, by omega⟩
      have b1 : (0 : Int) ≤ (y : Int) + (k : Int) := by omega
      have b2 : (y : Int) + (k : Int) < (N : Int) := by omega
      have b3 : ((y : Int) + (k : Int)).toNat = y + k := by omega
      have HZ := Lib.hid (show (swR dk x y k).size = N by rw [swR_size, HN.out])
      obtain ⟨ex, hex⟩ : ∃ e, (swR dk x y k)[x + k]! = e := ⟨_, rfl⟩
      obtain ⟨ey, hey⟩ : ∃ e, (swR dk x y k)[y + k]! = e := ⟨_, rfl⟩
      have HX := Lib.hid (show wr.drew.rangeAt blk ((x + k) * 7) ex.cs by rw [← hex]; exact Sw.cells HW.out.drew HT.out (by rw [HZ.out, ← HN.out, HE.out]) (by rw [HZ.out]; omega))
      have HY := Lib.hid (show wr.drew.rangeAt blk ((y + k) * 7) ey.cs by rw [← hey]; exact Sw.cells HW.out.drew HT.out (by rw [HZ.out, ← HN.out, HE.out]) (by rw [HZ.out]; omega))
      have HTX := Lib.hid (show wr.drew.there blk ((x + k) * 7) 7 from Sw.there HW.out.drew HT.out (by rw [HZ.out, ← HN.out, HE.out]) (by rw [HZ.out]; omega))
      have HTY := Lib.hid (show wr.drew.there blk ((y + k) * 7) 7 from Sw.there HW.out.drew HT.out (by rw [HZ.out, ← HN.out, HE.out]) (by rw [HZ.out]; omega))
      have HR := Lib.hid (show Sw w0 blk (swR dk x y (k + 1)) ((wr.drew.setCells blk ((x + k) * 7) ey.cs).setCells blk ((y + k) * 7) ex.cs) by
        rw [← hex, ← hey]
        exact Sw.turned HW.out HT.out (by rw [HZ.out]; omega) (by rw [HZ.out]; omega))
      clear hex hey HW
      go_upto_region 3 with (fail)
      refine wp_region_held_drew (S := fun _ => True) (by kernel_rfl) trivial fun hS => ?_
      generalize wr.drew = w2 at HX HY HTX HTY HR ⊢
      refine held_takeTo 16 (i := 0) (v := .slice (some ⟨blk, 0, none⟩) N cap) rfl rfl (by kernel_rfl) (by kernel_rfl) (by kernel_rfl) (fun _ _ _ h => h) rfl hS (fun Wz hW => by go_simp) ?_
      simp only [List.setIfInBounds_toArray, List.set_cons_zero, List.set_cons_succ]
      refine held_takeTo 17 (i := 1) (v := .int .i64 (x : Int)) rfl rfl (by kernel_rfl) (by kernel_rfl) (by kernel_rfl) (fun _ _ _ h => h) rfl hS (fun Wz hW => by go_simp) ?_
      simp only [List.setIfInBounds_toArray, List.set_cons_zero, List.set_cons_succ]
      refine held_takeTo 18 (i := 2) (v := .int .i64 (k : Int)) rfl rfl (by kernel_rfl) (by kernel_rfl) (by kernel_rfl) (fun _ _ _ h => h) rfl hS (fun Wz hW => by go_simp) ?_
      simp only [List.setIfInBounds_toArray, List.set_cons_zero, List.set_cons_succ]
      refine held_takeTo 19 (i := 3) (v := .int .i64 ((x : Int) + (k : Int))) rfl rfl (by kernel_rfl) (by kernel_rfl) (by kernel_rfl) (fun _ _ _ h => h) rfl hS (fun Wz hW => by go_simp) ?_
      simp only [List.setIfInBounds_toArray, List.set_cons_zero, List.set_cons_succ]
      refine held_takeTo 20 (i := 4) (v := .slice (some ⟨blk, 0, none⟩) N cap) rfl rfl (by kernel_rfl) (by kernel_rfl) (by kernel_rfl) (fun _ _ _ h => h) rfl hS (fun Wz hW => by go_simp) ?_
      simp only [List.setIfInBounds_toArray, List.set_cons_zero, List.set_cons_succ]
      refine held_takeTo 21 (i := 5) (v := .int .i64 (y : Int)) rfl rfl (by kernel_rfl) (by kernel_rfl) (by kernel_rfl) (fun _ _ _ h => h) rfl hS (fun Wz hW => by go_simp) ?_
      simp only [List.setIfInBounds_toArray, List.set_cons_zero, List.set_cons_succ]
      refine held_takeTo 22 (i := 6) (v := .int .i64 (k : Int)) rfl rfl (by kernel_rfl) (by kernel_rfl) (by kernel_rfl) (fun _ _ _ h => h) rfl hS (fun Wz hW => by go_simp) ?_
      simp only [List.setIfInBounds_toArray, List.set_cons_zero, List.set_cons_succ]
      refine held_takeTo 23 (i := 7) (v := .int .i64 ((y : Int) + (k : Int))) rfl rfl (by kernel_rfl) (by kernel_rfl) (by kernel_rfl) (fun _ _ _ h => h) rfl hS (fun Wz hW => by go_simp) ?_
      simp only [List.setIfInBounds_toArray, List.set_cons_zero, List.set_cons_succ]
      refine held_takeTo 24 (i := 8) (v := .slice (some ⟨blk, 0, none⟩) N cap) rfl rfl (by kernel_rfl) (by kernel_rfl) (by kernel_rfl) (fun _ _ _ h => h) rfl hS (fun Wz hW => by go_simp) ?_
      simp only [List.setIfInBounds_toArray, List.set_cons_zero, List.set_cons_succ]
      refine held_takeTo 25 (i := 9) (v := .int .i64 (y : Int)) rfl rfl (by kernel_rfl) (by kernel_rfl) (by kernel_rfl) (fun _ _ _ h => h) rfl hS (fun Wz hW => by go_simp) ?_
      simp only [List.setIfInBounds_toArray, List.set_cons_zero, List.set_cons_succ]
      refine held_takeTo 26 (i := 10) (v := .int .i64 (k : Int)) rfl rfl (by kernel_rfl) (by kernel_rfl) (by kernel_rfl) (fun _ _ _ h => h) rfl hS (fun Wz hW => by go_simp) ?_
      simp only [List.setIfInBounds_toArray, List.set_cons_zero, List.set_cons_succ]
      refine held_takeTo 27 (i := 11) (v := .int .i64 ((y : Int) + (k : Int))) rfl rfl (by kernel_rfl) (by kernel_rfl) (by kernel_rfl) (fun _ _ _ h => h) rfl hS (fun Wz hW => by go_simp) ?_
      simp only [List.setIfInBounds_toArray, List.set_cons_zero, List.set_cons_succ]
      refine held_takeTo 28 (i := 12) (v := .pointer (some ⟨blk, (y + k) * 7, none⟩)) rfl rfl (by kernel_rfl) (by kernel_rfl) (by kernel_rfl) (fun _ _ _ h => h) rfl hS (fun Wz hW => by go_simp) ?_
      simp only [List.setIfInBounds_toArray, List.set_cons_zero, List.set_cons_succ]
      refine held_takeTo 30 (i := 14) (v := .slice (some ⟨blk, 0, none⟩) N cap) rfl rfl (by kernel_rfl) (by kernel_rfl) (by kernel_rfl) (fun _ _ _ h => h) rfl hS (fun Wz hW => by go_simp) ?_
      simp only [List.setIfInBounds_toArray, List.set_cons_zero, List.set_cons_succ]
      refine held_takeTo 31 (i := 15) (v := .int .i64 (x : Int)) rfl rfl (by kernel_rfl) (by kernel_rfl) (by kernel_rfl) (fun _ _ _ h => h) rfl hS (fun Wz hW => by go_simp) ?_
      simp only [List.setIfInBounds_toArray, List.set_cons_zero, List.set_cons_succ]
      refine held_takeTo 32 (i := 16) (v := .int .i64 (k : Int)) rfl rfl (by kernel_rfl) (by kernel_rfl) (by kernel_rfl) (fun _ _ _ h => h) rfl hS (fun Wz hW => by go_simp) ?_
      simp only [List.setIfInBounds_toArray, List.set_cons_zero, List.set_cons_succ]
      refine held_takeTo 33 (i := 17) (v := .int .i64 ((x : Int) + (k : Int))) rfl rfl (by kernel_rfl) (by kernel_rfl) (by kernel_rfl) (fun _ _ _ h => h) rfl hS (fun Wz hW => by go_simp) ?_
      simp only [List.setIfInBounds_toArray, List.set_cons_zero, List.set_cons_succ]
      refine held_takeTo 34 (i := 18) (v := .pointer (some ⟨blk, (x + k) * 7, none⟩)) rfl rfl (by kernel_rfl) (by kernel_rfl) (by kernel_rfl) (fun _ _ _ h => h) rfl hS (fun Wz hW => by go_simp) ?_
      simp only [List.setIfInBounds_toArray, List.set_cons_zero, List.set_cons_succ]
      refine held_two (i := 13) (j := 19) (by kernel_rfl) rfl rfl ?_ ?_
      · as_aux_lemma =>
        intro K hK
        refine wpList_load_mid rfl _ _ rfl blk ((y + k) * 7) rfl ey.cs _ HY.out ev_und rfl ev_size ?_
        go_wp2_with (fail)
        refine hK.out _ _ trivial fun _ => ?_
        clear hK K
        refine held_one (i := 19) (by kernel_rfl) rfl fun K hK => ?_
        refine wpList_load_mid rfl _ _ rfl blk ((x + k) * 7) rfl ex.cs _ HX.out ev_und rfl ev_size ?_
        go_wp2_with (fail)
        refine hK.out _ _ trivial fun _ => ?_
        clear hK K
        refine held_one (i := 20) (by kernel_rfl) rfl fun K hK => ?_
        go_wp2_with (fail)
        refine hK.out _ _ trivial fun _ => ?_
        clear hK K
        refine held_one (i := 21) (by kernel_rfl) rfl fun K hK => ?_
        refine wpList_store_mid rfl _ _ _ rfl blk ((x + k) * 7) ey.cs.toArray rfl rfl HTX.out ev_size ey.one ?_
        go_wp2_with (fail)
        refine hK.out _ _ trivial fun _ => ?_
        clear hK K
        refine held_one (i := 22) (by kernel_rfl) rfl fun K hK => ?_
        go_wp2_with (fail)
        refine hK.out _ _ trivial fun _ => ?_
        clear hK K
        refine held_one (i := 23) (by kernel_rfl) rfl fun K hK => ?_
        refine wpList_store_mid rfl _ _ _ rfl blk ((y + k) * 7) ex.cs.toArray rfl rfl (World.there_setCells HTY.out _ _ _) ev_size ex.one ?_
        go_wp2_with (fail)
        refine hK.out _ _ trivial fun _ => ?_
        clear hK K
        refine wpAnyH_done (by kernel_rfl) ?_ _
        go_wp2_with (fail)
        go_roundw
        case rel => exact ⟨k + 1, by go_num, by omega, HR.out⟩
        case measure => simp [intOf]; omega
      · as_aux_lemma =>
        intro K hK
        refine wpList_load_mid rfl _ _ rfl blk ((x + k) * 7) rfl ex.cs _ HX.out ev_und rfl ev_size ?_
        go_wp2_with (fail)
        refine hK.out _ _ trivial fun _ => ?_
        clear hK K
        refine held_one (i := 13) (by kernel_rfl) rfl fun K hK => ?_
        refine wpList_load_mid rfl _ _ rfl blk ((y + k) * 7) rfl ey.cs _ HY.out ev_und rfl ev_size ?_
        go_wp2_with (fail)
        refine hK.out _ _ trivial fun _ => ?_
        clear hK K
        refine held_one (i := 20) (by kernel_rfl) rfl fun K hK => ?_
        go_wp2_with (fail)
        refine hK.out _ _ trivial fun _ => ?_
        clear hK K
        refine held_one (i := 21) (by kernel_rfl) rfl fun K hK => ?_
        refine wpList_store_mid rfl _ _ _ rfl blk ((x + k) * 7) ey.cs.toArray rfl rfl HTX.out ev_size ey.one ?_
        go_wp2_with (fail)
        refine hK.out _ _ trivial fun _ => ?_
        clear hK K
        refine held_one (i := 22) (by kernel_rfl) rfl fun K hK => ?_
        go_wp2_with (fail)
        refine hK.out _ _ trivial fun _ => ?_
        clear hK K
        refine held_one (i := 23) (by kernel_rfl) rfl fun K hK => ?_
        refine wpList_store_mid rfl _ _ _ rfl blk ((y + k) * 7) ex.cs.toArray rfl rfl (World.there_setCells HTY.out _ _ _) ev_size ex.one ?_
        go_wp2_with (fail)
        refine hK.out _ _ trivial fun _ => ?_
        clear hK K
        refine wpAnyH_done (by kernel_rfl) ?_ _
        go_wp2_with (fail)
        go_roundw
        case rel => exact ⟨k + 1, by go_num, by omega, HR.out⟩
        case measure => simp [intOf]; omega
    · obtain rfl : k = n := by omega
      go_wp2_with (fail)
      go_end0
      exact ⟨rfl, HW.out⟩
end Go.Proofs.Ytkekhnohehhljaa
