/- fair.Windows walked whole: its loop over the windows. Conditions: the lists lie in memory, at most a hundred sites and a million events. -/
import Derived.Test.YtkekhnohehhljaaEWs
import Derived.Test.YtkekhnohehhljaaESam
namespace Go.Proofs.Ytkekhnohehhljaa
open Go Go.Shelf Go.RowKit Go.Lib Go.Sort
attribute [local go_sem] Oper.semAt_some

theorem info_win : (Try.prog.info? 31).map (fun i => (i.zero, i.size, i.bytes)) = some (some (.agg #[.int .i64 0, .int .i64 0]), 2, 16) := by kernel_rfl
theorem eltWins : Elt Try.prog 28 31 2 16 := .of Try.underlying28 info_win rfl (by decide) (by decide)
/-- The windows, in memory made since w. -/
def WinsPost (w : World) (es : List Ev) (live : List Int) (s lim : Int) (r : Ending) (w' : World) : Prop :=
  ∃ (W : List (Int × Int)) (A : Option Addr) (c : Nat), r = .returned (.slice A W.length c) ∧ Wins es live s lim W ∧ W.length ≤ es.length ∧ w'.ownsRow w.heap.size 31 2 (.slice A W.length c) W.length (wcs W) ∧ Kept (fun _ => False) w w'
theorem CompactS_any {b c : Nat} {A : Option Addr} {l : List Int} {w : World} (h : IntsOwn b A c (l.mergeSort fun x y => decide (x ≤ y)) w) (hl : l.length ≤ 1000000) :
    Calls Try.prog 16 #[.slice A l.length c] w fun r w' => r = .returned (.slice A (sitesOf l).length c) ∧ CellsAt w' A (ints (sitesOf l)) ∧ Kept (fun k => b ≤ k) w w' := by
  have := CompactI_any h (by rw [List.length_mergeSort]; exact hl)
  rwa [List.length_mergeSort] at this
theorem win_step {W w1 w7 : World} {m C b : Nat} {v v' : Value} {pre : List (Int × Int)} {x : Int × Int} {tmp : Obj} (hbx : Boxed W C 28 v) (hrow : W.ownsRow m 31 2 v pre.length (wcs pre)) (hm : m ≤ w7.heap.size) (hC : C < m) (hbC : b ≤ C) (hk : Kept (fun k => b ≤ k) w7 W)
    (hown : w1.ownsRow m 31 2 v' (pre.length + 1) (wcs pre ++ [.int .i64 x.1, .int .i64 x.2])) (hg : (W.alloc tmp).grownBy w1 v.ownBlock) :
    (∃ g' cap', v' = .slice (some ⟨g', 0, none⟩) (pre.length + 1) cap') ∧ w1.cell? ⟨C, 0, none⟩ = some v ∧ w1.frozen? ⟨C, 0, none⟩ = false ∧
      KeepsOthers W (w1.setCell ⟨C, 0, none⟩ v') ∧ KpW m C W (w1.setCell ⟨C, 0, none⟩ v') ∧ (∃ v, Boxed (w1.setCell ⟨C, 0, none⟩ v') C 28 v ∧ (w1.setCell ⟨C, 0, none⟩ v').ownsRow m 31 2 v (pre ++ [x]).length (wcs (pre ++ [x])) ∧ True) ∧ Kept (fun k => b ≤ k) w7 (w1.setCell ⟨C, 0, none⟩ v') := by
  have hW : m ≤ W.heap.size := Nat.le_trans hm hk.size
  have hne : 28 ≠ 31 := by decide
  obtain ⟨hb3, hb4, -, ho4, -⟩ := hbx.appended (n₀ := C) hne (own_base hrow (Nat.le_of_lt hC)) (Nat.le_of_lt hbx.lt) (Nat.le_refl _) (own_base hown (Nat.le_of_lt hC)) hg
  have hrb : ∀ k, v.ownBlock = some k → m ≤ k := fun k e => (hrow.lt k e).1
  have hk1 : Kept (fun k => v.ownBlock = some k ∨ k = C) W (w1.setCell ⟨C, 0, none⟩ v') := (((Kept.refl _ W).alloc tmp).grown hg fun k _ e => .inl e).at 0 v' (Or.inl (Or.inr rfl))
  refine ⟨ownsRow_succ hown, hb3.cell, hb3.frozen, ho4, ⟨hk1.size, fun k h1 h2 => hk1.block k (by omega) fun h => ?_, fun k cs hc => (hk1.block k (Array.getElem?_eq_some_iff.1 hc).1 fun h => ?_).trans hc⟩, ⟨_, hb4, ?_, trivial⟩, hk.trans hk1 fun k _ h => ?_⟩
  · rcases h with h | h
    · have := hrb k h; omega
    · exact h2 h
  · rcases h with h | h
    · exact own_box_ne hrow (g := k) (t := 35) (cs := cs) hc (by decide) h
    · rw [h] at hc
      have := (show W.heap[C]? = _ from hbx).symm.trans hc
      injection this with e
      injection e with e1 e2
      exact absurd e2 (by decide)
  · rw [List.length_append, wcs_add]
    exact hown.kept (grownBy_setCell' w1 C v') (.inr (hb3.not_row hne hown).symm)
  · rcases h with h | h
    · have := hrb k h; omega
    · omega
theorem cells_two_new (W : World) (x y : Value) (T : TypeId) : ∀ (j : Nat) (u : Value), [x, y][j]? = some u → (W.alloc (.cells #[x, y] T)).cell? ((⟨W.heap.size, 0, none⟩ : Addr).add j) = some u := by
  intro j u h
  rw [add_none, (Box.new W T #[x, y]).cell j]
  simpa using h
theorem ownFrom_kept {β : Type} {S : Nat → Prop} {B : Nat} {w₀ : World} (hS : ∀ k, B ≤ k → S k) : OwnFrom B (fun (_ : β) W => Kept S w₀ W) :=
  fun _ _ _ _ hs hg hr => hs.grown hg fun k _ e => hS k (hr k e).1

set_option maxRecDepth 100000 in
set_option maxHeartbeats 4000000 in
theorem Windows_any (AE AL : Option Addr) (es : List Ev) (live : List Int) (cE cL : Nat) (s lim : Int) (w : World) (hE : CellsAt w AE (evs es)) (hL : CellsAt w AL (ints live)) (hn : live.length ≤ 100) (hm : es.length ≤ 1000000) (hlim : lim ≤ 9223372036854775807) :
    Calls Try.prog 11 #[.slice AE es.length cE, .slice AL live.length cL, .int .i64 s, .int .i64 lim] w (WinsPost w es live (max 0 s) lim) := by
  have HE := Lib.hid hE
  have HC := Lib.hid (CloneI_any AL live cL w hL (by omega))
  have HN := Lib.hid hn
  have HM := Lib.hid hm
  have HLIM := Lib.hid hlim
  clear hE hL hn hm hlim
  refine (callsIn_wide (n := 4)).1 ?_
  refine callsIn_of_wp_marks Try.func11 rfl trivial ?_ rfl
  simp only [Try.ntmps11, List.size_toArray, List.length_cons, List.length_nil, Nat.reduceAdd, Nat.reduceSub, Array.replicate_succ, Array.replicate_zero, List.push_toArray, List.append_toArray, List.nil_append, List.cons_append]
  gi_wp2_with (fail)
  refine ⟨trivial, (callsIn_wide.2 HC.out).mono ?_⟩
  rintro r w1 ⟨A1, c1, rfl, ho1, hk1⟩
  have HS := Lib.hid (SortI_any (IntsOwn.of ho1) (by have := HN.out; omega))
  have HK1 := Lib.hid (hk1.more (T := fun k => w.heap.size ≤ k) fun _ _ e => e.elim)
  clear ho1 hk1 HC
  gi_wp2_with (fail)
  refine ⟨trivial, (callsIn_wide.2 HS.out).mono ?_⟩
  rintro r w2 ⟨rfl, ho2, hk2⟩
  have HS2 := Lib.hid (CompactS_any ho2 (by have := HN.out; omega))
  have HK2 := Lib.hid (HK1.out.trans hk2 fun k _ e => e)
  clear ho2 hk2 HS HK1
  gi_wp2_with (fail)
  refine ⟨trivial, (callsIn_wide.2 HS2.out).mono ?_⟩
  rintro r w3 ⟨rfl, hc3, hk3⟩
  have HC3 := Lib.hid hc3
  have HK3 := Lib.hid (HK2.out.trans hk3 fun k _ e => e)
  obtain ⟨N, hN⟩ : ∃ N, (sitesOf live).length = N := ⟨_, rfl⟩
  have HNN := Lib.hid hN
  rw [hN]
  clear hc3 hk3 HS2 HK2 hN
  by_cases h2 : N < 2
  · have h2' : (N : Int) < 2 := by omega
    gi_wp2_with (fail)
    refine ⟨_, results_tmp rfl _ _ _, [], none, 0, rfl, ⟨fun h => ?_, fun _ => rfl⟩, Nat.zero_le _, World.ownsRow_nil _ _ _ _, HK3.out.more fun k hk e => by omega⟩
    have := (two_iff live).2 h
    rw [HNN.out] at this
    omega
  · have h2' : ¬ (N : Int) < 2 := by omega
    have HCE := Lib.hid (CloneE_any AE es cE w3 (HE.out.old HK3.out) (by have := HM.out; omega))
    gi_wp2_with (fail)
    refine ⟨trivial, (callsIn_wide.2 HCE.out).mono ?_⟩
    rintro r w4 ⟨A4, c4, rfl, ho4, hk4⟩
    have HS4 := Lib.hid (SortE0_any ho4 (by have := HM.out; omega))
    have HK4 := Lib.hid (HK3.out.trans hk4 fun k _ e => e.elim)
    have HC4 := Lib.hid (HC3.out.fresh hk4)
    have HZ := Lib.hid hk4.size
    clear ho4 hk4 HCE
    gi_wp2_with (fail)
    refine ⟨trivial, (callsIn_wide.2 HS4.out).mono ?_⟩
    rintro r w5 ⟨rfl, es', hp5, hs5, hc5, hk5, ha5⟩
    have HK5 := Lib.hid (HK4.out.trans hk5 fun k h e => Nat.le_trans HK3.out.size e)
    have HC5 := Lib.hid (show CellsAt w5 A1 (ints (sitesOf live)) from HC4.out.blocks fun a e => hk5.block _ (Nat.lt_of_lt_of_le (HC3.out.lt (by rw [ints_len, HNN.out]; omega) a e) HZ.out) (Nat.not_le.2 (HC3.out.lt (by rw [ints_len, HNN.out]; omega) a e)))
    have HE5 := Lib.hid hc5
    have HP5 := Lib.hid hp5
    have HR5 := Lib.hid hs5
    have HA5 := Lib.hid ha5
    have HL5 := Lib.hid hp5.length_eq
    have HZ5 := Lib.hid hk5.size
    clear hp5 hs5 hc5 hk5 ha5 HS4 HK4 HC4
    have HB0 := Lib.hid (Boxed.new w5 28 (.slice none 0 0))
    have HW5 := Lib.hid ((Kept.refl (fun _ => False) w5).alloc (.cells #[.slice none 0 0] 28))
    have HSZ := Lib.hid (show (w5.alloc (.cells #[.slice none 0 0] 28)).heap.size = w5.heap.size + 1 by simp)
    gi_wp2_with (fail)
    generalize w5.alloc (.cells #[.slice none 0 0] 28) = w6 at HB0 HW5 HSZ ⊢
    obtain ⟨C, hC⟩ : ∃ C, w5.heap.size = C := ⟨_, rfl⟩
    obtain ⟨M, hM⟩ : ∃ M, w6.heap.size = M := ⟨_, rfl⟩
    have HCC := Lib.hid hC
    have HMM := Lib.hid hM
    rw [hC] at HB0 HSZ HA5 ⊢
    clear hC
    refine ⟨trivial, (callsIn_wide.2 (windows_any A4 es.length c4 A1 N c1 (max 0 s) lim w6)).mono ?_⟩
    rintro r w7 ⟨rfl, hbe, hbs, hbf, hbt, hk7, hsz7⟩
    rw [hM] at hbe hbs hbf hbt hsz7 HSZ ⊢
    clear hM
    have HSZ7 := Lib.hid hsz7
    have HK7 := Lib.hid (HK5.out.trans (HW5.out.trans hk7 fun _ _ e => e) fun k h e => e.elim)
    have HB7 := Lib.hid (show Boxed w7 C 28 (.slice none 0 0) from (hk7.block C HB0.out.lt id).trans HB0.out)
    have hcm : C < M := by have := HSZ.out; omega
    have HCM := Lib.hid hcm
    have HCB := Lib.hid (show w.heap.size ≤ C by have := HK5.out.size; have := HCC.out; omega)
    have HWW := Lib.hid (show w.heap.size ≤ M by have := HK5.out.size; have := HSZ.out; have := HCC.out; omega)
    obtain ⟨h, hh⟩ : ∃ h : Wh, h = ⟨M + 2, M + 3, M + 1, M, A1, c1, A4, c4, sitesOf live, es', lim, M + 4, C⟩ := ⟨_, rfl⟩
    have HAT := Lib.hid (show h.At w7 (max 0 s) by
      subst hh
      exact ⟨hbf, hbt, by rw [HNN.out]; exact hbs, by rw [HL5.out]; exact hbe, (HC5.out.fresh HW5.out).fresh hk7, (HE5.out.fresh HW5.out).fresh hk7⟩)
    have HOK := Lib.hid (show h.Ok by
      subst hh
      exact ⟨⟨show M + 2 < M + 4 by omega, show M + 2 ≠ C by omega⟩, ⟨show M + 3 < M + 4 by omega, show M + 3 ≠ C by omega⟩, ⟨show M + 1 < M + 4 by omega, show M + 1 ≠ C by omega⟩, ⟨show M < M + 4 by omega, show M ≠ C by omega⟩, show M + 2 ≠ M + 3 by omega,
        fun a e => by (have := HC5.out.lt (by rw [ints_len, HNN.out]; omega) a e; rw [HCC.out] at this; exact ⟨show a.block < M + 4 by omega, show a.block ≠ C by omega, show a.block ≠ M + 2 by omega⟩),
        fun a e => by (have := HA5.out a e; exact ⟨show a.block < M + 4 by omega, show a.block ≠ C by omega, show a.block ≠ M + 2 by omega⟩),
        (sites_spec live).1, show 2 ≤ (sitesOf live).length by rw [HNN.out]; omega, show (sitesOf live).length ≤ 100 from Nat.le_trans (compact_le live) HN.out, show es'.length ≤ 1000000 by rw [HL5.out]; exact HM.out, HLIM.out⟩)
    have HG := Lib.hid (win_gives h HOK.out (max 0 s) (by omega) 3 (by omega) w7 HAT.out)
    have HSW := Lib.hid (scan_wins HP5.out HR5.out (live := live) (by rw [HNN.out]; omega) (max 0 s) lim)
    subst hh
    clear hbe hbs hbf hbt hk7 hsz7 hcm HB0 HW5 HK5 HC5 HE5
    gi_wp2_with (fail)
    refine wpIn_range_writes (I := fun pre W => (∃ v, Boxed W C 28 v ∧ W.ownsRow (M + 4) 31 2 v pre.length (wcs pre) ∧ True) ∧ Kept (fun k => w.heap.size ≤ k) w7 W)
      (Pa := fun x a' W => ∃ (B : Nat) (zz : Bool), a' = { tmps := #[Value.slice AE es.length cE, Value.slice AL live.length cL, Value.int .i64 s, Value.int .i64 lim, undef, undef, undef, undef, Value.slice none 0 0, Value.slice A1 N c1, Value.slice A4 es.length c4, Value.pointer (some ⟨C, 0, none⟩), Value.pointer (some ⟨B, 0, none⟩), Value.slice AL live.length cL, Value.slice A1 live.length c1, Value.slice A1 live.length c1, Value.tuple #[], Value.slice A1 live.length c1, Value.slice A1 N c1, Value.slice A1 N c1, Value.int .i64 ↑N, Value.bool zz, Value.slice AE es.length cE, Value.slice A4 es.length c4, Value.slice A4 es.length c4, Value.tuple #[], Value.slice A4 es.length c4, Value.slice A1 N c1, Value.int .i64 s, Value.int .i64 (max 0 s), Value.int .i64 lim, Value.func (Fn.func 27) #[] #[Value.pointer (some ⟨M + 2, 0, none⟩), Value.pointer (some ⟨M + 3, 0, none⟩), Value.pointer (some ⟨M + 1, 0, none⟩), Value.pointer (some ⟨M, 0, none⟩)], Value.agg #[Value.int .i64 x.fst, Value.int .i64 x.snd], undef, undef, undef, undef, undef], defers := [] } ∧ Box W B 31 #[.int .i64 x.1, .int .i64 x.2])
      rfl (by omega) (gf := 27) rfl trivial (enters_of Try.func27 (by kernel_rfl) rfl) HG.out ?It ?Kt ?Kb ?Ka (fun _ => rfl) ?hI ?hIw ?h0 ?hPa ?assign ?body ?done
    case It =>
      intro A B k o hk hit ho _
      have := HSZ7.out
      exact (Kept.block (S := fun k => k = M + 2) hit k (Array.getElem?_eq_some_iff.1 ho).1 (by omega)).trans ho
    case Kt => exact fun h h' => KpW.trans h h'
    case Kb =>
      intro W l o o' hl ho hc
      have := HSZ7.out
      refine ⟨by simp, fun k h1 h2 => World.putObj_heap_other (by omega), fun k cs hk => ?_⟩
      by_cases e : l = k
      · subst e; rw [ho] at hk; cases hk; cases hc
      · exact (World.putObj_heap_other (by omega)).trans hk
    case Ka =>
      intro W o hW
      have := HSZ7.out
      exact ⟨by simp, fun k h1 h2 => Below.heap_alloc _ _ _ (by omega), fun k cs hk => (Below.heap_alloc _ _ _ (Array.getElem?_eq_some_iff.1 hk).1).trans hk⟩
    case hI =>
      have := HSZ7.out
      exact OwnFrom.and (Own.from (holdsRow_own (M + 4) C 28 31 2 (fun pre : List (Int × Int) => pre.length) (fun pre => wcs pre) (fun _ _ => True)) _) (ownFrom_kept fun k hk => Nat.le_trans HK7.out.size hk)
    case hIw =>
      rintro pre A B ⟨⟨v, hb, hr, -⟩, hk⟩ hit
      have h1 := HCM.out
      have h3 := HWW.out
      have hit : Kept (fun k => k = M + 2) A B := hit
      refine ⟨⟨v, (hit.block C hb.lt (by omega)).trans hb, hit.own hr fun k e h => ?_, trivial⟩, hk.trans hit fun k _ e => ?_⟩
      · have := (hr.lt k e).1
        omega
      · omega
    case h0 => exact ⟨⟨_, HB7.out, World.ownsRow_nil _ _ _ _, trivial⟩, Kept.refl _ _⟩
    case hPa =>
      rintro x a' _ W W' row ⟨B, zz, rfl, hb⟩ hg hr
      refine ⟨B, zz, rfl, (hg.block B hb.lt fun e => ?_).trans hb⟩
      obtain ⟨_, o, ho, hc⟩ := hr B e.symm
      rw [show W.heap[B]? = _ from hb] at ho
      cases ho
      cases hc
    case assign =>
      intro l pre x W K hi hK
      gi_wp2_with (fail)
      have hw := HSZ7.out
      have hsz := hi.2.size
      obtain ⟨⟨v, hb, hr, -⟩, hk⟩ := hi
      exact hK _ _ ⟨W.heap.size, _, rfl, Box.new _ _ _⟩ ⟨⟨v, hb.alloc _, hr.alloc _, trivial⟩, hk.alloc _⟩
        ⟨by simp, fun k h1 h2 => Below.heap_alloc _ _ _ (by omega), fun k cs hk => (Below.heap_alloc _ _ _ (Array.getElem?_eq_some_iff.1 hk).1).trans hk⟩ (KeepsOthers.alloc W _)
    case body =>
      rintro l pre x a' W ⟨⟨v, hbx, hrow, -⟩, hk⟩ hlt ⟨B, zz, rfl, hb⟩
      obtain ⟨i0, hi, hz0, hz1, hz2⟩ := info_parts info_win
      have hx0 := hbx.cell
      have hxf := hbx.frozen
      have y0 := hb.cell 0
      have y1 := hb.cell 1
      have aW := Try.isAgg31
      have zW := Try.sizeOf31
      have HBX := Lib.hid hbx
      have HROW := Lib.hid hrow
      have HK := Lib.hid hk
      have HLT := Lib.hid (show pre.length < 1000000 from Nat.lt_of_lt_of_le hlt (by show es'.length ≤ 1000000; rw [HL5.out]; exact HM.out))
      have HMW := Lib.hid (show M + 4 ≤ W.heap.size by have := hk.size; have := HSZ7.out; omega)
      clear hbx hrow hk hb hlt
      gi_wp2_with (gi_at_builtin; refine wpListIn_append_own _ rfl _ _ 28 rfl (M + 4) 31 i0 (.agg #[.int .i64 0, .int .i64 0]) 2 16 Try.underlying28 hi hz0 hz1 hz2 rfl (by decide) v pre.length (wcs pre) rfl (HROW.out.alloc _) ⟨W.heap.size, 0, none⟩ 1 1 [.int .i64 x.1, .int .i64 x.2] rfl rfl (cells_two_new W _ _ _) (by simp [Value.oneCell']) (by have := HLT.out; unfold maxLen; omega) (by have := HLT.out; omega) (by have := HMW.out; simp; omega) ?_; intro v' w3 hown' hg3 hnil3; obtain ⟨⟨g', cap', rfl⟩, hy0, hyf, hE⟩ := win_step HBX.out HROW.out (by rw [HSZ7.out]; exact Nat.le_refl _) (by have := HCM.out; omega) (by have := HCB.out; omega) HK.out hown' hg3; have HE := Lib.hid hE; clear hnil3 hown' hg3 hE)
      exact HE.out
    case done =>
      rintro D ys W hD hys ⟨⟨v, hbx, hrow, -⟩, hk⟩ hK
      have hx0 := hbx.cell
      have HROW := Lib.hid hrow
      have HK := Lib.hid hk
      have HD := Lib.hid hD
      have HYS := Lib.hid hys
      obtain ⟨A', c', rfl⟩ := own_shape hrow
      clear hrow hk hbx hD hys
      gi_wp2_with (fail)
      refine ⟨by simp, .inl ⟨_, _, rfl, run_takeDeferred hK, ?_⟩⟩
      refine ⟨_, results_tmp rfl _ _ _, ys, A', c', rfl, by rw [HYS.out]; exact HSW.out, by rw [HYS.out]; exact Nat.le_trans (scan_len _ _ _) (Nat.le_of_eq HL5.out), ?_, ?_⟩
      · exact own_base (ownsRow_putObj HROW.out (.deferred none) hK rfl) (by have := HWW.out; omega)
      · have h1 := HK7.out.trans HK.out fun k _ e => e
        have h2 : Kept (fun k => w.heap.size ≤ k) W (W.putObj D (.deferred none)) := (Kept.of_grown (grownBy_putObj' W D _)).more fun k _ e => by
          have := HD.out
          have := HK7.out.size
          injection e with e
          omega
        exact (h1.trans h2 fun k _ e => e).more fun k h e => by omega
end Go.Proofs.Ytkekhnohehhljaa
