/- slices.Sorted(slices.Values(l)) at a list of ints in memory. Conditions: the list lies in memory; at most a million. -/
import Derived.Test.YthlejmpeigfdgaaFSetW
import Derived.RangeFuncNested
import Derived.RangeFuncBound
import Derived.RangeFuncCalls
import Derived.RangeFuncLeaves
import Derived.RangeFuncFrom
import Derived.RangeFuncBox
import Derived.Shelf.Abstract
import Derived.OwnWalkIn
import Derived.TacticsInMore
import Derived.LoopNIn
import Derived.LoopIn
namespace Go.Proofs.Ythlejmpeigfdgaa
open Go Go.RowKit Go.Maps Go.Sort Go.Shelf
attribute [local go_sem] Oper.semAt_some

/-- A list of ints in memory. -/
def IntsAt (w : World) (A : Option Addr) (l : List Int) : Prop := ∀ k (h : k < l.length), ∃ ad, A = some ad ∧ w.cell? (ad.add k) = some (.int .i64 l[k])
section
variable {w w' : World} {A : Option Addr} {l : List Int} {S : Nat → Prop}
theorem IntsAt.kept (h : IntsAt w A l) (hk : Kept S w w') (hA : ∀ a, A = some a → ¬ S a.block) : IntsAt w' A l := fun k hlt => by
  obtain ⟨ad, he, h0⟩ := h k hlt
  have hb : (ad.add k).block = ad.block := by unfold Addr.add; split <;> rfl
  exact ⟨ad, he, by rw [World.cell?_of_block (w := w) (hk.block _ (World.block_lt_of_cell? w _ h0) (by rw [hb]; exact hA ad he))]; exact h0⟩
theorem IntsAt.fresh (h : IntsAt w A l) (hk : Kept (fun _ => False) w w') : IntsAt w' A l := h.kept hk fun _ _ => id
theorem IntsAt.nil : IntsAt w A [] := fun k h => absurd h (by simp)
theorem IntsAt.below (h : IntsAt w A l) (hb : Below w.heap.size w w') : IntsAt w' A l := h.fresh (Kept.of_below hb fun k h1 h2 => by omega)
theorem IntsAt.of_own {base : Nat} {e : TypeId} {n c : Nat} (h : w.ownsRow base e 1 (.slice A n c) n (l.map encZ)) : IntsAt w A l := fun k hlt => by
  have hn : l.length ≤ n := by have := h.1; simp at this; omega
  obtain ⟨g, e1, -, hc, -⟩ := own_cells h (by omega)
  subst e1
  exact ⟨_, rfl, by rw [show (⟨g, 0, none⟩ : Addr).add k = ⟨g, k, none⟩ by unfold Addr.add; split <;> simp_all]; exact hc k _ (by simp [encZ, hlt])⟩
end
theorem info_int : (Try.prog.info? 3).map (fun i => (i.zero, i.size, i.bytes)) = some (some (.int .i64 0), 1, 8) := by kernel_rfl

set_option maxRecDepth 100000 in
theorem Values_any (A : Option Addr) (n c : Nat) (w : World) : Calls Try.prog 40 #[.slice A n c] w fun r w' => r = .returned (.func (.func 54) #[] #[.pointer (some ⟨w.heap.size, 0, none⟩)]) ∧ Box w' w.heap.size 32 #[.slice A n c] ∧ Kept (fun _ => False) w w' := by
  have hmf : ∀ (fn : Fn) (first cap : Array Value) (w : World), (Instr.makeFunc fn first cap).run Try.prog w = .ok (.func fn first cap) w := fun _ _ _ _ => rfl
  go_enter Try.func40, Try.ntmps40
  go_wp2_with (fail)
  go_ret
  exact ⟨rfl, Box.new _ _ _, (Kept.refl _ _).alloc _⟩
set_option maxRecDepth 100000 in
set_option maxHeartbeats 2000000 in
theorem Values1_stops (n : Nat) (hn : 1 ≤ n) (B : Nat) (ms : List Int) (A : Option Addr) (c : Nat) (w : World) (hbox : w.cell? ⟨B, 0, none⟩ = some (.slice A ms.length c)) (hB : B < w.heap.size) (hm : IntsAt w A ms) (hlen : ms.length ≤ 1000000) :
    SeqStopsK Fence.wide n Try.prog 54 #[.pointer (some ⟨B, 0, none⟩)] (fun y : Int => #[encZ y]) (Below w.heap.size) (fun ys => ys = ms) (fun _ => True) ms.length w := by
  intro l J Jx W hW hJ hJx hY h0
  have x0 : W.cell? ⟨B, 0, none⟩ = some (.slice A ms.length c) := (hW.cell (p := ⟨B, 0, none⟩) hB).trans hbox
  have HM := Lib.hid (fun W' (h : Below w.heap.size w W') => hm.below h)
  have HY := Lib.hid hY
  clear hY hJ hJx hm hbox
  refine callsIn_of_wp Try.func54 rfl trivial ?_ rfl
  simp only [Try.ntmps54, List.size_toArray, List.length_cons, List.length_nil, Nat.reduceAdd, Nat.reduceSub, Array.replicate_succ, Array.replicate_zero, List.push_toArray, List.append_toArray, List.nil_append, List.cons_append]
  gi_wp2
  gi_loopw [7] (fun i wr => ∃ k : Nat, i = .int .i64 k ∧ k ≤ ms.length ∧ J (ms.take k) wr ∧ Below w.heap.size w wr) (fun i _ => ms.length - (intOf i).toNat)
  case atStart => exact ⟨0, rfl, Nat.zero_le _, by rw [List.take_zero]; exact h0, hW⟩
  case round =>
    obtain ⟨k, rfl, hk, hj, hb⟩ := hrel
    have HPJ := Lib.hid hj
    have HB := Lib.hid hb
    clear hj hb x0 h0 hW
    by_cases hlt : k < ms.length
    · obtain ⟨ad, rfl, hc⟩ := HM.out wr HB.out k hlt
      obtain ⟨m, hm⟩ : ∃ m, ms[k] = m := ⟨_, rfl⟩
      have HE := Lib.hid (show ms.take (k + 1) = ms.take k ++ [m] by rw [← hm]; exact List.take_succ_eq_append_getElem hlt)
      rw [hm] at hc
      obtain ⟨fn, tmps, assign, body, hy, hR⟩ := HY.out (ms.take k) m wr HPJ.out (by rw [List.length_take]; omega)
      unfold encZ at hy
      clear hm
      have hin : (k : Int) < (ms.length : Int) := by omega
      gi_wp2
      refine hR.mono ?_
      rintro e w4 (⟨rfl, hj4, hk4⟩ | ⟨rfl, hj4⟩)
      · have HJ4 := Lib.hid hj4
        have HB4 := Lib.hid (HB.out.trans hk4)
        clear hj4 hk4 hR hy hc
        gi_wp2
        go_roundw
        case rel => exact ⟨k + 1, by go_num, by omega, by rw [HE.out]; exact HJ4.out, HB4.out⟩
        case measure => simp [intOf]; omega
      · have HJ4 := Lib.hid hj4
        clear hj4 hR hy hc
        gi_wp2
        refine bodyPost_ret (results_none rfl _ _ _) rfl ?_
        exact ⟨⟨_, rfl⟩, .inr ⟨_, trivial, HJ4.out⟩⟩
    · obtain rfl : k = ms.length := by omega
      gi_wp2
      go_end0
      exact ⟨⟨_, rfl⟩, .inl ⟨_, by rw [List.take_length], HPJ.out⟩⟩
theorem app_step {W w3 w : World} {cb : Nat} {v v' : Value} {pre : List Int} {x : Int} {tmp : Obj} (hbx : Boxed W cb 32 v) (hrow : W.ownsRow cb 3 1 v pre.length (pre.map encZ)) (hb : Below cb w W)
    (hown : w3.ownsRow cb 3 1 v' (pre.length + 1) (pre.map encZ ++ [encZ x])) (hg3 : (W.alloc tmp).grownBy w3 v.ownBlock) :
    (∃ g' cap', v' = .slice (some ⟨g', 0, none⟩) (pre.length + 1) cap') ∧ w3.cell? ⟨cb, 0, none⟩ = some v ∧ w3.frozen? ⟨cb, 0, none⟩ = false ∧
      KeepsOthers W (w3.setCell ⟨cb, 0, none⟩ v') ∧ Below cb W (w3.setCell ⟨cb, 0, none⟩ v') ∧ (∃ v, Boxed (w3.setCell ⟨cb, 0, none⟩ v') cb 32 v ∧ (w3.setCell ⟨cb, 0, none⟩ v').ownsRow cb 3 1 v (pre ++ [x]).length ((pre ++ [x]).map encZ) ∧ True) ∧ Below cb w (w3.setCell ⟨cb, 0, none⟩ v') := by
  obtain ⟨hb3, hb4, hr4, ho4, hw4⟩ := hbx.appended (show 32 ≠ 3 by decide) hrow (Nat.le_of_lt hbx.lt) (Nat.le_refl _) hown hg3
  exact ⟨ownsRow_succ hown, hb3.cell, hb3.frozen, ho4, hw4, ⟨_, hb4, by simpa using hr4, trivial⟩, hb.trans hw4⟩
set_option maxRecDepth 100000 in
set_option maxHeartbeats 2000000 in
theorem AppendSeq_in (B : Nat) (ms : List Int) (A : Option Addr) (c : Nat) (w : World) (hbox : w.cell? ⟨B, 0, none⟩ = some (.slice A ms.length c)) (hB : B < w.heap.size) (hm : IntsAt w A ms) (hlen : ms.length ≤ 1000000) :
    CallsIn Fence.wide 3 Try.prog 57 #[.slice none 0 0, .func (.func 54) #[] #[.pointer (some ⟨B, 0, none⟩)]] w fun r w' => ∃ v, r = .returned v ∧ w'.ownsRow w.heap.size 3 1 v ms.length (ms.map encZ) ∧ Below w.heap.size w w' := by
  have HSEQ := Lib.hid (Values1_stops 2 (by omega) B ms A c w hbox hB hm hlen)
  have HLEN := Lib.hid hlen
  clear hbox hB hm hlen
  refine callsIn_of_wp_marks Try.func57 rfl trivial ?_ rfl
  simp only [Try.ntmps57, List.size_toArray, List.length_cons, List.length_nil, Nat.reduceAdd, Nat.reduceSub, Array.replicate_succ, Array.replicate_zero, List.push_toArray, List.append_toArray, List.nil_append, List.cons_append]
  have HB0 := Lib.hid (Boxed.new w 32 (.slice none 0 0))
  have HBL := Lib.hid ((Below.refl w.heap.size w).alloc (Nat.le_refl _) (.cells #[.slice none 0 0] 32))
  gi_wp2_with (fail)
  have HSZ := Lib.hid (show (w.alloc (.cells #[.slice none 0 0] 32)).heap.size = w.heap.size + 1 by simp)
  generalize w.alloc (.cells #[.slice none 0 0] 32) = w1 at HB0 HBL HSZ ⊢
  obtain ⟨cb, hcb⟩ : ∃ cb, w.heap.size = cb := ⟨_, rfl⟩
  have HCB := Lib.hid hcb
  rw [hcb] at HB0 HBL HSZ HSEQ ⊢
  clear hcb
  have hsz := HSZ.out
  refine wpIn_rangeFunc_ownF rfl (by omega) (gf := 54) (lb := #[.pointer (some ⟨B, 0, none⟩)]) rfl trivial (enters_of Try.func54 (by kernel_rfl) rfl)
    HSEQ.out belowK_t (fun W l o o' hl hg _ _ => Below.grown (Below.refl cb W) (grownBy_putObj' W l o') (by have := (Array.getElem?_eq_some_iff.1 hg).1; omega) (fun k e => by cases e; omega)) (by rw [HCB.out]; exact HBL.out) (fun _ => rfl)
    (fun pre W => (∃ v, Boxed W cb 32 v ∧ W.ownsRow cb 3 1 v pre.length (pre.map encZ) ∧ True) ∧ Below cb w W)
    (fun _ _ _ => False)
    (OwnFrom.and (Own.from (holdsRow_own cb cb 32 3 1 (fun pre : List Int => pre.length) (fun pre => pre.map encZ) (fun _ _ => True)) _) (ownFrom_below (Nat.le_of_eq HCB.out.symm) (by omega)))
    (fun _ _ _ _ _ hs _ _ => hs)
    ⟨⟨_, HB0.out, World.ownsRow_nil _ _ _ _, trivial⟩, HBL.out⟩
    (fun x => { tmps := #[.slice none 0 0, .func (.func 54) #[] #[.pointer (some ⟨B, 0, none⟩)], .pointer (some ⟨cb, 0, none⟩), undef, .slice none 0 0, encZ x, .func (.func 54) #[] #[.pointer (some ⟨B, 0, none⟩)], encZ x, undef, undef, undef, undef, undef], defers := [] }) ?assign ?body ?done ?stop
  case assign =>
    intro l x W K hK
    gi_wp2
    refine Eq.mp ?_ hK
    kernel_rfl
  case body =>
    rintro l pre x W ⟨⟨v, hbx, hrow, -⟩, hB⟩ hlt
    obtain ⟨i0, hi, hz0, hz1, hz2⟩ := info_parts info_int
    have hx0 := hbx.cell
    have hxf := hbx.frozen
    have hbs := hbx.lt
    have hle := HLEN.out
    have HBX := Lib.hid hbx
    have HBB := Lib.hid hB
    have HROW := Lib.hid hrow
    clear hB hbx hrow
    gi_wp2_with (gi_at_builtin; refine wpListIn_append_own _ rfl _ _ 32 rfl cb 3 i0 (.int .i64 0) 1 8 Try.underlying32 hi hz0 hz1 hz2 rfl (by decide) v pre.length (pre.map encZ) rfl (HROW.out.alloc _) ⟨W.heap.size, 0, none⟩ 1 1 [encZ x] rfl rfl (cell_one_new _ _ _) (by simp [Value.oneCell', encZ]) (by unfold maxLen; omega) (by omega) (by simp; omega) ?_; intro v' w3 hown' hg3 hnil3; obtain ⟨⟨g', cap', rfl⟩, hy0, hyf, hE⟩ := app_step HBX.out HROW.out HBB.out hown' hg3; have HE := Lib.hid hE; clear hnil3 hown' hg3 hE)
    exact HE.out
  case done =>
    rintro D ys W hDl rfl ⟨⟨v, hbx, hrow, -⟩, hB⟩ hK
    have hx0 := hbx.cell
    have HRW := Lib.hid hrow
    have HBX := Lib.hid hbx
    have HBB := Lib.hid hB
    have HDL := Lib.hid hDl
    clear hrow hB hbx hDl
    gi_wp2
    refine ⟨by simp, .inl ⟨_, _, rfl, run_takeDeferred hK, ?_⟩⟩
    refine ⟨_, results_tmp rfl _ _ _, _, rfl, ?_, ?_⟩
    · rw [HCB.out]
      have := ownsRow_putObj HRW.out (.deferred none) hK rfl
      exact this
    · rw [HCB.out]
      exact HBB.out.grown (grownBy_putObj' W D _) (by have := HBB.out.size; have := HCB.out; omega) (fun k e => by cases e; have := HDL.out; omega)
  case stop =>
    rintro D c pre W _ _ h _
    exact h.elim
set_option maxRecDepth 100000 in
set_option maxHeartbeats 2000000 in
theorem Collect_in (B : Nat) (ms : List Int) (A : Option Addr) (c : Nat) (w : World) (hbox : w.cell? ⟨B, 0, none⟩ = some (.slice A ms.length c)) (hB : B < w.heap.size) (hm : IntsAt w A ms) (hlen : ms.length ≤ 1000000) :
    Calls Try.prog 47 #[.func (.func 54) #[] #[.pointer (some ⟨B, 0, none⟩)]] w fun r w' => ∃ v, r = .returned v ∧ w'.ownsRow w.heap.size 3 1 v ms.length (ms.map encZ) ∧ Below w.heap.size w w' := by
  have HA := Lib.hid ((callsIn_wide (n := 3)).1 (AppendSeq_in B ms A c w hbox hB hm hlen))
  clear hbox hB hm hlen
  go_enter Try.func47, Try.ntmps47
  go_wp2_with (fail)
  refine HA.out.mono ?_
  rintro r w1 ⟨v, rfl, ho, hb⟩
  have HO := Lib.hid ho
  have HB := Lib.hid hb
  clear ho hb HA
  go_wp2_with (fail)
  go_ret
  exact ⟨v, rfl, HO.out, HB.out⟩
/-- slices.Sorted(slices.Values(ms)), behind slices.Values. -/
theorem SortedV_any (B : Nat) (ms : List Int) (A : Option Addr) (c : Nat) (w : World) (hbox : Box w B 32 #[.slice A ms.length c]) (hm : IntsAt w A ms) (hlen : ms.length ≤ 1000000) :
    Calls Try.prog 31 #[.func (.func 54) #[] #[.pointer (some ⟨B, 0, none⟩)]] w fun r w' => ∃ A' c', r = .returned (.slice A' ms.length c') ∧ w'.ownsRow w.heap.size 3 1 (.slice A' ms.length c') ms.length ((ms.mergeSort fun x y => decide (x ≤ y)).map encZ) ∧ Kept (fun _ => False) w w' := by
  have HA := Lib.hid (Collect_in B ms A c w (by simpa using hbox.cell 0) hbox.lt hm hlen)
  have HL := Lib.hid hlen
  clear hbox hm hlen
  go_enter Try.func31, Try.ntmps31
  go_wp2_with (fail)
  refine HA.out.mono ?_
  rintro r w1 ⟨v, rfl, ho, hb⟩
  have HO := Lib.hid ho
  have HB := Lib.hid hb
  have hsz := hb.size
  clear hb HA
  rcases ho.2 with ⟨rfl, hz⟩ | ⟨gb, cap, cur, rfl, hbase, hgb, r1, r2, r3, r4⟩
  · have hss : ms = [] := List.eq_nil_of_length_eq_zero hz
    subst hss
    clear ho
    go_wp2_with (fail)
    refine ((callsIn_wide (n := 4)).1 ((sortsA 4).2 none 0 w1)).mono ?_
    rintro e w' ⟨rfl, rfl⟩
    go_wp2_with (fail)
    go_ret
    exact ⟨none, 0, rfl, by simpa using World.ownsRow_nil _ _ _ _, Kept.of_below HB.out fun k h1 h2 => by omega⟩
  · have hH : Holds encZ w1 gb 0 ms.toArray := holds_of_block_i hgb (by simpa using r4)
    have hgl : gb < w1.heap.size := (Array.getElem?_eq_some_iff.1 hgb).1
    have cS := Lib.hid ((callsIn_wide (n := 4)).1 ((sortsA 4).1 gb 0 cap ms w1 hH hgl (by have := HL.out; omega)))
    clear ho hH
    go_wp2_with (fail)
    refine cS.out.mono ?_
    rintro e w' ⟨rfl, nn, os, rfl⟩
    have HOS := Lib.hid (ownsRow_sorted_i (n := nn) (os := os) (ts := (ms.mergeSort fun x y => decide (x ≤ y))) (List.length_mergeSort _) hbase hgb r1 r2 r3)
    have HBS := Lib.hid (HB.out.grown (grownBy_sorted_i (g := gb) (w := w1) (n := nn) (os := os) (ms.mergeSort fun x y => decide (x ≤ y)).toArray) HB.out.size (fun j hj => by cases hj; exact hbase))
    clear cS r1 r2 r3 r4 hgb
    go_wp2_with (fail)
    go_ret
    exact ⟨_, cap, rfl, HOS.out, Kept.of_below HBS.out fun k h1 h2 => by omega⟩
end Go.Proofs.Ythlejmpeigfdgaa
