/- The iterator of Beyond in a loop over it; the walk of Lacks. Conditions: the log and the vector lie in memory; nothing is longer than a million. -/
import Derived.Test.YtnfehkncfjgeeaaJA
import Derived.RangeFuncNested
import Derived.RangeFuncBound
import Derived.RangeFuncCalls
import Derived.RangeFuncLeaves
import Derived.RangeFuncFrom
import Derived.Shelf.Abstract
import Derived.OwnWalkIn
import Derived.TacticsInMore
import Derived.LoopNIn
import Derived.LoopIn
namespace Go.Proofs.Ytnfehkncfjgeeaa
open Go Go.RowKit
attribute [local go_sem] Oper.semAt_some

section
variable {F : Fence} {nn : Nat} {w : World} {ops : Array Oper} {rest : List Oper} {o : Oper} {a : Act} {Q : Exit → Act → World → Prop}
theorem wpListIn_load_lop (hgd : o.guard = none) (x : Operand) (ho : o.op = .load 45 x) (g k : Nat) (hx : a.eval x = .pointer (some ⟨g, k * 11, none⟩)) {base n c : Nat} (xs : List Lop)
    (hr : w.ownsRow base 45 11 (.slice (some ⟨g, 0, none⟩) n c) n (lops xs)) (hk : k < xs.length) (cs : Array Value) (hcs : xs[k].c = cs)
    (h : wpListIn F nn Try.prog ops Q rest (a.put o.dst (.agg cs)) w) : wpListIn F nn Try.prog ops Q (o :: rest) a w := by
  obtain ⟨d, hu, hd⟩ := und_op
  have hrun := run_loadVar_mid (P := Try.prog) w g (k * 11) 45 xs[k].c.toList d (range_of_row hr k hk) hu hd (by rw [Array.length_toList]; exact size_op)
  rw [Array.toArray_toList, hcs] at hrun
  refine wpListIn_plain hgd fun K hK => ⟨?_, ?_⟩
  · simp [Oper.about, ho]
  · rw [Oper.semAt_plain F _ _ (by rw [ho]; intro c hc'; cases hc')]
    unfold execOp
    simp only [ho, hx, Instr.loadAt, Instr.sureAddr, Sem.run_bind, Sem.run_pure, Result.andThen_ok, hrun]
    exact hK _ _ h
theorem wpListIn_load_op (hgd : o.guard = none) (x : Operand) (ho : o.op = .load 45 x) (g : Nat) (hx : a.eval x = .pointer (some ⟨g, 0, none⟩)) (t : TypeId) (cs : Array Value) (hs : cs.size = 11) (hg : Box w g t cs)
    (h : wpListIn F nn Try.prog ops Q rest (a.put o.dst (.agg cs)) w) : wpListIn F nn Try.prog ops Q (o :: rest) a w := by
  refine wpListIn_plain hgd fun K hK => ⟨?_, ?_⟩
  · simp [Oper.about, ho]
  · rw [Oper.semAt_plain F _ _ (by rw [ho]; intro c hc'; cases hc'), run_load_op o x ho g hx t cs hs hg]
    exact hK _ _ h
theorem wpListIn_store_op (hgd : o.guard = none) (x y : Operand) (ho : o.op = .store 45 x y) (g : Nat) (cs : Array Value) (hx : a.eval x = .pointer (some ⟨g, 0, none⟩)) (hy : a.eval y = .agg cs)
    (t : TypeId) (old : Array Value) (hg : Box w g t old) (hs : cs.size = 11) (hold : old.size = 11) (h1 : cs.all (·.oneCell') = true)
    (h : ∀ w', Hid (Box w' g t cs) → Kept (fun k => k = g) w w' → wpListIn F nn Try.prog ops Q rest (a.put o.dst undef) w') : wpListIn F nn Try.prog ops Q (o :: rest) a w := by
  have hrun := run_storeVar_row (P := Try.prog) w g t 45 old cs hg (by rw [hs]; exact size_op) (by omega) h1
  refine wpListIn_plain hgd fun K hK => ⟨?_, ?_⟩
  · simp [Oper.about, ho]
  · rw [Oper.semAt_plain F _ _ (by rw [ho]; intro c hc'; cases hc')]
    unfold execOp
    simp only [ho, hx, hy, Instr.storeAt, Instr.sureAddr, Sem.run_bind, Sem.run_pure, Result.andThen_ok, hrun]
    exact hK _ _ (h _ (show Box _ _ _ _ from setRow_heap w g old cs t (0, 0) hg) (setRow_kept _ _ _))
end
theorem Kept.of_below' {w w' : World} (h : Below w.heap.size w w') : Kept (fun _ => False) w w' := Kept.of_below h fun k h1 h2 => by omega
theorem Kept.of_grown' {w w' : World} {D : Nat} (h : w.grownBy w' (some D)) : Kept (fun k => k = D) w w' := ⟨h.os, h.tape, h.output, h.size, fun k hk hne => h.block k hk fun e => hne (by injection e)⟩
theorem Kept.grown_none {w w' : World} (h : Kept (fun _ => False) w w') : w.grownBy w' none := ⟨h.os, h.tape, h.output, h.size, fun k hk _ => h.block k hk id⟩

set_option maxRecDepth 100000 in
set_option maxHeartbeats 2000000 in
theorem Beyond1_stops (n : Nat) (hn : 1 ≤ n) (B : Nat) (xs : List Lop) (A : Option Addr) (c : Nat) (w : World) (Kp : World → World → Prop) (h : ItAt w B xs A c)
    (hI : ∀ W', Kp w W' → ItAt W' B xs A c) (hT : ∀ {W1 W2 W3 : World}, Kp W1 W2 → Kp W2 W3 → Kp W1 W3) (hF : ∀ {W1 W2 : World}, Kept (fun _ => False) W1 W2 → Kp W1 W2) :
    SeqStopsK Fence.wide n Try.prog 51 #[.pointer (some ⟨B, 0, none⟩)] (fun y : Lop => #[.agg y.c]) Kp (fun ys => ys.length = xs.length) (fun _ => True) xs.length w := by
  intro l J Jx W hW hJ hJx hY h0
  have HI := Lib.hid hI
  have HY := Lib.hid hY
  have HF := Lib.hid (fun (W1 W2 : World) (h : Kept (fun _ => False) W1 W2) => hF h)
  have HT := Lib.hid (fun (W1 W2 W3 : World) (h1 : Kp W1 W2) (h2 : Kp W2 W3) => hT h1 h2)
  have HJ := Lib.hid (fun (pre : List Lop) W1 W2 (h1 : J pre W1) (hk : Kept (fun _ => False) W1 W2) => hJ pre W1 W2 none h1 hk.grown_none (fun r e => by cases e))
  have hlen := h.len
  have hW0 := hF (Kept.of_below' hW)
  have x0 : W.cell? ⟨B, 0, none⟩ = some (.slice A xs.length c) := by simpa using (HI.out W hW0).box.cell 0
  clear hY hJ hJx h hI hT hF hW
  refine callsIn_of_wp Try.func51 rfl trivial ?_ rfl
  simp only [Try.ntmps51, List.size_toArray, List.length_cons, List.length_nil, Nat.reduceAdd, Nat.reduceSub, Array.replicate_succ, Array.replicate_zero, List.push_toArray, List.append_toArray, List.nil_append, List.cons_append]
  gi_wp2
  gi_loopw [7] (fun i wr => ∃ (k : Nat) (pre : List Lop), i = .int .i64 k ∧ k ≤ xs.length ∧ pre.length = k ∧ J pre wr ∧ Kp w wr) (fun i _ => xs.length - (intOf i).toNat)
  case atStart => exact ⟨0, [], rfl, Nat.zero_le _, rfl, h0, hW0⟩
  case round =>
    obtain ⟨k, pre, rfl, hk, hpl, hj, hb⟩ := hrel
    have HPJ := Lib.hid hj
    have HB := Lib.hid hb
    have hit := HI.out wr hb
    clear hj hb x0 h0 hW0
    by_cases hlt : k < xs.length
    · obtain ⟨gr, cap, hv, _⟩ := World.ownsRow.form hit.row (by omega)
      injection hv with e1 _ e3
      subst e1 e3
      have HR := Lib.hid hit.row
      have HAT := Lib.hid (hit.ats _ (List.getElem_mem hlt))
      have HSM := Lib.hid (hit.small _ (List.getElem_mem hlt))
      obtain ⟨cs, hcs⟩ : ∃ cs, xs[k].c = cs := ⟨_, rfl⟩
      have HCS := Lib.hid hcs
      have HO := Lib.hid (show cs.all (·.oneCell') = true by rw [← hcs]; exact Opr.cells_one ..)
      have HN := Lib.hid (Box.new wr 45 opZ)
      have HSZ := Lib.hid (show cs.size = 11 by rw [← hcs]; rfl)
      clear hit hcs
      gi_wp2_with (first | refine wpListIn_load_lop rfl _ rfl gr k rfl xs HR.out hlt cs HCS.out ?_ | (refine wpListIn_store_op rfl _ _ rfl wr.heap.size cs rfl rfl 45 opZ HN.out HSZ.out rfl HO.out ?_; intro w2 HB2 hk2) | refine wpListIn_load_op rfl _ rfl wr.heap.size rfl _ cs HSZ.out HB2.out ?_)
      have HK2 := Lib.hid (((Kept.refl (fun _ => False) wr).alloc (.cells opZ 45)).trans hk2 fun k hk e => by omega)
      have hcl := clone_any xs[k] w2 (HAT.out.fresh HK2.out) HSM.out
      rw [HCS.out] at hcl
      refine ⟨trivial, (callsIn_wide.2 hcl).mono ?_⟩
      rintro e w3 ⟨y, hyo, rfl, hyw, hk3⟩
      have hk13 : Kept (fun _ => False) wr w3 := HK2.out.trans hk3 fun _ _ e => e
      have HJ3 := Lib.hid (HJ.out _ _ _ HPJ.out hk13)
      have HB3 := Lib.hid (HT.out _ _ _ HB.out (HF.out _ _ hk13))
      obtain ⟨fn, tmps, assign, body, hy, hR⟩ := HY.out pre y w3 HJ3.out (by omega)
      obtain ⟨yc, hyc⟩ : ∃ yc, y.c = yc := ⟨_, rfl⟩
      rw [hyc] at hy ⊢
      clear hcl hk2 hk3 hk13 HK2 HB2 HN HO HCS HR HAT HSM hyo hyw hyc
      gi_wp2
      refine hR.mono ?_
      rintro e w4 (⟨rfl, hj4, hk4⟩ | ⟨rfl, hj4⟩)
      · have HJ4 := Lib.hid hj4
        have HB4 := Lib.hid (HT.out _ _ _ HB3.out hk4)
        clear hj4 hk4 hR hy
        gi_wp2
        go_roundw
        case rel => exact ⟨k + 1, pre ++ [y], by go_num, by omega, by simp [hpl], HJ4.out, HB4.out⟩
        case measure => simp [intOf]; omega
      · have HJ4 := Lib.hid hj4
        clear hj4 hR hy
        gi_wp2
        refine bodyPost_ret (results_none rfl _ _ _) rfl ?_
        exact ⟨⟨_, rfl⟩, .inr ⟨_, trivial, HJ4.out⟩⟩
    · obtain rfl : k = xs.length := by omega
      clear hit
      gi_wp2
      go_end0
      exact ⟨⟨_, rfl⟩, .inl ⟨pre, hpl, HPJ.out⟩⟩
/-- What lies below n₀ stays, but for one block. -/
structure Kb (n₀ cb : Nat) (W W' : World) : Prop where
  os : W'.os = W.os
  tape : W'.tape = W.tape
  output : W'.output = W.output
  size : W.heap.size ≤ W'.heap.size
  block : ∀ k, k < n₀ → k < W.heap.size → k ≠ cb → W'.heap[k]? = W.heap[k]?
theorem Kb.trans {n₀ cb : Nat} {A B C : World} (h : Kb n₀ cb A B) (h' : Kb n₀ cb B C) : Kb n₀ cb A C :=
  ⟨h'.os.trans h.os, h'.tape.trans h.tape, h'.output.trans h.output, Nat.le_trans h.size h'.size, fun k h1 h2 h3 => (h'.block k h1 (Nat.lt_of_lt_of_le h2 h.size) h3).trans (h.block k h1 h2 h3)⟩
theorem Kb.of {n₀ cb : Nat} {A B : World} (h : Kept (fun k => k = cb) A B) : Kb n₀ cb A B := ⟨h.os, h.tape, h.output, h.size, fun k _ h2 h3 => h.block k h2 h3⟩
theorem Kb.put {n₀ cb : Nat} {W : World} {l : Nat} {o : Obj} (hl : n₀ ≤ l) : Kb n₀ cb W (W.putObj l o) := by
  have hg := grownBy_putObj' W l o
  exact ⟨hg.os, hg.tape, hg.output, hg.size, fun k h1 h2 _ => hg.block k h2 fun e => by injection e with e; omega⟩
theorem Kb.kept {cb : Nat} {W W' : World} (h : Kb W.heap.size cb W W') : Kept (fun k => k = cb) W W' := ⟨h.os, h.tape, h.output, h.size, fun k h1 h2 => h.block k h1 h1 h2⟩
theorem one_not_dots {w : World} {g : Nat} {t : TypeId} {v : Value} {A : Option Addr} {l : List Dt} (h : Box w g t #[v]) (hd : DotsAt w A l) : 0 < l.length → ∀ a, A = some a → a.block ≠ g := by
  rintro h0 a rfl e
  obtain ⟨ad, e1, _, x1⟩ := hd 0 h0
  injection e1 with e1
  subst e1
  have := h
  unfold Box at this
  unfold World.cell? at x1
  have hb : (a.add (0 * 2)).block = g := by unfold Addr.add; split <;> exact e
  simp only [hb, this] at x1
  simp at x1
theorem one_not_runs {w : World} {g : Nat} {t : TypeId} {v : Value} {A : Option Addr} {l : List Rn} (h : Box w g t #[v]) (hd : RunsAt w A l) : 0 < l.length → ∀ a, A = some a → a.block ≠ g := by
  rintro h0 a rfl e
  obtain ⟨ad, e1, _, x1, _⟩ := hd 0 h0
  injection e1 with e1
  subst e1
  have := h
  unfold Box at this
  unfold World.cell? at x1
  have hb : (a.add (0 * 3)).block = g := by unfold Addr.add; split <;> exact e
  simp only [hb, this] at x1
  simp at x1
theorem ItAt.count {w w' : World} {B : Nat} {xs : List Lop} {A : Option Addr} {c g : Nat} {v : Value} (h : ItAt w B xs A c) (hg : Box w g 3 #[v]) (hk : Kept (fun k => k = g) w w') : ItAt w' B xs A c :=
  ⟨h.box.kept hk (fun e => Box.ne h.box hg (by decide) e), hk.own h.row fun k hk e => own_box_ne h.row hg (by decide) (by rw [hk, e]), fun x hx => ⟨by
    rcases Nat.eq_zero_or_pos x.o.deps.length with h0 | h0
    · rw [List.eq_nil_of_length_eq_zero h0]; exact DotsAt.nil
    · exact (h.ats x hx).d.kept hk fun a ha => one_not_dots hg (h.ats x hx).d h0 a ha, (h.ats x hx).g.kept hk fun h0 a ha => one_not_runs hg (h.ats x hx).g h0 a ha⟩, h.small, h.len⟩
set_option maxRecDepth 100000 in
set_option maxHeartbeats 2000000 in
theorem Lacks_of (pv : Value) (H : Option Addr) (hv : List Dt) (hc : Nat) (w : World) (xs : List Lop)
    (hby : ∀ W, Kept (fun _ => False) w W → Calls Try.prog 19 #[pv, .slice H hv.length hc] W (ItPost W xs)) :
    Calls Try.prog 22 #[pv, .slice H hv.length hc] w (IntPost w xs.length) := by
  have HBY := Lib.hid hby
  clear hby
  refine (callsIn_wide (n := 4)).1 ?_
  refine callsIn_of_wp_marks Try.func22 rfl trivial ?_ rfl
  simp only [Try.ntmps22, List.size_toArray, List.length_cons, List.length_nil, Nat.reduceAdd, Nat.reduceSub, Array.replicate_succ, Array.replicate_zero, List.push_toArray, List.append_toArray, List.nil_append, List.cons_append]
  have HK0 := Lib.hid (((Kept.refl (fun _ => False) w).alloc (.cells #[.int .i64 0] 3)))
  have HB0 := Lib.hid (Box.new w 3 #[.int .i64 0])
  gi_wp2_with (fail)
  refine ⟨trivial, (callsIn_wide.2 (HBY.out _ HK0.out)).mono ?_⟩
  rintro e w1 ⟨B, A, c, rfl, hit, -, -, hk1⟩
  have HIT := Lib.hid hit
  have HB1 := Lib.hid (HB0.out.kept hk1 id)
  have HBL := Lib.hid ((HK0.out.trans hk1 fun _ _ e => e).below (Nat.le_refl w.heap.size) fun _ e => e.elim)
  have HSZ := Lib.hid (show w.heap.size < w1.heap.size from (HB0.out.kept hk1 id).lt)
  clear hit hk1 HB0 HK0 HBY
  gi_wp2_with (fail)
  have hxl := HIT.out.len
  generalize hcb : w.heap.size = cb at HB1 HSZ HBL ⊢
  refine wpIn_rangeFunc_ownF rfl (by omega) (gf := 51) (lb := #[.pointer (some ⟨B, 0, none⟩)]) rfl trivial (enters_of Try.func51 (by kernel_rfl) rfl)
    (Beyond1_stops _ (by omega) B xs A c w1 (Kb w1.heap.size cb) HIT.out (fun W' h => HIT.out.count HB1.out h.kept) Kb.trans (fun h => Kb.of (h.more fun _ _ e => e.elim))) Kb.trans (fun W l o o' hl _ _ _ => Kb.put hl) (Below.refl _ _) (fun _ => rfl)
    (fun pre W => Box W cb 3 #[.int .i64 pre.length] ∧ Below cb w W)
    (fun _ _ _ => False)
    (OwnFrom.and (fun s W W' row hs hg hr => (hg.block cb hs.lt (fun e => by have := (hr cb e.symm).1; have := HSZ.out; omega)).trans hs) (ownFrom_below (Nat.le_of_eq hcb.symm) (by have := HSZ.out; omega)))
    (fun _ _ _ _ _ hs _ _ => hs)
    ⟨HB1.out, HBL.out⟩
    (fun x => { tmps := #[pv, .slice H hv.length hc, undef, undef, .int .i64 0, .pointer (some ⟨cb, 0, none⟩), pv, .slice H hv.length hc, .func (.func 51) #[] #[.pointer (some ⟨B, 0, none⟩)], .agg x.c, undef, undef, undef], defers := [] }) ?assign ?body ?done ?stop
  case assign =>
    intro l x W K hK
    gi_wp2
    refine Eq.mp ?_ hK
    kernel_rfl
  case body =>
    rintro l pre x W ⟨hbx, hB⟩ hlt
    have hx0 : W.cell? ⟨cb, 0, none⟩ = some (.int .i64 pre.length) := by simpa using hbx.cell 0
    have hxf := hbx.frozen 0
    have hwr : IntKind.i64.wrap ((pre.length : Int) + 1) = (pre.length : Int) + 1 := IntWalk.i64_in _ ⟨by omega, by omega⟩
    have HBX := Lib.hid hbx
    have HBB := Lib.hid hB
    clear hbx hB
    gi_wp2
    have hk : Kept (fun k => k = cb) W (W.setCell ⟨cb, 0, none⟩ (.int .i64 ((pre.length : Int) + 1))) := (Kept.refl _ _).at 0 _ (.inl rfl)
    refine ⟨KeepsOthers.setCell _ _ _, Kb.of hk, ?_, ?_⟩
    · have := HBX.out.set 0 (.int .i64 ((pre.length : Int) + 1))
      simpa using this
    · exact HBB.out.setCell (p := ⟨cb, 0, none⟩) (Nat.le_refl _) _
  case done =>
    rintro D ys W hD hyl ⟨hbx, hB⟩ hK
    have hx0 : W.cell? ⟨cb, 0, none⟩ = some (.int .i64 ys.length) := by simpa using hbx.cell 0
    clear hbx
    gi_wp2
    refine ⟨by simp, .inl ⟨_, _, rfl, run_takeDeferred hK, ?_⟩⟩
    refine ⟨_, results_tmp rfl _ _ _, by rw [← hyl]; rfl, ?_⟩
    subst hcb
    exact Kept.of_below' (hB.trans (Kept.below (S := fun k => k = D) (Kept.of_grown' (grownBy_putObj' W D _)) hB.size fun k e => by have := HSZ.out; omega))
  case stop =>
    rintro D c pre W _ _ h _
    exact h.elim
end Go.Proofs.Ytnfehkncfjgeeaa
