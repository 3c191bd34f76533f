/- The walks of the law's copies and apart. Conditions: what is asked lies in memory; no copy is longer than a million. -/
import Derived.Test.YtopcogogpbcbhaaNDo
namespace Go.Proofs.Ytopcogogpbcbhaa
open Go Go.RowKit

/-- What is told of a copy. -/
def Cp.tell (c : Cp) : Cp := { c with clean := [] }
theorem Cp.same_tell {c d : Cp} : c.same d ↔ c.tell = d.tell := by
  obtain ⟨a1, a2, a3, a4, a5, a6, a7⟩ := c
  obtain ⟨b1, b2, b3, b4, b5, b6, b7⟩ := d
  simp only [Cp.same, Cp.tell, Cp.mk.injEq, true_and]
  constructor
  · rintro ⟨h1, h2, h3, h4, h5, h6⟩
    exact ⟨h1, h2, h3, h5, h4, h6⟩
  · rintro ⟨h1, h2, h3, h4, h5, h6⟩
    exact ⟨h1, h2, h3, h5, h4, h6⟩
def tells (l : List Cc) : List Cp := l.map fun x => x.c.tell
theorem tells_of {l : List Cc} {m : List Cp} (h : l.map (·.c) = m) : tells l = m.map Cp.tell := by rw [← h, List.map_map]; rfl
/-- Told copies in memory. -/
structure CcsAt (w : World) (L : Option Addr) (lc : Nat) (l : List Cc) : Prop where
  row : w.ownsRow 0 44 6 (.slice L l.length lc) l.length (ccs l)
  d : ∀ x ∈ l, w.ownsRow 0 5 1 x.dV x.c.data.length (bys x.c.data)
  len : ∀ x ∈ l, x.c.data.length ≤ 1000000
theorem CcsAt.of {w : World} {base : Nat} {L : Option Addr} {lc : Nat} {l : List Cc} (h : CopAt w base L lc l) (hl : ∀ x ∈ l, x.c.data.length ≤ 1000000) : CcsAt w L lc l := ⟨own_base h.row (Nat.zero_le _), fun x hx => own_base (h.d x hx) (Nat.zero_le _), hl⟩
theorem CcsAt.fresh {w w' : World} {L : Option Addr} {lc : Nat} {l : List Cc} (h : CcsAt w L lc l) (hk : Kept (fun _ => False) w w') : CcsAt w' L lc l := ⟨hk.own h.row fun _ _ => id, fun x hx => hk.own (h.d x hx) fun _ _ => id, h.len⟩
theorem run_load_cc {w : World} {a : Act} (op : Oper) (x : Operand) (ho : op.op = .load 44 x) (g k : Nat) (hx : a.eval x = .pointer (some ⟨g, k * 6, none⟩)) {base n c : Nat} (xs : List Cc)
    (hr : w.ownsRow base 44 6 (.slice (some ⟨g, 0, none⟩) n c) n (ccs xs)) (hk : k < xs.length) (cs : Array Value) (hcs : xs[k].cs = cs) : (execOp a.eval op).run Try.prog w = .ok (.value (.agg cs)) w := by
  obtain ⟨d, hu, hd⟩ : ∃ d, Try.prog.underlying 44 = some d ∧ d.isRow = true := ⟨.struct (Try.prog.fieldsOf 44), by kernel_rfl, rfl⟩
  have := run_loadVar_mid (P := Try.prog) w g (k * 6) 44 xs[k].cs.toList d (fun j v hj => by
    have hj' : j < 6 := by
      have := (List.getElem?_eq_some_iff.1 hj).1
      rwa [Array.length_toList, Cc.cs_size] at this
    have := hr.cells (g := g) rfl (k * 6 + j) v (by rw [ccs_get xs k hk j hj']; exact hj)
    rwa [add_none] at this) hu hd (by rw [Array.length_toList]; exact size_cp)
  rw [Array.toArray_toList, hcs] at this
  unfold execOp
  simp only [ho, hx, Instr.loadAt, Instr.sureAddr, Sem.run_bind, Sem.run_pure, Result.andThen_ok, this]
theorem tells_take {l m : List Cc} {k : Nat} (h : tells (l.take k) = tells (m.take k)) (h1 : k < l.length) (h2 : k < m.length) (he : l[k].c.tell = m[k].c.tell) : tells (l.take (k + 1)) = tells (m.take (k + 1)) := by
  rw [List.take_succ_eq_append_getElem h1, List.take_succ_eq_append_getElem h2]
  unfold tells at *
  rw [List.map_append, List.map_append, h]
  simp [he]
theorem tells_not {l m : List Cc} {k : Nat} (h1 : k < l.length) (h2 : k < m.length) (he : ¬ l[k].c.tell = m[k].c.tell) : ¬ tells l = tells m := fun e => he (by
  have := congrArg (fun l : List Cp => l[k]?) e
  simpa [tells, h1, h2] using this)
set_option maxRecDepth 100000 in
set_option maxHeartbeats 3200000 in
theorem Copies20_any (A B : Option Addr) (c d : Nat) (l m : List Cc) (w : World) (hl : CcsAt w A c l) (hm : CcsAt w B d m) (hll : l.length ≤ 1000000) :
    Calls Try.prog 15 #[.slice A l.length c, .slice B m.length d] w (IffPost w (tells l = tells m)) := by
  by_cases hn : l.length = m.length
  case neg =>
    as_aux_lemma =>
    have hne : ¬ tells l = tells m := fun e => hn (by simpa [tells] using congrArg List.length e)
    have hn' : (l.length : Int) ≠ m.length := by omega
    have HNE := Lib.hid hne
    clear hl hm hne
    go_enter Try.func15, Try.ntmps15
    go_wp2_with (fail)
    go_ret
    exact ⟨false, rfl, ⟨fun e => (by cases e), fun e => absurd e HNE.out⟩, Kept.refl _ _⟩
  have HL := Lib.hid hl
  have HM := Lib.hid hm
  clear hl hm
  rw [← hn]
  have HN := Lib.hid hn
  clear hn
  go_enter Try.func15, Try.ntmps15
  go_wp2_with (fail)
  go_loopw [5] (fun i wr => ∃ k : Nat, i = .int .i64 k ∧ k ≤ l.length ∧ tells (l.take k) = tells (m.take k) ∧ Kept (fun _ => False) w wr) (fun i _ => l.length - (intOf i).toNat)
  case atStart => exact ⟨0, rfl, Nat.zero_le _, rfl, Kept.refl _ _⟩
  case round =>
    obtain ⟨k, rfl, hk, hat, hkk⟩ := hrel
    have HK := Lib.hid hkk
    have HAT := Lib.hid hat
    by_cases hlt : k < l.length
    · have hltz : k < m.length := by rw [← HN.out]; exact hlt
      obtain ⟨g, e1, -, -, -⟩ := own_cells HL.out.row (by omega)
      obtain ⟨g', e1', -, -, -⟩ := own_cells HM.out.row (by omega)
      subst e1 e1'
      obtain ⟨x, hx⟩ : ∃ x, l[k] = x := ⟨_, rfl⟩
      obtain ⟨y, hyy⟩ : ∃ y, m[k] = y := ⟨_, rfl⟩
      have hxm : x ∈ l := by rw [← hx]; exact List.getElem_mem hlt
      have hym : y ∈ m := by rw [← hyy]; exact List.getElem_mem hltz
      have HSAME := Lib.hid (fun W (hW : Kept (fun _ => False) w W) => Same20_any x.c y.c x.A y.A x.cap y.cap W (BytesAt.of_own ((HL.out.fresh hW).d x hxm)) (BytesAt.of_own ((HM.out.fresh hW).d y hym)) (HL.out.len x hxm))
      have HRY := Lib.hid (fun W (hW : Kept (fun _ => False) w W) => (HL.out.fresh hW).row)
      have HRZ := Lib.hid (fun W (hW : Kept (fun _ => False) w W) => show W.ownsRow 0 44 6 (.slice (some ⟨g', 0, none⟩) l.length d) l.length (ccs m) by have := (HM.out.fresh hW).row; rwa [← HN.out] at this)
      obtain ⟨cs, hcs⟩ : ∃ cs, cpC x.c x.A x.cap = cs := ⟨_, rfl⟩
      obtain ⟨ds, hds⟩ : ∃ ds, cpC y.c y.A y.cap = ds := ⟨_, rfl⟩
      have HXC := Lib.hid (show l[k].cs = cs by rw [hx]; exact hcs)
      have HYC := Lib.hid (show m[k].cs = ds by rw [hyy]; exact hds)
      have HX := Lib.hid hx
      have HYY := Lib.hid hyy
      rw [hcs, hds] at HSAME
      have hk0 : (0 : Int) ≤ (k : Int) := by omega
      have hkn : (k : Int) < (l.length : Int) := by omega
      clear hcs hds hxm hym hx hyy hkk hat
      go_wp2_with (fail)
      as_aux_lemma =>
        refine wp_region_held_drew (S := fun W => Kept (fun _ => False) w W) (by kernel_rfl) HK.out.drew fun hS => ?_
        generalize World.drew _ = w6 at hS ⊢
        refine held_takeTo 17 (i := 0) (v := .slice (some ⟨g, 0, none⟩) l.length c) rfl rfl (by kernel_rfl) (by kernel_rfl) (by kernel_rfl) (fun _ _ _ h => h) rfl hS (fun W hW => by go_simp) ?_
        simp only [List.setIfInBounds_toArray, List.set_cons_zero, List.set_cons_succ]
        refine held_takeTo 18 (i := 1) (v := .int .i64 k) rfl rfl (by kernel_rfl) (by kernel_rfl) (by kernel_rfl) (fun _ _ _ h => h) rfl hS (fun W hW => by go_simp) ?_
        simp only [List.setIfInBounds_toArray, List.set_cons_zero, List.set_cons_succ]
        refine held_takeTo 19 (i := 2) (v := .pointer (some ⟨g, k * 6, none⟩)) rfl rfl (by kernel_rfl) (by kernel_rfl) (by kernel_rfl) (fun _ _ _ h => h) rfl hS (fun W hW => by go_simp) ?_
        simp only [List.setIfInBounds_toArray, List.set_cons_zero, List.set_cons_succ]
        refine held_takeTo 20 (i := 3) (v := .agg cs) rfl rfl (by kernel_rfl) (by kernel_rfl) (by kernel_rfl) (fun _ _ _ h => h) rfl hS (fun W hW => run_load_cc _ _ rfl g k rfl l (HRY.out W hW) hlt cs HXC.out) ?_
        simp only [List.setIfInBounds_toArray, List.set_cons_zero, List.set_cons_succ]
        refine held_takeTo 21 (i := 4) (v := .slice (some ⟨g', 0, none⟩) l.length d) rfl rfl (by kernel_rfl) (by kernel_rfl) (by kernel_rfl) (fun _ _ _ h => h) rfl hS (fun W hW => by go_simp) ?_
        simp only [List.setIfInBounds_toArray, List.set_cons_zero, List.set_cons_succ]
        refine held_takeTo 22 (i := 5) (v := .int .i64 k) rfl rfl (by kernel_rfl) (by kernel_rfl) (by kernel_rfl) (fun _ _ _ h => h) rfl hS (fun W hW => by go_simp) ?_
        simp only [List.setIfInBounds_toArray, List.set_cons_zero, List.set_cons_succ]
        refine held_takeTo 23 (i := 6) (v := .pointer (some ⟨g', k * 6, none⟩)) rfl rfl (by kernel_rfl) (by kernel_rfl) (by kernel_rfl) (fun _ _ _ h => h) rfl hS (fun W hW => by go_simp) ?_
        simp only [List.setIfInBounds_toArray, List.set_cons_zero, List.set_cons_succ]
        refine held_takeTo 24 (i := 7) (v := .agg ds) rfl rfl (by kernel_rfl) (by kernel_rfl) (by kernel_rfl) (fun _ _ _ h => h) rfl hS (fun W hW => run_load_cc _ _ rfl g' k rfl m (HRZ.out W hW) hltz ds HYC.out) ?_
        simp only [List.setIfInBounds_toArray, List.set_cons_zero, List.set_cons_succ]
        refine held_one (i := 8) (by kernel_rfl) rfl fun K hK => ?_
        go_wp2_with (fail)
        refine (HSAME.out w6 hS).mono ?_
        rintro e w7 ⟨bb, rfl, hbb, hk7⟩
        have hS7 := hS.trans hk7 fun _ _ e => e
        have HBB := Lib.hid hbb
        clear hk7 hbb
        go_wp2_with (fail)
        refine hK.out _ _ hS7 fun _ => ?_
        clear hK K
        refine held_one (i := 9) (by kernel_rfl) rfl fun K hK => ?_
        go_wp2_with (fail)
        refine hK.out _ _ hS7 fun _ => ?_
        clear hK K
        refine wpAnyH_done (by kernel_rfl) ?_ _
        have HS7 := Lib.hid hS7
        clear hS7 hS
        cases bb with
        | true =>
          go_wp2_with (fail)
          go_roundw
          case rel => exact ⟨k + 1, by go_num, by omega, tells_take HAT.out hlt hltz (by rw [HX.out, HYY.out]; exact Cp.same_tell.1 (HBB.out.1 rfl)), HS7.out⟩
          case measure => simp [intOf]; omega
        | false =>
          go_wp2_with (fail)
          go_ret
          exact ⟨false, rfl, ⟨fun e => (by cases e), fun e => absurd e (tells_not hlt hltz (by rw [HX.out, HYY.out]; exact fun e => by have := HBB.out.2 (Cp.same_tell.2 e); cases this))⟩, HS7.out⟩
    · obtain rfl : k = l.length := by omega
      clear hkk hat
      go_wp2_with (fail)
      go_ret
      exact ⟨true, rfl, ⟨fun _ => by have := HAT.out; rwa [List.take_length, HN.out, List.take_length] at this, fun _ => rfl⟩, HK.out⟩
end Go.Proofs.Ytopcogogpbcbhaa
