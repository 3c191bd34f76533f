/- The walks of Get, Has, Sum of both. Conditions: the Dots lie in memory as DotsAt says. -/
import Derived.Test.YtnfehkncfjgeeaaVSame
namespace Go.Proofs.Ytnfehkncfjgeeaa
open Go.RowKit

def IntPost (w : World) (n : Int) (e : Ending) (w' : World) : Prop := e = .returned (.int .i64 n) ∧ Kept (fun _ => False) w w'

theorem getV_yes {l : List Dt} {st : Nat} (h : 1 ≤ st ∧ st ≤ 16) : getV l st = rg (says l) st := by
  unfold getV
  rw [if_pos (by simp [siteB]; omega)]
  rfl
theorem getV_no {l : List Dt} {s : Int} (h : siteB s = false) : getV l s = 0 := by
  unfold getV
  rw [h]
  rfl

set_option maxRecDepth 100000 in
set_option maxHeartbeats 1600000 in
theorem Get_any (A : Option Addr) (l : List Dt) (c : Nat) (site : Int) (w : World) (hl : DotsAt w A l) (hlen : l.length ≤ 4611686018427387904) :
    Calls Try.prog 63 #[.slice A l.length c, .int .i64 site] w (IntPost w (getV l site)) := by
  have HL := Lib.hid hl
  clear hl
  cases hs : siteB site with
  | false =>
    rw [getV_no hs]
    have HS := Lib.hid hs
    clear hs
    go_enter Try.func63, Try.ntmps63
    go_wp2_with (fail)
    refine (isSite_is _ false _ HS.out).mono ?_
    rintro e w1 ⟨rfl, rfl⟩
    go_wp2
    go_ret
    exact ⟨rfl, Kept.refl _ _⟩
  | true =>
    have h : 1 ≤ site ∧ site ≤ 16 := by simpa [siteB] using hs
    obtain ⟨st, rfl⟩ : ∃ st : Nat, site = st := ⟨site.toNat, by omega⟩
    obtain ⟨h1, h2⟩ := h
    obtain ⟨x, hx⟩ : ∃ x, rg (says l) st = x := ⟨_, rfl⟩
    rw [getV_yes (by omega), hx]
    have hix := run_index_row (says l) (Row.says l).len st (by omega)
    rw [hx] at hix
    have HS := Lib.hid hs
    clear hs hx
    go_enter Try.func63, Try.ntmps63
    go_wp2_with (fail)
    refine (isSite_is _ true _ HS.out).mono ?_
    rintro e w1 ⟨rfl, rfl⟩
    go_wp2_with (fail)
    refine (of_any A l c _ HL.out hlen).mono ?_
    rintro e w1 ⟨rfl, hk⟩
    go_wp2
    go_ret
    exact ⟨rfl, hk⟩

theorem run_index_Row (r : List Int) (hr : r.length = 17) (k : Nat) (hk : k < 17) (W : World) :
    (Instr.index 89 (.agg (rowV r)) (.int .i64 (k : Int))).run Try.prog W = .ok (.int .i64 (rg r k)) W := by
  have hg := rowV_get r k (by omega)
  have hi : (Try.prog.info? 3).map (fun i => (i.zero, i.size, i.bytes)) = some (some (.int .i64 0), 1, 8) := by kernel_rfl
  obtain ⟨i0, h1, h2, h3, h4⟩ := info_parts hi
  simp [Instr.index, asIntOf, run_underlying Try.underlying89, sizeOf, typeInfo, h1, h3, part, isAgg, run_underlying Try.underlying3, hg, hk]

set_option maxRecDepth 100000 in
set_option maxHeartbeats 1600000 in
theorem RGet_any (A : Option Addr) (l : List Dt) (c : Nat) (site : Int) (w : World) (hl : DotsAt w A l) (hlen : l.length ≤ 4611686018427387904) :
    Calls Try.prog 57 #[.slice A l.length c, .int .i64 site] w (IntPost w (getV l site)) := by
  have HL := Lib.hid hl
  clear hl
  cases hs : siteB site with
  | false =>
    rw [getV_no hs]
    have h : site < 1 ∨ (1 ≤ site ∧ 16 < site) := by simp [siteB] at hs; omega
    clear hs
    rcases h with h | ⟨h, h2⟩
    all_goals
      go_enter Try.func57, Try.ntmps57
      go_wp2
      go_ret
      exact ⟨rfl, Kept.refl _ _⟩
  | true =>
    have h : 1 ≤ site ∧ site ≤ 16 := by simpa [siteB] using hs
    obtain ⟨st, rfl⟩ : ∃ st : Nat, site = st := ⟨site.toNat, by omega⟩
    obtain ⟨h1, h2⟩ := h
    obtain ⟨x, hx⟩ : ∃ x, rg (says l) st = x := ⟨_, rfl⟩
    rw [getV_yes (by omega), hx]
    have hix := run_index_Row (says l) (Row.says l).len st (by omega)
    rw [hx] at hix
    clear hs hx
    go_enter Try.func57, Try.ntmps57
    go_wp2_with (fail)
    refine (Says_any A l c _ HL.out hlen).mono ?_
    rintro e w1 ⟨rfl, hk⟩
    go_wp2
    go_ret
    exact ⟨rfl, hk⟩

def BoolPost (w : World) (b : Bool) (e : Ending) (w' : World) : Prop := e = .returned (.bool b) ∧ Kept (fun _ => False) w w'

set_option maxRecDepth 100000 in
set_option maxHeartbeats 1600000 in
theorem Has_any (A : Option Addr) (l : List Dt) (c : Nat) (d : Dt) (w : World) (hl : DotsAt w A l) (hlen : l.length ≤ 4611686018427387904) :
    Calls Try.prog 48 #[.slice A l.length c, .agg #[.int .i64 d.site, .int .i64 d.seq]] w (BoolPost w (hasV l d)) := by
  obtain ⟨site, seq⟩ := d
  obtain ⟨x, hx⟩ : ∃ x, getV l site = x := ⟨_, rfl⟩
  have hb : hasV l ⟨site, seq⟩ = decide (1 ≤ seq ∧ seq ≤ x) := by rw [← hx]; rfl
  rw [hb]
  have HL := Lib.hid hl
  have HX := Lib.hid hx
  have HB := Lib.hid (Box.new w 28 #[.int .i64 site, .int .i64 seq])
  have HK := Lib.hid ((Kept.refl (fun _ => False) w).alloc (.cells #[.int .i64 site, .int .i64 seq] 28))
  clear hl hb hx
  go_enter Try.func48, Try.ntmps48
  go_wp2_with (fail)
  generalize w.alloc (.cells #[.int .i64 site, .int .i64 seq] 28) = W at HB HK ⊢
  have x0 : W.cell? ⟨w.heap.size, 0, none⟩ = some (.int .i64 site) := by simpa using HB.out.cell 0
  have x1 : W.cell? ⟨w.heap.size, 1, none⟩ = some (.int .i64 seq) := by simpa using HB.out.cell 1
  by_cases h1 : 1 ≤ seq
  · go_region_held3 (fun w' => w'.cell? ⟨w.heap.size, 0, none⟩ = some (.int .i64 site) ∧ w'.cell? ⟨w.heap.size, 1, none⟩ = some (.int .i64 seq))
      (first | exact ⟨x0, x1⟩ | exact ⟨y0, y1⟩)
      ((go_at_call 63; refine (Get_any A l c site _ (HL.out.fresh ((HK.out).trans (Kept.drewN_eq 1) fun _ _ e => e)) hlen).mono ?_; rintro e w1 ⟨rfl, hk⟩; have HK1 := Lib.hid ((HK.out.trans (Kept.drewN_eq 1) fun _ _ e => e).trans hk fun _ _ e => e); have HB1 := (HB.out.drewN 1).kept hk (fun h => h); have y0 : w1.cell? ⟨w.heap.size, 0, none⟩ = some (.int .i64 site) := (by simpa using HB1.cell 0); have y1 : w1.cell? ⟨w.heap.size, 1, none⟩ = some (.int .i64 seq) := (by simpa using HB1.cell 1); clear hk HB1))
    go_wp2
    go_ret
    refine ⟨?_, HK1.out⟩
    rw [HX.out]
    exact ret_bool (by simp [h1])
  · have e1 : decide (1 ≤ seq) = false := decide_eq_false h1
    go_quiet (fail)
    go_wp2
    go_ret
    exact ⟨ret_bool (by simp), HK.out.trans (Kept.drewN_eq nq) fun _ _ e => e⟩
set_option maxRecDepth 100000 in
set_option maxHeartbeats 1600000 in
theorem RHas_any (A : Option Addr) (l : List Dt) (c : Nat) (d : Dt) (w : World) (hl : DotsAt w A l) (hlen : l.length ≤ 4611686018427387904) :
    Calls Try.prog 37 #[.slice A l.length c, .agg #[.int .i64 d.site, .int .i64 d.seq]] w (BoolPost w (hasV l d)) := by
  obtain ⟨site, seq⟩ := d
  obtain ⟨x, hx⟩ : ∃ x, getV l site = x := ⟨_, rfl⟩
  have hb : hasV l ⟨site, seq⟩ = decide (1 ≤ seq ∧ seq ≤ x) := by rw [← hx]; rfl
  rw [hb]
  have HL := Lib.hid hl
  have HX := Lib.hid hx
  have HB := Lib.hid (Box.new w 28 #[.int .i64 site, .int .i64 seq])
  have HK := Lib.hid ((Kept.refl (fun _ => False) w).alloc (.cells #[.int .i64 site, .int .i64 seq] 28))
  clear hl hb hx
  go_enter Try.func37, Try.ntmps37
  go_wp2_with (fail)
  generalize w.alloc (.cells #[.int .i64 site, .int .i64 seq] 28) = W at HB HK ⊢
  have x0 : W.cell? ⟨w.heap.size, 0, none⟩ = some (.int .i64 site) := by simpa using HB.out.cell 0
  have x1 : W.cell? ⟨w.heap.size, 1, none⟩ = some (.int .i64 seq) := by simpa using HB.out.cell 1
  by_cases h1 : 1 ≤ seq
  · go_region_held3 (fun w' => w'.cell? ⟨w.heap.size, 0, none⟩ = some (.int .i64 site) ∧ w'.cell? ⟨w.heap.size, 1, none⟩ = some (.int .i64 seq))
      (first | exact ⟨x0, x1⟩ | exact ⟨y0, y1⟩)
      ((go_at_call 57; refine (RGet_any A l c site _ (HL.out.fresh ((HK.out).trans (Kept.drewN_eq 1) fun _ _ e => e)) hlen).mono ?_; rintro e w1 ⟨rfl, hk⟩; have HK1 := Lib.hid ((HK.out.trans (Kept.drewN_eq 1) fun _ _ e => e).trans hk fun _ _ e => e); have HB1 := (HB.out.drewN 1).kept hk (fun h => h); have y0 : w1.cell? ⟨w.heap.size, 0, none⟩ = some (.int .i64 site) := (by simpa using HB1.cell 0); have y1 : w1.cell? ⟨w.heap.size, 1, none⟩ = some (.int .i64 seq) := (by simpa using HB1.cell 1); clear hk HB1))
    go_wp2
    go_ret
    refine ⟨?_, HK1.out⟩
    rw [HX.out]
    exact ret_bool (by simp [h1])
  · have e1 : decide (1 ≤ seq) = false := decide_eq_false h1
    go_quiet (fail)
    go_wp2
    go_ret
    exact ⟨ret_bool (by simp), HK.out.trans (Kept.drewN_eq nq) fun _ _ e => e⟩

end Go.Proofs.Ytnfehkncfjgeeaa
