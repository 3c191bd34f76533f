/- The walks of what is called with no Writer. Conditions: what is handed in lies in memory. · The walk of OpForm: it is true. Conditions: the bytes lie in memory. · The walk of OpNothing: it is true. Conditions: the operation lies in memory. -/
import Derived.Test.YtnlklhlnnoihiaaDED
namespace Go.Proofs.Ytnlklhlnnoihiaa
open Go Go.RowKit

def NilPost (w : World) (r : Ending) (w' : World) : Prop := r = .returned (.tuple #[]) ∧ Kept (fun _ => False) w w'
set_option maxRecDepth 100000 in
theorem WNum_nil (v : Int) (w : World) : Calls Try.prog 37 #[.pointer none, .int .i64 v] w (NilPost w) := by
  go_enter Try.func37, Try.ntmps37
  go_wp2_with (fail)
  go_end0
  exact ⟨rfl, Kept.refl _ _⟩
set_option maxRecDepth 100000 in
theorem WTxt_nil (s : ByteArray) (w : World) : Calls Try.prog 36 #[.pointer none, .string s] w (NilPost w) := by
  go_enter Try.func36, Try.ntmps36
  go_wp2_with (fail)
  go_end0
  exact ⟨rfl, Kept.refl _ _⟩
set_option maxRecDepth 100000 in
set_option maxHeartbeats 1600000 in
theorem VPut_nil (A : Option Addr) (v : List Dt) (c : Nat) (w : World) (hv : DotsAt w A v) (hlen : v.length ≤ 4611686018427387904) : Calls Try.prog 63 #[.pointer none, .slice A v.length c] w (NilPost w) := by
  have HV := Lib.hid hv
  clear hv
  go_enter Try.func63, Try.ntmps63
  go_wp2_with (fail)
  refine (of_any A v c _ HV.out hlen).mono ?_
  rintro r w1 ⟨rfl, hk⟩
  have HK := Lib.hid hk
  have HR := Lib.hid (Row.says v)
  clear hk
  obtain ⟨r, hr⟩ : ∃ r, says v = r := ⟨_, rfl⟩
  rw [hr] at HR ⊢
  clear hr
  go_wp2_with (fail)
  refine (vector_any _ _ HR.out).mono ?_
  rintro e2 w2 hf
  obtain ⟨A', c', rfl, ho, hk⟩ := hf.since HK.out
  have HK2 := Lib.hid hk
  have hll := vecTo_len r 17
  have HL : vec r = vecTo r 17 := rfl
  rw [HL] at ho ⊢
  generalize vecTo r 17 = L at hll ho ⊢
  have HD := Lib.hid (DotsAt.of_own ho)
  clear hf ho hk HK HV HR HL
  go_wp2_with (fail)
  refine (WNum_nil L.length w2).mono ?_
  rintro e3 w3 ⟨rfl, hk⟩
  have HK3 := Lib.hid hk
  clear hk
  go_wp2_with (fail)
  go_loopw [16] (fun i wr => ∃ k : Nat, i = .int .i64 k ∧ k ≤ L.length ∧ Kept (fun _ => False) w2 wr) (fun i _ => L.length - (intOf i).toNat)
  case atStart => exact ⟨0, rfl, Nat.zero_le _, HK3.out⟩
  case round =>
    obtain ⟨k, rfl, hk, hn⟩ := hrel
    have HKN := Lib.hid hn
    by_cases hlt : k < L.length
    · obtain ⟨ad, rfl, x0, x1⟩ := (HD.out.fresh hn) k hlt
      generalize L[k] = d at x0 x1
      obtain ⟨st, sq⟩ := d
      simp only at x0 x1
      have HX := Lib.hid (Box.new wr 23 #[.int .i64 st, .int .i64 sq])
      have HKX := Lib.hid (hn.alloc (.cells #[.int .i64 st, .int .i64 sq] 23))
      clear hn
      go_wp2_with (fail)
      generalize wr.alloc (.cells #[.int .i64 st, .int .i64 sq] 23) = W at HX HKX ⊢
      clear x0 x1
      have y1 : W.cell? ⟨wr.heap.size, 1, none⟩ = some (.int .i64 sq) := by simpa using HX.out.cell 1
      refine (WNum_nil st W).mono ?_
      rintro e4 w4 ⟨rfl, hk4⟩
      have z1 : w4.cell? ⟨wr.heap.size, 1, none⟩ = some (.int .i64 sq) := by simpa using (HX.out.kept hk4 id).cell 1
      have HK4 := Lib.hid (HKX.out.trans hk4 fun _ _ e => e)
      clear hk4 y1
      go_wp2_with (fail)
      refine (WNum_nil sq w4).mono ?_
      rintro e5 w5 ⟨rfl, hk5⟩
      have HK5 := Lib.hid (HK4.out.trans hk5 fun _ _ e => e)
      clear hk5 z1
      go_wp2
      go_roundw
      case rel => exact ⟨k + 1, by go_num, by omega, HK5.out⟩
      case measure => simp [intOf]; omega
    · obtain rfl : k = L.length := by omega
      clear hn
      have HF := Lib.hid (HK2.out.trans HKN.out fun _ _ e => e)
      go_wp2
      go_end0
      exact ⟨rfl, HF.out⟩
set_option maxRecDepth 100000 in
theorem putI_nil (it is rt rs : Int) (text : ByteArray) (w : World) : Calls Try.prog 99 #[.agg #[.int .i64 it, .int .i64 is, .int .i64 rt, .int .i64 rs, .string text], .pointer none] w (NilPost w) := by
  have HK0 := Lib.hid ((Kept.refl (fun _ => False) w).alloc (.cells #[.int .i64 it, .int .i64 is, .int .i64 rt, .int .i64 rs, .string text] 114))
  have HB := Lib.hid (Box.new w 114 #[.int .i64 it, .int .i64 is, .int .i64 rt, .int .i64 rs, .string text])
  go_enter Try.func99, Try.ntmps99
  go_upto_region 1 with (fail)
  generalize w.alloc (.cells #[.int .i64 it, .int .i64 is, .int .i64 rt, .int .i64 rs, .string text] 114) = w0 at HK0 HB ⊢
  have b0 : w0.cell? ⟨w.heap.size, 0, none⟩ = some (.int .i64 it) := by simpa using HB.out.cell 0
  go_wp2_with (fail)
  refine (WNum_nil it w0).mono ?_
  rintro r w1 ⟨rfl, hk1⟩
  have HK1 := Lib.hid (HK0.out.trans hk1 fun _ _ e => e)
  have HB1 := Lib.hid (HB.out.kept hk1 id)
  have b2 : w1.cell? ⟨w.heap.size, 2, none⟩ = some (.int .i64 rt) := by simpa using HB1.out.cell 2
  clear hk1 b0
  go_wp2_with (fail)
  refine (WNum_nil rt w1).mono ?_
  rintro r w2 ⟨rfl, hk2⟩
  have HK2 := Lib.hid (HK1.out.trans hk2 fun _ _ e => e)
  have HB2 := Lib.hid (HB1.out.kept hk2 id)
  have b3 : w2.cell? ⟨w.heap.size, 3, none⟩ = some (.int .i64 rs) := by simpa using HB2.out.cell 3
  clear hk2 b2
  go_wp2_with (fail)
  refine (WNum_nil rs w2).mono ?_
  rintro r w3 ⟨rfl, hk3⟩
  have HK3 := Lib.hid (HK2.out.trans hk3 fun _ _ e => e)
  have HB3 := Lib.hid (HB2.out.kept hk3 id)
  have b4 : w3.cell? ⟨w.heap.size, 4, none⟩ = some (.string text) := by simpa using HB3.out.cell 4
  clear hk3 b3
  go_wp2_with (fail)
  refine (WTxt_nil text w3).mono ?_
  rintro r w4 ⟨rfl, hk4⟩
  have HK4 := Lib.hid (HK3.out.trans hk4 fun _ _ e => e)
  clear hk4 b4
  go_wp2_with (fail)
  go_end0
  exact ⟨rfl, HK4.out⟩
set_option maxRecDepth 100000 in
theorem putJ_nil (s : Int) (w : World) : Calls Try.prog 121 #[.agg #[.int .i64 s], .pointer none] w (NilPost w) := by
  have HK0 := Lib.hid ((Kept.refl (fun _ => False) w).alloc (.cells #[.int .i64 s] 118))
  have HB := Lib.hid (Box.new w 118 #[.int .i64 s])
  go_enter Try.func121, Try.ntmps121
  go_upto_region 1 with (fail)
  generalize w.alloc (.cells #[.int .i64 s] 118) = w0 at HK0 HB ⊢
  have b0 : w0.cell? ⟨w.heap.size, 0, none⟩ = some (.int .i64 s) := by simpa using HB.out.cell 0
  go_wp2_with (fail)
  refine (WNum_nil s w0).mono ?_
  rintro r w1 ⟨rfl, hk1⟩
  have HK1 := Lib.hid (HK0.out.trans hk1 fun _ _ e => e)
  clear hk1 b0
  go_wp2_with (fail)
  go_end0
  exact ⟨rfl, HK1.out⟩
set_option maxRecDepth 100000 in
theorem putL_nil (w : World) : Calls Try.prog 125 #[.agg #[], .pointer none] w (NilPost w) := by
  go_enter Try.func125, Try.ntmps125
  go_wp2_with (fail)
  go_end0
  exact ⟨rfl, by first | exact Kept.refl _ _ | exact (Kept.refl _ _).alloc _⟩
set_option maxRecDepth 100000 in
set_option maxHeartbeats 1600000 in
theorem putR_nil (A : Option Addr) (gone : List Rn) (c : Nat) (w : World) (hr : RunsAt w A gone) (hg : gone.length ≤ 1000000) :
    Calls Try.prog 111 #[.agg #[.slice A gone.length c], .pointer none] w (NilPost w) := by
  have hk0 : Kept (fun _ => False) w (w.alloc (.cells #[.slice A gone.length c] 116)) := (Kept.refl _ _).alloc _
  have HK0 := Lib.hid hk0
  have HB := Lib.hid (Box.new w 116 #[.slice A gone.length c])
  have HR := Lib.hid (hr.fresh hk0)
  clear hk0 hr
  go_enter Try.func111, Try.ntmps111
  go_upto_region 1 with (fail)
  generalize w.alloc (.cells #[.slice A gone.length c] 116) = w0 at HK0 HB HR ⊢
  have b0 : w0.cell? ⟨w.heap.size, 0, none⟩ = some (.slice A gone.length c) := by simpa using HB.out.cell 0
  go_wp2_with (fail)
  refine (WNum_nil gone.length w0).mono ?_
  rintro r w2 ⟨rfl, hk2⟩
  have HK2 := Lib.hid hk2
  have b1 : w2.cell? ⟨w.heap.size, 0, none⟩ = some (.slice A gone.length c) := by simpa using (HB.out.kept hk2 id).cell 0
  clear hk2 b0
  go_wp2_with (fail)
  go_loopw [14] (fun i wr => ∃ k : Nat, i = .int .i64 k ∧ k ≤ gone.length ∧ Kept (fun _ => False) w0 wr) (fun i _ => gone.length - (intOf i).toNat)
  case atStart => exact ⟨0, rfl, Nat.zero_le _, HK2.out⟩
  case round =>
    obtain ⟨k, rfl, hk, hw⟩ := hrel
    have HW := Lib.hid hw
    clear b1
    by_cases hlt : k < gone.length
    · obtain ⟨ad, rfl, x0, x1, x2⟩ := (HR.out.fresh hw) k hlt
      generalize gone[k] = q at x0 x1 x2
      obtain ⟨⟨t, s⟩, n⟩ := q
      simp only at x0 x1 x2
      have HX := Lib.hid (Box.new wr 32 #[.int .i64 t, .int .i64 s, .int .i64 n])
      have HKX := Lib.hid (hw.alloc (.cells #[.int .i64 t, .int .i64 s, .int .i64 n] 32))
      clear hw
      go_upto_region 5 with (fail)
      generalize wr.alloc (.cells #[.int .i64 t, .int .i64 s, .int .i64 n] 32) = w3 at HX HKX ⊢
      clear x0 x1 x2
      have y0 : w3.cell? ⟨wr.heap.size, 0, none⟩ = some (.int .i64 t) := by simpa using HX.out.cell 0
      go_wp2_with (fail)
      refine (WNum_nil t w3).mono ?_
      rintro r w4 ⟨rfl, hk4⟩
      have HK4 := Lib.hid (HKX.out.trans hk4 fun _ _ e => e)
      have HX4 := Lib.hid (HX.out.kept hk4 id)
      have y1 : w4.cell? ⟨wr.heap.size, 1, none⟩ = some (.int .i64 s) := by simpa using HX4.out.cell 1
      clear hk4 y0
      go_wp2_with (fail)
      refine (WNum_nil s w4).mono ?_
      rintro r w5 ⟨rfl, hk5⟩
      have HK5 := Lib.hid (HK4.out.trans hk5 fun _ _ e => e)
      have HX5 := Lib.hid (HX4.out.kept hk5 id)
      have y2 : w5.cell? ⟨wr.heap.size, 2, none⟩ = some (.int .i64 n) := by simpa using HX5.out.cell 2
      clear hk5 y1
      go_wp2_with (fail)
      refine (WNum_nil n w5).mono ?_
      rintro r w6 ⟨rfl, hk6⟩
      have HK6 := Lib.hid (HK5.out.trans hk6 fun _ _ e => e)
      clear hk6 y2
      go_wp2_with (fail)
      go_roundw
      case rel => exact ⟨k + 1, by go_num, by omega, HK6.out⟩
      case measure => simp [intOf]; omega
    · obtain rfl : k = gone.length := by omega
      have HF := Lib.hid (HK0.out.trans hw fun _ _ e => e)
      clear hw
      go_wp2_with (fail)
      go_end0
      exact ⟨rfl, HF.out⟩
set_option maxRecDepth 100000 in
set_option maxHeartbeats 3200000 in
theorem Put_nil_kind (x : Lop) (w : World) (T : TypeId) (v : Value) (K : Nat) (r : Value) (hx : x.At w) (hs : x.o.Small) (hok : okOp x.o = true)
    (HOF : Hid (∀ W, Calls Try.prog 45 #[.agg x.c] W (OfPost W (.iface T v))))
    (hm : ∀ W : World, (method 270 T v "hearsay/op.put").run Try.prog W = .ok (K, r) W) (hcf : ∀ (W : World) (a : Array Value), (callFunc K a).run Try.prog W = .ok (.enter K a) W)
    (HP : Hid (∀ W : World, x.At W → Calls Try.prog K #[r, .pointer none] W (NilPost W))) :
    Calls Try.prog 32 #[.pointer none, .agg x.c] w (NilPost w) := by
  have hk0 : Kept (fun _ => False) w (w.alloc (.cells x.c 30)) := (Kept.refl _ _).alloc _
  have HK0 := Lib.hid hk0
  have HC := Lib.hid (fun W h => show Calls Try.prog 15 #[.agg x.c] W (IntPost W 0) by have := Check_lop x W h hs; rwa [opE_ok hok] at this)
  have HB := Lib.hid (Box.new w 30 x.c)
  have HX := Lib.hid (hx.fresh hk0)
  have hdl := hs.dl
  obtain ⟨cs, hcs⟩ : ∃ cs, x.c = cs := ⟨_, rfl⟩
  have HSZ := Lib.hid (show cs.size = 11 by rw [← hcs]; rfl)
  have HC3 := Lib.hid (show cs[3]? = some (.int .i64 x.o.kind) by rw [← hcs]; rfl)
  have HC0 := Lib.hid (show cs[0]? = some (.int .i64 x.o.dot.site) by rw [← hcs]; rfl)
  have HC1 := Lib.hid (show cs[1]? = some (.int .i64 x.o.dot.seq) by rw [← hcs]; rfl)
  have HC2 := Lib.hid (show cs[2]? = some (.slice x.dA x.o.deps.length x.dc) by rw [← hcs]; rfl)
  rw [hcs] at HC HB HX HK0 HOF ⊢
  clear hx hs hok hk0 hcs
  go_enter Try.func32, Try.ntmps32
  go_upto_region 1 with (fail)
  generalize w.alloc (.cells cs 30) = w0 at HK0 HB HX ⊢
  go_wp2_with (refine wpList_load_op rfl _ rfl w.heap.size rfl _ cs HSZ.out HB.out ?_)
  refine (HC.out w0 HX.out).mono ?_
  unfold IntPost
  rintro r1 w1 ⟨rfl, hk1⟩
  have HK1 := Lib.hid hk1
  have b3 : w1.cell? ⟨w.heap.size, 3, none⟩ = some (.int .i64 x.o.kind) := ((HB.out.kept hk1 id).cell 3).trans HC3.out
  clear hk1 HC
  go_wp2_with (fail)
  refine (WNum_nil x.o.kind w1).mono ?_
  rintro r2 w2 ⟨rfl, hk2⟩
  have HK2 := Lib.hid (HK1.out.trans hk2 fun _ _ e => e)
  have b0 : w2.cell? ⟨w.heap.size, 0, none⟩ = some (.int .i64 x.o.dot.site) := ((HB.out.kept HK2.out id).cell 0).trans HC0.out
  clear hk2 b3
  go_wp2_with (fail)
  refine (WNum_nil x.o.dot.site w2).mono ?_
  rintro r2 w3 ⟨rfl, hk3⟩
  have HK3 := Lib.hid (HK2.out.trans hk3 fun _ _ e => e)
  have b1 : w3.cell? ⟨w.heap.size, 1, none⟩ = some (.int .i64 x.o.dot.seq) := ((HB.out.kept HK3.out id).cell 1).trans HC1.out
  clear hk3 b0
  go_wp2_with (fail)
  refine (WNum_nil x.o.dot.seq w3).mono ?_
  rintro r2 w4 ⟨rfl, hk4⟩
  have HK4 := Lib.hid (HK3.out.trans hk4 fun _ _ e => e)
  have b2 : w4.cell? ⟨w.heap.size, 2, none⟩ = some (.slice x.dA x.o.deps.length x.dc) := ((HB.out.kept HK4.out id).cell 2).trans HC2.out
  clear hk4 b1
  go_wp2_with (fail)
  refine (VPut_nil x.dA x.o.deps x.dc w4 (HX.out.fresh HK4.out).d (by omega)).mono ?_
  rintro r2 w5 ⟨rfl, hk5⟩
  have HK5 := Lib.hid (HK4.out.trans hk5 fun _ _ e => e)
  have HB5 := Lib.hid (HB.out.kept HK5.out id)
  clear hk5 b2
  go_wp2_with (refine wpList_load_op rfl _ rfl w.heap.size rfl _ cs HSZ.out HB5.out ?_)
  refine (HOF.out w5).mono ?_
  unfold OfPost
  rintro r2 w6 ⟨rfl, hk6⟩
  have HK6 := Lib.hid (HK5.out.trans hk6 fun _ _ e => e)
  have hcall := HP.out w6 (HX.out.fresh HK6.out)
  clear hk6 HB5
  go_wp2_with (fail)
  refine hcall.mono ?_
  rintro r3 w7 ⟨rfl, hk7⟩
  have HK7 := Lib.hid (HK0.out.trans (HK6.out.trans hk7 fun _ _ e => e) fun _ _ e => e)
  clear hk7 hcall
  go_wp2_with (fail)
  go_end0
  exact ⟨rfl, HK7.out⟩
set_option maxRecDepth 100000 in
set_option maxHeartbeats 1600000 in
theorem Put_nil_no (x : Lop) (w : World) (hx : x.At w) (hs : x.o.Small) (hok : okOp x.o = false) : Calls Try.prog 32 #[.pointer none, .agg x.c] w (NilPost w) := by
  have hk0 : Kept (fun _ => False) w (w.alloc (.cells x.c 30)) := (Kept.refl _ _).alloc _
  have HK0 := Lib.hid hk0
  have HC := Lib.hid (fun W h => show Calls Try.prog 15 #[.agg x.c] W (IntPost W 10) by have := Check_lop x W h hs; rwa [opE_no hok] at this)
  have HB := Lib.hid (Box.new w 30 x.c)
  have HX := Lib.hid (hx.fresh hk0)
  obtain ⟨cs, hcs⟩ : ∃ cs, x.c = cs := ⟨_, rfl⟩
  have HSZ := Lib.hid (show cs.size = 11 by rw [← hcs]; rfl)
  rw [hcs] at HC HB HX HK0 ⊢
  clear hx hs hok hk0 hcs
  go_enter Try.func32, Try.ntmps32
  go_upto_region 1 with (fail)
  generalize w.alloc (.cells cs 30) = w0 at HK0 HB HX ⊢
  go_wp2_with (refine wpList_load_op rfl _ rfl w.heap.size rfl _ cs HSZ.out HB.out ?_)
  refine (HC.out w0 HX.out).mono ?_
  unfold IntPost
  rintro r1 w1 ⟨rfl, hk1⟩
  have HK1 := Lib.hid (HK0.out.trans hk1 fun _ _ e => e)
  clear hk1 HC
  go_wp2_with (fail)
  go_end0
  exact ⟨rfl, HK1.out⟩
theorem OpPut_nil (x : Lop) (w : World) (hx : x.At w) (hs : x.o.Small) : Calls Try.prog 32 #[.pointer none, .agg x.c] w (NilPost w) := by
  cases hok : okOp x.o with
  | false => exact Put_nil_no x w hx hs hok
  | true =>
    have hf := okOp_f hok
    have hof := fun W => opof_any x.o x.dA x.gA x.dc x.gc W
    unfold ofV at hof
    rcases hf.kd with ⟨k1, -⟩ | ⟨k2, -⟩ | ⟨k3, -⟩ | ⟨k4, -⟩
    · simp only [if_pos k1] at hof
      exact Put_nil_kind x w _ _ 99 (.agg #[.int .i64 x.o.id.time, .int .i64 x.o.id.site, .int .i64 x.o.ref.time, .int .i64 x.o.ref.site, .string x.o.text]) hx hs hok (Lib.hid hof) (fun _ => by kernel_rfl) (fun _ _ => by kernel_rfl) (Lib.hid fun W _ => putI_nil _ _ _ _ _ W)
    · simp only [k2, if_true, if_neg (show ¬ (2 : Int) = 1 by decide)] at hof
      exact Put_nil_kind x w _ _ 111 (.agg #[.slice x.gA x.o.gone.length x.gc]) hx hs hok (Lib.hid hof) (fun _ => by kernel_rfl) (fun _ _ => by kernel_rfl) (Lib.hid fun W h => putR_nil _ _ _ W h.g hs.gl)
    · simp only [k3, if_true, if_neg (show ¬ (3 : Int) = 1 by decide), if_neg (show ¬ (3 : Int) = 2 by decide)] at hof
      exact Put_nil_kind x w _ _ 121 (.agg #[.int .i64 x.o.site]) hx hs hok (Lib.hid hof) (fun _ => by kernel_rfl) (fun _ _ => by kernel_rfl) (Lib.hid fun W _ => putJ_nil _ W)
    · simp only [k4, if_true, if_neg (show ¬ (4 : Int) = 1 by decide), if_neg (show ¬ (4 : Int) = 2 by decide), if_neg (show ¬ (4 : Int) = 3 by decide)] at hof
      exact Put_nil_kind x w _ _ 125 (.agg #[]) hx hs hok (Lib.hid hof) (fun _ => by kernel_rfl) (fun _ _ => by kernel_rfl) (Lib.hid fun W _ => putL_nil W)
end Go.Proofs.Ytnlklhlnnoihiaa

namespace Go.Proofs.Ytnlklhlnnoihiaa
open Go Go.RowKit

theorem decO_err {b : List Int} (h : (decO b).1 ≠ 0) : (decO b).2 = zeroO := by
  unfold decO at h ⊢
  split
  · rfl
  · rename_i h1
    rw [if_neg h1] at h
    split
    · rfl
    · rename_i h2
      rw [if_neg h2] at h
      exact absurd rfl h
theorem decO_more {o : Opr} (hok : okOp o = true) (hs : o.Small) {t : List Int} : (decO (encOp o ++ t)).1 = 0 ↔ t = [] := by
  unfold decO
  rw [takeO_enc hok hs t]
  simp only [ne_eq, not_true_eq_false, if_false]
  split
  · rename_i h
    constructor
    · intro e; simp at e
    · intro e; rw [e] at h; simp at h
  · rename_i h
    exact ⟨fun _ => List.eq_nil_of_length_eq_zero (by omega), fun _ => rfl⟩
theorem decO_cut {b : List Int} (hb : isByte b) (hl : b.length ≤ 1000000) {o : Opr} (h : decO b = (0, o)) {k : Nat} (hk : k < b.length) : (decO (b.take k)).1 ≠ 0 := by
  intro e
  obtain ⟨h1, h2, h3⟩ := decO_inv hb hl h
  rcases hd : decO (b.take k) with ⟨e', o'⟩
  rw [hd] at e
  simp only at e
  subst e
  obtain ⟨g1, g2, g3⟩ := decO_inv (fun x hx => hb x (List.mem_of_mem_take hx)) (by rw [List.length_take]; omega) hd
  have := enc_begins g2 h2 g3 h3 (t := b.drop k) (by rw [← g1, ← h1, List.take_append_drop])
  subst this
  rw [← h1] at g1
  have := congrArg List.length g1
  rw [List.length_take] at this
  omega
theorem DecB_any (A : Option Addr) (b : List Int) (c : Nat) (w : World) (hb : BytesAt w A b) (hlen : b.length ≤ 1000000) (hby : isByte b) : Calls Try.prog 20 #[.slice A b.length c] w (DecS w (decO b)) := by
  refine (OpDecode_any A b c w hb (fun e => ?_) (by omega) hby (fun h => takeR_small hby hlen h)).mono fun r w' h => ?_
  · subst e
    rcases Nat.eq_zero_or_pos b.length with h0 | h0
    · exact List.eq_nil_of_length_eq_zero h0
    · obtain ⟨ad, e, _⟩ := hb 0 h0
      cases e
  · obtain ⟨dA, dc, gA, gc, rfl, hd, hg, hk⟩ := h
    exact ⟨⟨(decO b).2, dA, dc, gA, (decO b).2.gone.length⟩, gc, rfl, rfl, ⟨DotsAt.of_own hd, RunsAt.of_own hg⟩, rfl, hd, hg, hk⟩
theorem own_emptyB (w : World) : (w.alloc (.cells #[] 5)).ownsRow w.heap.size 5 1 (.slice (some ⟨w.heap.size, 0, none⟩) 0 0) 0 [] := ⟨rfl, .inr ⟨w.heap.size, 0, #[], rfl, Nat.le_refl _, heap_alloc_new w _, Nat.le_refl _, by decide, rfl, rfl⟩⟩
theorem BytesAt.srcs {w : World} {A : Option Addr} {l : List Int} (h : BytesAt w A l) : ∀ j u, (bys l)[j]? = some u → ∃ ad, A = some ad ∧ w.cell? (ad.add j) = some u := fun j u hj => by
  have hl : j < l.length := by
    have := (List.getElem?_eq_some_iff.1 hj).1
    rwa [bys_len] at this
  obtain ⟨ad, rfl, hc⟩ := h j hl
  refine ⟨ad, rfl, ?_⟩
  rw [hc, ← bys_get l j hl, hj]
theorem BytesAt.nilness {w : World} {A : Option Addr} {l : List Int} {c : Nat} (h : BytesAt w A l) (hc : A = none → c = 0) : A = none → l.length = 0 ∧ c = 0 := by
  rintro rfl
  refine ⟨?_, hc rfl⟩
  rcases Nat.eq_zero_or_pos l.length with h0 | h0
  · exact h0
  · obtain ⟨ad, e, _⟩ := h 0 h0
    cases e
def zeroL : Lop := ⟨zeroO, none, 0, none, 0⟩
theorem zeroL_at (w : World) : zeroL.At w := ⟨DotsAt.nil, RunsAt.nil⟩
theorem bys_join (l m : List Int) : bys l ++ bys m = bys (l ++ m) := by simp [bys]
set_option maxRecDepth 100000 in
set_option maxHeartbeats 3200000 in
theorem Form_walk (A : Option Addr) (b : List Int) (c : Nat) (cut : Int) (B : Option Addr) (m : List Int) (d : Nat) (w : World) (hb : BytesAt w A b) (hm : BytesAt w B m) (hby : isByte b) (hmy : isByte m) (hbc : b.length ≤ c) (hbn : A = none → c = 0) (hmn : B = none → d = 0) :
    Calls Try.prog 7 #[.slice A b.length c, .int .i64 cut, .slice B m.length d] w (KnownPost w) := by
  have HB := Lib.hid hb
  have HM := Lib.hid hm
  have HBY := Lib.hid hby
  have HMY := Lib.hid hmy
  have HBN := Lib.hid hbn
  have HMN := Lib.hid hmn
  have HK0 := Lib.hid (Kept.refl (fun _ => False) w)
  clear hb hm hby hmy hbn hmn
  by_cases h1 : 60000 < b.length
  · have h1' : (60000 : Int) < (b.length : Int) := by omega
    go_enter Try.func7, Try.ntmps7
    go_wp2_with (fail)
    refine (Known8_any w).mono ?_
    rintro r k1 ⟨rfl, hk⟩
    have HK1 := Lib.hid (HK0.out.trans hk fun _ _ e => e)
    clear hk
    go_wp2_with (fail)
    go_ret
    exact ⟨rfl, HK1.out⟩
  have h1' : ¬ (60000 : Int) < (b.length : Int) := by omega
  by_cases h2 : 60000 < m.length
  · have h2' : (60000 : Int) < (m.length : Int) := by omega
    go_enter Try.func7, Try.ntmps7
    go_wp2_with (fail)
    refine (Known8_any w).mono ?_
    rintro r k1 ⟨rfl, hk⟩
    have HK1 := Lib.hid (HK0.out.trans hk fun _ _ e => e)
    clear hk
    go_wp2_with (fail)
    go_ret
    exact ⟨rfl, HK1.out⟩
  have h2' : ¬ (60000 : Int) < (m.length : Int) := by omega
  obtain ⟨er, o, hdec⟩ : ∃ er o, decO b = (er, o) := ⟨_, _, rfl⟩
  have HDC := Lib.hid hdec
  have HD1 := Lib.hid (fun W (h : BytesAt W A b) => DecB_any A b c W h (by omega) HBY.out)
  rw [hdec] at HD1
  clear hdec
  go_enter Try.func7, Try.ntmps7
  go_wp2_with (fail)
  refine (HD1.out w HB.out).mono ?_
  rintro r w1 ⟨z, gc, rfl, hzo, hz, -, -, -, hk⟩
  have HK1 := Lib.hid hk
  have HB1 := Lib.hid (HB.out.fresh hk)
  have HM1 := Lib.hid (HM.out.fresh hk)
  have HZO := Lib.hid hzo
  have HZL := Lib.hid hz
  have HSZ := Lib.hid (show z.c.size = 11 from rfl)
  have HON := Lib.hid (show z.c.all (·.oneCell') = true from Opr.cells_one _ _ _ _ _)
  obtain ⟨zs, hzs⟩ : ∃ zs, z.c = zs := ⟨_, rfl⟩
  have HZS := Lib.hid hzs
  rw [hzs] at HSZ HON ⊢
  clear hk hzo hz hzs HD1 HB HM HK0
  have hka : Kept (fun _ => False) w1 (w1.alloc (.cells zeroC 30)) := (Kept.refl _ _).alloc _
  have HBX := Lib.hid (Box.new w1 30 zeroC)
  go_wp2_with (refine wpList_store_box rfl 30 _ _ rfl w1.heap.size zs rfl rfl 30 zeroC HBX.out (by rw [HSZ.out]; exact size_op) HSZ.out.symm HON.out ?_; intro w2 HX2 hk2; refine Hid.out ?_)
  refine Lib.hid ?_
  have hk12 : Kept (fun _ => False) w1 w2 := hka.trans hk2 fun k hk e => by omega
  have HK2 := Lib.hid (HK1.out.trans hk12 fun _ _ e => e)
  have HB2 := Lib.hid (HB1.out.fresh hk12)
  have HM2 := Lib.hid (HM1.out.fresh hk12)
  have HL2 := Lib.hid (HZL.out.fresh hk12)
  obtain ⟨N, hN⟩ : ∃ N, w1.heap.size = N := ⟨_, rfl⟩
  rw [hN] at HX2 ⊢
  clear hka hk2 hk12 HBX HK1 HB1 HM1 HZL hN
  by_cases her : er = 0
  · subst her
    have HIV := Lib.hid (decO_inv HBY.out (by omega) HDC.out)
    have HZS1 := Lib.hid (show z.o.Small by rw [HZO.out]; exact HIV.out.2.2)
    have HZK := Lib.hid (show okOp z.o = true by rw [HZO.out]; exact HIV.out.2.1)
    have HZB := Lib.hid (show encL z.o = b by rw [encL_ok HZK.out, HZO.out]; exact HIV.out.1.symm)
    have hpos : 0 < b.length := by rw [HIV.out.1]; exact encOp_pos _
    obtain ⟨ad, hA, -⟩ := HB2.out 0 hpos
    subst hA
    have HE := Lib.hid (fun W h => EncS_any z W h HZS1.out)
    have HC := Lib.hid (fun W h => show Calls Try.prog _ #[.agg z.c] W (IntPost W 0) by have := Check_lop z W h HZS1.out; rwa [opE_ok HZK.out] at this)
    rw [HZS.out] at HE HC
    unfold EncS at HE
    rw [HZB.out, opE_ok HZK.out] at HE
    go_wp2_with (refine wpList_load_op rfl _ rfl N rfl _ zs HSZ.out HX2.out ?_)
    refine (HE.out w2 HL2.out).mono ?_
    rintro r w3 ⟨E, e, rfl, hbe, -, hk⟩
    have HBE := Lib.hid (hbe.b)
    have HK3 := Lib.hid (HK2.out.trans hk fun _ _ e => e)
    have HB3 := Lib.hid (HB2.out.fresh hk)
    have HM3 := Lib.hid (HM2.out.fresh hk)
    have HL3 := Lib.hid (HL2.out.fresh hk)
    have HX3 := Lib.hid (HX2.out.kept hk id)
    clear hbe hk HE HK2 HB2 HM2 HL2 HX2
    go_wp2_with (fail)
    refine (Bytes8_any (some ad) E b b c e w3 HB3.out HBE.out (by omega)).mono ?_
    rw [decide_eq_true rfl]
    unfold SamePost
    rintro r w4 ⟨rfl, hk⟩
    have HK4 := Lib.hid (HK3.out.trans hk fun _ _ e => e)
    have HB4 := Lib.hid (HB3.out.fresh hk)
    have HM4 := Lib.hid (HM3.out.fresh hk)
    have HL4 := Lib.hid (HL3.out.fresh hk)
    have HX4 := Lib.hid (HX3.out.kept hk id)
    clear hk HBE HK3 HB3 HM3 HL3 HX3
    go_wp2_with (refine wpList_unguard rfl ?_; refine wpList_load_op rfl _ rfl N rfl _ zs HSZ.out HX4.out ?_)
    refine (HC.out w4 HL4.out).mono ?_
    unfold IntPost
    rintro r w5 ⟨rfl, hk⟩
    have HK5 := Lib.hid (HK4.out.trans hk fun _ _ e => e)
    have HB5 := Lib.hid (HB4.out.fresh hk)
    have HM5 := Lib.hid (HM4.out.fresh hk)
    clear hk HC HK4 HB4 HM4 HL4 HX4
    have hne : ¬ b = [] := fun e => by rw [e] at hpos; simp at hpos
    have hr1 := Int.tmod_lt_of_pos cut (show (0 : Int) < (b.length : Int) by omega)
    have hr2 := Int.lt_tmod_of_pos cut (show (0 : Int) < (b.length : Int) by omega)
    obtain ⟨rm, hrm⟩ : ∃ rm, cut.tmod (b.length : Int) = rm := ⟨_, rfl⟩
    rw [hrm] at hr1 hr2
    go_upto_if 60 with (fail)
    clear hrm
    go_cut [1] (fun v wx => (∃ k : Nat, v = .int .i64 k ∧ k < b.length) ∧ w5 = wx)
    case first =>
      by_cases hneg : rm < 0
      · obtain ⟨j, hj⟩ : ∃ j : Nat, rm + (b.length : Int) = j := ⟨(rm + b.length).toNat, by omega⟩
        have hw : IntKind.i64.wrap (rm + (b.length : Int)) = (j : Int) := by rw [hj]; exact IntWalk.i64_in _ ⟨by omega, by omega⟩
        go_wp2
        go_meet
        case rel => exact ⟨⟨j, rfl, by omega⟩, rfl⟩
      · obtain ⟨j, rfl⟩ : ∃ j : Nat, rm = j := ⟨rm.toNat, by omega⟩
        go_wp2
        go_meet
        case rel => exact ⟨⟨j, rfl, by omega⟩, rfl⟩
    case rest =>
    obtain ⟨⟨k, rfl, hkl⟩, rfl⟩ := hcut
    clear hr1 hr2
    have HTK := Lib.hid (show BytesAt w5 (some ad) (b.take k) from fun j hj => by rw [List.length_take] at hj; rw [List.getElem_take]; exact HB5.out j (by omega))
    have HTN := Lib.hid (decO_cut HBY.out (by omega) HDC.out hkl)
    have HD2 := Lib.hid (DecB_any (some ad) (b.take k) c w5 HTK.out (by rw [List.length_take]; omega) fun x hx => HBY.out x (List.mem_of_mem_take hx))
    rw [show (b.take k).length = k by rw [List.length_take]; omega] at HD2
    obtain ⟨e2, o2, hd2⟩ : ∃ e2 o2, decO (b.take k) = (e2, o2) := ⟨_, _, rfl⟩
    rw [hd2] at HD2 HTN
    have he2 : ¬ e2 = 0 := HTN.out
    have hkc : k ≤ c := by omega
    clear HTK HTN hd2
    go_wp2_with (fail)
    refine HD2.out.mono ?_
    rintro r w6 ⟨z2, gc2, rfl, -, -, -, -, -, hk⟩
    have HK6 := Lib.hid (HK5.out.trans hk fun _ _ e => e)
    have HB6 := Lib.hid (HB5.out.fresh hk)
    have HM6 := Lib.hid (HM5.out.fresh hk)
    generalize z2.c = zs2
    have hke : Kept (fun _ => False) w6 (w6.alloc (.cells #[] 5)) := (Kept.refl _ _).alloc _
    have HEM := Lib.hid (own_emptyB w6)
    have HBE := Lib.hid (HB6.out.fresh hke)
    clear hk HD2 HK5 HB5 HM5
    go_wp2_with (at_builtin; refine wpList_append_kit eltBytes rfl _ _ rfl w6.heap.size _ 0 [] rfl HEM.out (some ad) b.length c (bys b) rfl (fun e => by cases e) (by rw [bys_len]; omega) HBE.out.srcs (bys_one b) (by omega) (by simp) ?_)
    intro A1 c1 w7 HO7 HK7 _
    have hk7 : Kept (fun _ => False) w6 w7 := hke.trans HK7.out fun k hk e => absurd (show w6.heap.size = k by simpa [Value.ownBlock] using e) (by omega)
    have hs7 := hk7.size
    have HM7 := Lib.hid (HM6.out.fresh hk7)
    have HNM := Lib.hid (HM7.out.nilness HMN.out)
    go_wp2_with (at_builtin; refine wpList_append_kit eltBytes rfl _ _ rfl w6.heap.size _ b.length (bys b) rfl HO7.out B m.length d (bys m) rfl HNM.out (by rw [bys_len]; omega) HM7.out.srcs (bys_one m) (by omega) hs7 ?_)
    intro A2 c2 w8 HO8 HK8 _
    have hk8 : Kept (fun _ => False) w6 w8 := hk7.trans HK8.out fun k hk e => by have := (HO7.out.lt k e).1; omega
    have HK9 := Lib.hid (HK6.out.trans hk8 fun _ _ e => e)
    have HO9 := Lib.hid (show w8.ownsRow w6.heap.size 5 1 (.slice A2 (b ++ m).length c2) (b ++ m).length (bys (b ++ m)) by rw [← bys_join, List.length_append]; exact HO8.out)
    have HD3 := Lib.hid (DecB_any A2 (b ++ m) c2 w8 (BytesAt.of_own HO9.out) (by rw [List.length_append]; omega) (isByte_app HBY.out HMY.out))
    have HE3 := Lib.hid (show (decO (b ++ m)).1 = 0 ↔ m = [] by have := decO_more (t := m) HIV.out.2.1 HIV.out.2.2; rwa [← HIV.out.1] at this)
    obtain ⟨e3, o3, hd3⟩ : ∃ e3 o3, decO (b ++ m) = (e3, o3) := ⟨_, _, rfl⟩
    rw [hd3] at HD3 HE3
    rw [List.length_append] at HD3
    have he3 : e3 = 0 ↔ m = [] := HE3.out
    clear hd3 HE3 hk7 hk8 hke HO7 HO8 HK7 HK8 HM7 HNM HEM HBE HB6 HM6 HK6
    go_wp2_with (fail)
    refine HD3.out.mono ?_
    rintro r w9 ⟨z3, gc3, rfl, -, -, -, -, -, hk⟩
    have HK10 := Lib.hid (HK9.out.trans hk fun _ _ e => e)
    generalize z3.c = zs3
    clear hk HD3 HK9
    by_cases hmm : m = []
    · obtain rfl := he3.2 hmm
      subst hmm
      clear he3
      go_wp2_with (fail)
      refine (Known8_any w9).mono ?_
      rintro r k2 ⟨rfl, hk⟩
      have HK11 := Lib.hid (HK10.out.trans hk fun _ _ e => e)
      clear hk
      go_wp2_with (fail)
      go_ret
      exact ⟨rfl, HK11.out⟩
    · have he4 : ¬ e3 = 0 := fun e => hmm (he3.1 e)
      have hml : 0 < m.length := List.length_pos_iff.2 hmm
      have hb1 : ((m.length : Int) == 0) = false := by simpa using hmm
      have hb2 : (e3 == 0) = false := by simpa using he4
      clear he3
      go_wp2_with (fail)
      refine (Known8_any w9).mono ?_
      rintro r k2 ⟨rfl, hk⟩
      have HK11 := Lib.hid (HK10.out.trans hk fun _ _ e => e)
      clear hk
      go_wp2_with (fail)
      go_ret
      exact ⟨rfl, HK11.out⟩
  · have HZZ := Lib.hid (show z.o = zeroO by rw [HZO.out]; have h := decO_err (b := b) (by rw [HDC.out]; exact her); rwa [HDC.out] at h)
    have hcall0 := fun W h => Same8_any z zeroL W h (zeroL_at W) (by rw [HZZ.out]; decide) (by rw [HZZ.out]; decide)
    rw [HZS.out] at hcall0
    have HSM := Lib.hid hcall0
    clear hcall0
    go_wp2_with (refine wpList_load_op rfl _ rfl N rfl _ zs HSZ.out HX2.out ?_)
    refine (HSM.out w2 HL2.out).mono ?_
    rintro r w3 ⟨bb, rfl, hbb, hk⟩
    obtain rfl : bb = true := hbb.2 HZZ.out
    have HK3 := Lib.hid (HK2.out.trans hk fun _ _ e => e)
    clear hk hbb HSM
    go_wp2_with (fail)
    refine (Known8_any w3).mono ?_
    rintro r k3 ⟨rfl, hk⟩
    have HK4 := Lib.hid (HK3.out.trans hk fun _ _ e => e)
    clear hk
    go_wp2_with (fail)
    go_ret
    exact ⟨rfl, HK4.out⟩
end Go.Proofs.Ytnlklhlnnoihiaa

namespace Go.Proofs.Ytnlklhlnnoihiaa
open Go Go.RowKit

def TakeS (w : World) (d g : Nat) (x : Int × Opr × Rd) (r : Ending) (w' : World) : Prop := ∃ (y : Lop) (gc : Nat), r = .returned (.tuple #[.agg y.c, .int .i64 x.1]) ∧ y.o = x.2.1 ∧ y.At w' ∧ y.gc = y.o.gone.length ∧
  w'.ownsRow w.heap.size 23 2 y.dV y.o.deps.length (dots y.o.deps) ∧ w'.ownsRow w.heap.size 32 3 (.slice y.gA y.o.gone.length gc) y.o.gone.length (runs y.o.gone) ∧ Kept (fun k => k = g) w w' ∧ RdAt w' d g x.2.2
theorem TakeS_any (d g : Nat) (s : Rd) (w : World) (h : RdAt w d g s) (hsm : (takeR s).1 = 0 → (takeR s).2.1.Small) : Calls Try.prog 26 #[.pointer (some ⟨g, 0, none⟩)] w (TakeS w d g (takeO s)) := by
  refine (OpTake_any d g s w h hsm).mono fun r w' h => ?_
  obtain ⟨dA, dc, gA, gc, rfl, hd, hg, hk, hr⟩ := h
  exact ⟨⟨(takeO s).2.1, dA, dc, gA, (takeO s).2.1.gone.length⟩, gc, rfl, rfl, ⟨DotsAt.of_own hd, RunsAt.of_own hg⟩, rfl, hd, hg, hk, hr⟩
def bad2 : List Int := [128, 0]
theorem bad2_nx : (⟨bad2, 0⟩ : Rd).nx = ⟨bad2, 6⟩ := by kernel_rfl
theorem bad2_val : (⟨bad2, 0⟩ : Rd).val = 0 := by kernel_rfl
theorem bad2_take : takeO ⟨bad2, 6⟩ = (6, zeroO, ⟨bad2, 6⟩) := by kernel_rfl
theorem bad2_takeR : (takeR ⟨bad2, 6⟩).1 = 6 := by kernel_rfl
set_option maxRecDepth 100000 in
set_option maxHeartbeats 3200000 in
theorem Nothing_walk (x : Lop) (w : World) (hx : x.At w) (hc : ∀ r ∈ x.o.gone, inI r.count) : Calls Try.prog 5 #[.agg x.c] w (KnownPost w) := by
  have hk0 : Kept (fun _ => False) w (w.alloc (.cells x.c 30)) := (Kept.refl _ _).alloc _
  have HK := Lib.hid hk0
  have HX := Lib.hid (hx.fresh hk0)
  have HB0 := Lib.hid (Box.new w 30 x.c)
  have HC := Lib.hid hc
  have HLG := Lib.hid (fun W => Long_any x W)
  have HPN := Lib.hid (fun W (h1 : x.At W) (h2 : x.o.Small) => OpPut_nil x W h1 h2)
  obtain ⟨cs, hcs⟩ : ∃ cs, x.c = cs := ⟨_, rfl⟩
  have HSX := Lib.hid (show cs.size = 11 by rw [← hcs]; rfl)
  rw [hcs] at HK HX HB0 HLG HPN ⊢
  clear hk0 hx hc hcs
  go_enter Try.func5, Try.ntmps5
  go_upto_region 1 with (fail)
  generalize w.alloc (.cells cs 30) = w0 at HK HX HB0 ⊢
  go_wp2_with (refine wpList_load_op rfl _ rfl w.heap.size rfl _ cs HSX.out HB0.out ?_)
  refine (HLG.out w0).mono ?_
  cases hl : isLong x.o with
  | true =>
    rintro r w1 ⟨rfl, hk⟩
    have HK1 := Lib.hid (HK.out.trans hk fun _ _ e => e)
    clear hk
    go_wp2_with (fail)
    refine (Known8_any w1).mono ?_
    rintro r k1 ⟨rfl, hk⟩
    have HK2 := Lib.hid (HK1.out.trans hk fun _ _ e => e)
    clear hk
    go_wp2_with (fail)
    go_ret
    exact ⟨rfl, HK2.out⟩
  | false =>
    rintro r w1 ⟨rfl, hk⟩
    have HSM := Lib.hid (show x.o.Small from by
      have := of_decide_eq_false hl
      exact ⟨HC.out, by omega, by omega, by omega⟩)
    have HK1 := Lib.hid (HK.out.trans hk fun _ _ e => e)
    have HX1 := Lib.hid (HX.out.fresh hk)
    have HB1 := Lib.hid (HB0.out.kept hk id)
    clear hk hl HK HX HB0 HLG
    go_wp2_with (refine wpList_load_op rfl _ rfl w.heap.size rfl _ cs HSX.out HB1.out ?_)
    refine (HPN.out w1 HX1.out HSM.out).mono ?_
    rintro r w2 ⟨rfl, hk⟩
    have HK2 := Lib.hid (HK1.out.trans hk fun _ _ e => e)
    clear hk HK1 HX1 HB1 HPN
    go_wp2_with (fail)
    refine (OpTake_nil w2).mono ?_
    rintro r w3 ⟨rfl, hk⟩
    have HK3 := Lib.hid (HK2.out.trans hk fun _ _ e => e)
    clear hk HK2
    have hka : Kept (fun _ => False) w3 (w3.alloc (.cells zeroC 30)) := (Kept.refl _ _).alloc _
    have HBX := Lib.hid (Box.new w3 30 zeroC)
    have HZC := Lib.hid (show zeroC.all (·.oneCell') = true from Opr.cells_one zeroO none 0 none 0)
    obtain ⟨zs, hzs⟩ : ∃ zs, zeroC = zs := ⟨_, rfl⟩
    have HZS := Lib.hid hzs
    have HSZ := Lib.hid (show zs.size = 11 by rw [← hzs]; rfl)
    have HZB := Lib.hid (show Try.prog.info? 30 = Try.prog.info? 30 from rfl)
    rw [show (Value.agg zeroC) = .agg zs by rw [hzs]]
    rw [hzs] at HZC
    have HBZ := Lib.hid (show Box (w3.alloc (.cells zeroC 30)) w3.heap.size 30 zeroC from HBX.out)
    clear HBX HZB hzs
    go_wp2_with (refine wpList_store_box rfl 30 _ _ rfl w3.heap.size zs rfl rfl 30 zeroC HBZ.out (by rw [HSZ.out]; exact size_op) HSZ.out.symm HZC.out ?_; intro w4 HX4 hk4; refine Hid.out ?_)
    refine Lib.hid ?_
    have hk34 : Kept (fun _ => False) w3 w4 := hka.trans hk4 fun k hk e => by omega
    have HK4 := Lib.hid (HK3.out.trans hk34 fun _ _ e => e)
    obtain ⟨N, hN⟩ : ∃ N, w3.heap.size = N := ⟨_, rfl⟩
    rw [hN] at HX4 ⊢
    clear hka hk4 hk34 HBZ HK3 hN
    go_upto_region 7 with (fail)
    have hkb : Kept (fun _ => False) w4 (w4.alloc (.cells #[.int .u8 128, .int .u8 0] 5)) := (Kept.refl _ _).alloc _
    have HBB := Lib.hid (show BytesAt (w4.alloc (.cells #[.int .u8 128, .int .u8 0] 5)) (some ⟨w4.heap.size, 0, none⟩) bad2 from bytes_box (l := bad2) (Box.new w4 5 #[.int .u8 128, .int .u8 0]))
    have HK5 := Lib.hid (HK4.out.trans hkb fun _ _ e => e)
    have HX5 := Lib.hid (HX4.out.kept hkb id)
    clear hkb HK4 HX4
    go_wp2_with (fail)
    refine (Read_any (some ⟨w4.heap.size, 0, none⟩) bad2 2 _ HBB.out (fun e => by cases e) (by decide)).mono ?_
    rintro r w6 ⟨d, g, rfl, hr, ⟨hd, hg⟩, hk⟩
    have HR6 := Lib.hid (show RdAt w6 d g ⟨bad2, 0⟩ from ⟨hr, by intro b hb; simp [bad2] at hb; omega⟩)
    have HK6 := Lib.hid (HK5.out.trans hk fun _ _ e => e)
    have HX6 := Lib.hid (HX5.out.kept hk id)
    have hNg : N < g := Nat.lt_of_lt_of_le HX5.out.lt hg
    have hwg : w.heap.size ≤ g := Nat.le_trans HK5.out.size hg
    clear hr hd hg hk HBB HK5 HX5
    go_wp2_with (fail)
    refine (RNum_any d g ⟨bad2, 0⟩ w6 HR6.out).mono ?_
    rw [show RdPost w6 d g ⟨bad2, 0⟩ = fun r w' => r = .returned (.int .i64 0) ∧ Kept (fun k => k = g) w6 w' ∧ RdAt w' d g ⟨bad2, 6⟩ from by unfold RdPost; rw [bad2_nx, bad2_val]; rfl]
    rintro r w7 ⟨rfl, hk, hr⟩
    have HR7 := Lib.hid hr
    have HK7 := Lib.hid (HK6.out.trans hk fun k hk e => by omega)
    have HX7 := Lib.hid (HX6.out.kept hk (by omega))
    clear hr hk HR6 HK6 HX6
    go_wp2_with (fail)
    have hcall := TakeS_any d g ⟨bad2, 6⟩ w7 HR7.out (fun e => by rw [bad2_takeR] at e; cases e)
    rw [bad2_take] at hcall
    refine hcall.mono ?_
    rintro r w8 ⟨y, gc, rfl, hyo, hy, -, -, -, hk, hr⟩
    have HR8 := Lib.hid hr
    have HY8 := Lib.hid hy
    have HYO := Lib.hid hyo
    have HK8 := Lib.hid (HK7.out.trans hk fun k hk e => by omega)
    have HX8 := Lib.hid (HX7.out.kept hk (by omega))
    have HSY := Lib.hid (show y.c.size = 11 from rfl)
    have HON := Lib.hid (show y.c.all (·.oneCell') = true from Opr.cells_one _ _ _ _ _)
    obtain ⟨ys, hys⟩ : ∃ ys, y.c = ys := ⟨_, rfl⟩
    have HYS := Lib.hid hys
    rw [hys] at HSY HON ⊢
    clear hr hy hyo hk hcall hys HR7 HK7 HX7
    have hka : Kept (fun _ => False) w8 (w8.alloc (.cells zeroC 30)) := (Kept.refl _ _).alloc _
    have HBX := Lib.hid (Box.new w8 30 zeroC)
    have hNl := HX8.out.lt
    go_wp2_with (refine wpList_store_box rfl 30 _ _ rfl w8.heap.size ys rfl rfl 30 zeroC HBX.out (by rw [HSY.out]; exact size_op) HSY.out.symm HON.out ?_; intro w9 HV9 hk9; refine Hid.out ?_)
    refine Lib.hid ?_
    have hk89 : Kept (fun _ => False) w8 w9 := hka.trans hk9 fun k hk e => by omega
    have HK9 := Lib.hid (HK8.out.trans hk89 fun _ _ e => e)
    have HX9 := Lib.hid (HX8.out.kept hk89 id)
    have HR9 := Lib.hid (HR8.out.fresh hk89)
    have HY9 := Lib.hid (HY8.out.fresh hk89)
    obtain ⟨M, hM⟩ : ∃ M, w8.heap.size = M := ⟨_, rfl⟩
    rw [hM] at HV9 ⊢
    clear hka hk9 hk89 HBX HK8 HX8 HR8 HY8 hM hNl
    have HS1 := Lib.hid (fun W => show Calls Try.prog 22 #[.agg zs, .agg zeroC] W (Same8Post W zeroO zeroO) by have := Same8_any zeroL zeroL W (zeroL_at W) (zeroL_at W) (by decide) (by decide); rw [← HZS.out]; exact this)
    have HS2 := Lib.hid (fun W (h : y.At W) => show Calls Try.prog 22 #[.agg ys, .agg zeroC] W (Same8Post W y.o zeroO) by have := Same8_any y zeroL W h (zeroL_at W) (by rw [HYO.out]; decide) (by rw [HYO.out]; decide); rw [← HYS.out]; exact this)
    go_wp2_with (refine wpList_unguard rfl ?_; refine wpList_load_op rfl _ rfl N rfl _ zs HSZ.out HX9.out ?_)
    refine (HS1.out w9).mono ?_
    rintro r w10 ⟨bb, rfl, hbb, hk⟩
    obtain rfl : bb = true := hbb.2 rfl
    have HK10 := Lib.hid (HK9.out.trans hk fun _ _ e => e)
    have HR10 := Lib.hid (HR9.out.fresh hk)
    have HY10 := Lib.hid (HY9.out.fresh hk)
    have HV10 := Lib.hid (HV9.out.kept hk id)
    clear hbb hk HK9 HX9 HR9 HY9 HV9 HS1
    go_wp2_with (refine wpList_unguard rfl ?_; refine wpList_load_op rfl _ rfl M rfl _ ys HSY.out HV10.out ?_)
    refine (HS2.out w10 HY10.out).mono ?_
    rintro r w11 ⟨bb, rfl, hbb, hk⟩
    obtain rfl : bb = true := hbb.2 HYO.out
    have HK11 := Lib.hid (HK10.out.trans hk fun _ _ e => e)
    have HR11 := Lib.hid (HR10.out.fresh hk)
    clear hbb hk HK10 HR10 HY10 HV10 HS2
    go_wp2_with (fail)
    refine (Left_any d g bad2 6 w11 HR11.out.at_).mono ?_
    rintro r w12 ⟨rfl, rfl⟩
    have hb2 : ((bad2.length : Int) == 2) = true := by decide
    go_wp2_with (fail)
    refine (Known8_any w11).mono ?_
    rintro r k3 ⟨rfl, hk⟩
    have HK12 := Lib.hid (HK11.out.trans hk fun _ _ e => e)
    clear hk
    go_wp2_with (fail)
    go_ret
    exact ⟨rfl, HK12.out⟩
end Go.Proofs.Ytnlklhlnnoihiaa
