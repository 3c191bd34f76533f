/- The walk of the law's known: it is true. No condition. -/
import Derived.Test.YtopcogogpbcbhaaNSam
import Derived.Lib.SlBytesConst
import Derived.Deep.MidRow
namespace Go.Proofs.Ytopcogogpbcbhaa
open Go Go.RowKit

theorem BytesAt.marked (w : World) {l : List Int} {T : TypeId} {cs : Array Value} {fr : Nat × Nat} (hc : cs.toList = bys l) : BytesAt (w.alloc (.cells cs T fr)) (some ⟨w.heap.size, 0, none⟩) l := fun k hk => by
  refine ⟨_, rfl, ?_⟩
  rw [add_none, cell_of_row _ w.heap.size k cs T fr (heap_alloc_new w _), ← bys_get l k hk, ← hc]
  simp
/-- A network made since w. -/
def KnAt (w : World) (p : Nat) (s : Nt) (W : World) : Prop := ∃ F es, NetAt W p F s es ∧ (∀ k, F k → w.heap.size ≤ k) ∧ Kept (fun _ => False) w W
theorem KnAt.fresh {w : World} {p : Nat} {s : Nt} {W W' : World} (h : KnAt w p s W) (hk : Kept (fun _ => False) W W') : KnAt w p s W' := by
  obtain ⟨F, es, h1, h2, h3⟩ := h
  exact ⟨F, es, h1.fresh hk, h2, h3.trans hk fun _ _ e => e⟩
theorem KnAt.post {w : World} {p : Nat} {F : Nat → Prop} {s' : Nt} {W W' : World} (hF : ∀ k, F k → w.heap.size ≤ k) (hk : Kept (fun _ => False) w W) (h : NetPost W p F s' W') : KnAt w p s' W' := by
  obtain ⟨F', es', h1, h2, h3⟩ := h
  exact ⟨F', es', h1, fun k e => (h2 k e).elim (hF k) fun e => Nat.le_trans hk.size e, hk.trans h3 fun k hk e => by have := hF k e; omega⟩
theorem wpList_load_cc {w : World} {ops : Array Oper} {rest : List Oper} {o : Oper} {a : Act} {Q : Exit → Act → World → Prop} (hgd : o.guard = none) (x : Operand) (ho : o.op = .load 44 x) (g k : Nat) (hx : a.eval x = .pointer (some ⟨g, k * 6, none⟩)) {base n c : Nat} (xs : List Cc)
    (hr : w.ownsRow base 44 6 (.slice (some ⟨g, 0, none⟩) n c) n (ccs xs)) (hk : k < xs.length) (cs : Array Value) (hcs : xs[k].cs = cs)
    (h : wpList Try.prog ops Q rest (a.put o.dst (.agg cs)) w) : wpList Try.prog ops Q (o :: rest) a w := by
  obtain ⟨d, hu, hd⟩ : ∃ d, Try.prog.underlying 44 = some d ∧ d.isRow = true := ⟨.struct (Try.prog.fieldsOf 44), by kernel_rfl, rfl⟩
  refine wpList_load_mid hgd _ x ho g (k * 6) hx xs[k].cs.toList d (fun j v hj => ?_) hu hd (by rw [Array.length_toList]; exact size_cp) ?_
  · have hj' : j < 6 := by
      have := (List.getElem?_eq_some_iff.1 hj).1
      rwa [Array.length_toList, Cc.cs_size] at this
    have := hr.cells (g := g) rfl (k * 6 + j) v (by rw [ccs_get xs k hk j hj']; exact hj)
    rwa [add_none] at this
  · rw [Array.toArray_toList, hcs]
    exact h
def abc : List Int := [97, 98, 99]
def azc : List Int := [97, 122, 99]
def kc1 : Cp := ⟨1, 1, 2, 7, abc, azc, true⟩
def kc2 : Cp := ⟨2, 1, 2, 7, abc, abc, false⟩
def ks0 : Nt := ⟨0, []⟩
def ks1 : Nt := ⟨1, [⟨1, 1, 2, 7, abc, abc, false⟩]⟩
def ks2 : Nt := ⟨1, [kc1]⟩
def ks3 : Nt := ⟨2, [kc1, kc2]⟩
def ks4 : Nt := ⟨2, [kc2]⟩
theorem k_send : ks0.send 1 2 7 abc = ((1, 0), ks1) := by kernel_rfl
theorem k_alter : ks1.alter 1 1 [122] = (0, ks2) := by kernel_rfl
theorem k_cut : ks2.cut 1 2 = (12, ks2) := by kernel_rfl
theorem k_double : ks2.double 1 = ((2, 0), ks3) := by kernel_rfl
theorem k_del : ks3.deliver 1 = ((kc1, 0), ks4) := by kernel_rfl
theorem k_del2 : ks4.deliver 1 = ((zeroCp, 11), ks4) := by kernel_rfl
theorem wf_one : (Lit.int .i64 1).wf = true := by kernel_rfl
theorem byte_abc : isByte abc := by intro x hx; simp [abc] at hx; omega
theorem byte_z : isByte [122] := by intro x hx; simp at hx; omega
def KnownPost (w : World) (r : Ending) (w' : World) : Prop := r = .returned (.bool true) ∧ Kept (fun _ => False) w w'
set_option maxRecDepth 100000 in
set_option maxHeartbeats 6400000 in
theorem Known20_any (w : World) : Calls Try.prog 11 #[] w (KnownPost w) := by
  have hcv := fun (W : World) (C : Array Value) (n c : Nat) => Lib.run_convert_bytes_const (P := Try.prog) W 30 5 C n c Try.underlying30 Try.underlying5
  go_enter Try.func11, Try.ntmps11
  go_wp2_with (fail)
  refine (New_any w).mono ?_
  rintro r w1 ⟨rfl, hn, hk⟩
  have HN1 := Lib.hid (show KnAt w w.heap.size ks0 w1 from ⟨_, _, hn, fun k e => by omega, hk⟩)
  clear hn hk
  go_upto_region 4 with (fail)
  have HB2 := Lib.hid (BytesAt.marked w1 (l := abc) (T := 5) (cs := #[.int .u8 97, .int .u8 98, .int .u8 99]) (fr := (3, 4)) rfl)
  have HN2 := Lib.hid (HN1.out.fresh ((Kept.refl _ _).alloc (.cells #[.int .u8 97, .int .u8 98, .int .u8 99] 5 (3, 4))))
  clear HN1
  go_wp2_with (fail)
  generalize w1.alloc (.cells #[.int .u8 97, .int .u8 98, .int .u8 99] 5 (3, 4)) = w2 at HB2 HN2 ⊢
  obtain ⟨F, es, h1, h2, h3⟩ := HN2.out
  have hc := Send_any w.heap.size F ks0 es w2 h1 (by decide) 1 2 7 _ abc 3 HB2.out (fun e => by cases e) byte_abc (by decide)
  rw [k_send] at hc
  refine hc.mono ?_
  clear hc
  rintro r w3 ⟨rfl, hp⟩
  have HN3 := Lib.hid (KnAt.post h2 h3 hp)
  clear h1 h2 h3 hp HN2 HB2
  go_upto_region 5 with (fail)
  have HB4 := Lib.hid (BytesAt.marked w3 (l := [122]) (T := 5) (cs := #[.int .u8 122]) (fr := (1, 2)) rfl)
  have HN4 := Lib.hid (HN3.out.fresh ((Kept.refl _ _).alloc (.cells #[.int .u8 122] 5 (1, 2))))
  clear HN3
  go_wp2_with (fail)
  generalize w3.alloc (.cells #[.int .u8 122] 5 (1, 2)) = w4 at HB4 HN4 ⊢
  obtain ⟨F, es, h1, h2, h3⟩ := HN4.out
  have hc := Alter_any w.heap.size F ks1 es w4 h1 1 1 wf_one (by omega) _ [122] 1 HB4.out byte_z (by decide)
  rw [k_alter] at hc
  refine hc.mono ?_
  clear hc
  rintro r w5 ⟨rfl, hp⟩
  have HN5 := Lib.hid (KnAt.post h2 h3 hp)
  clear h1 h2 h3 hp HN4 HB4
  go_wp2_with (fail)
  obtain ⟨F, es, h1, h2, h3⟩ := HN5.out
  have hc := Cut_any w.heap.size F ks2 es w5 h1 1 2 wf_one
  rw [k_cut] at hc
  refine hc.mono ?_
  clear hc
  rintro r w6 ⟨rfl, hp⟩
  have HN6 := Lib.hid (KnAt.post h2 h3 hp)
  clear h1 h2 h3 hp HN5 
  go_wp2_with (fail)
  obtain ⟨F, es, h1, h2, h3⟩ := HN6.out
  have hc := Double_any w.heap.size F ks2 es w6 h1 (by decide) 1 wf_one
  rw [k_double] at hc
  refine hc.mono ?_
  clear hc
  rintro r w7 ⟨rfl, hp⟩
  have HN7 := Lib.hid (KnAt.post h2 h3 hp)
  clear h1 h2 h3 hp HN6 
  go_wp2_with (fail)
  obtain ⟨F, es, h1, h2, h3⟩ := HN7.out
  have hc := Deliver_any w.heap.size F ks3 es w7 h1 1 wf_one
  rw [k_del] at hc
  refine hc.mono ?_
  clear hc
  rintro r w8 ⟨A8, cap8, rfl, ho, ⟨es8, h8⟩, hk8⟩
  have HFL := Lib.hid h1.lt
  have HFW := Lib.hid h2
  have HN8 := Lib.hid (show NetAt w8 w.heap.size F ks4 es8 from h8)
  have HK8 := Lib.hid (show Kept (fun _ => False) w w8 from h3.trans hk8 fun k hk e => by have := h2 k e; omega)
  have HO8 := Lib.hid (show w8.ownsRow w7.heap.size 5 1 (.slice A8 azc.length cap8) azc.length (bys azc) from ho)
  have HS7 := Lib.hid hk8.size
  clear h1 h2 h3 ho h8 hk8 HN7
  have HBX := Lib.hid (Box.new w8 44 (cpC zeroCp none 0))
  have hka : Kept (fun _ => False) w8 (w8.alloc (.cells (cpC zeroCp none 0) 44)) := (Kept.refl _ _).alloc _
  have HKA := Lib.hid hka
  clear hka
  go_wp2_with (refine wpList_store_box rfl 44 (.tmp 8) _ rfl w8.heap.size (cpC kc1 A8 cap8) rfl rfl 44 (cpC zeroCp none 0) HBX.out (size_cp.trans rfl) rfl (cpC_one _ _ _) ?_; intro w9 HX9 hk9; refine Hid.out ?_)
  refine Lib.hid ?_
  have hkf : Kept (fun _ => False) w8 w9 := HKA.out.trans hk9 fun k hk e => by omega
  have HKF := Lib.hid hkf
  clear hk9 hkf HKA HBX
  have HN9 := Lib.hid (HN8.out.fresh HKF.out)
  have HO9 := Lib.hid (HKF.out.own HO8.out fun _ _ => id)
  have HK9 := Lib.hid (HK8.out.trans HKF.out fun _ _ e => e)
  have HXF := Lib.hid (show ¬ F w8.heap.size from fun e => by have := HFL.out _ e; have := HS7.out; omega)
  have HOF := Lib.hid (show ∀ k, (Value.slice A8 azc.length cap8).ownBlock = some k → ¬ F k from fun k e hF => by have := HFL.out k hF; have := (HO8.out.lt k e).1; omega)
  clear HN8 HO8 HK8 HKF
  obtain ⟨X, hX⟩ : ∃ X, w8.heap.size = X := ⟨_, rfl⟩
  rw [hX] at HX9 HXF ⊢
  clear hX
  go_wp2_with (fail)
  have hc := Deliver_any w.heap.size F ks4 es8 w9 HN9.out 1 wf_one
  rw [k_del2] at hc
  refine hc.mono ?_
  clear hc
  rintro r w10 ⟨A9, cap9, rfl, -, ⟨es10, h10⟩, hk10⟩
  have HN10 := Lib.hid (show NetAt w10 w.heap.size F ks4 es10 from h10)
  have HX10 := Lib.hid (HX9.out.kept hk10 HXF.out)
  have HO10 := Lib.hid (hk10.own HO9.out HOF.out)
  have HK10 := Lib.hid (HK9.out.trans hk10 fun k hk e => by have := HFW.out k e; omega)
  clear h10 hk10 HN9 HX9 HO9 HK9
  have HBX := Lib.hid (Box.new w10 44 (cpC zeroCp none 0))
  have hka : Kept (fun _ => False) w10 (w10.alloc (.cells (cpC zeroCp none 0) 44)) := (Kept.refl _ _).alloc _
  have HKA := Lib.hid hka
  clear hka
  go_wp2_with (refine wpList_store_box rfl 44 (.tmp 10) _ rfl w10.heap.size (cpC zeroCp A9 cap9) rfl rfl 44 (cpC zeroCp none 0) HBX.out (size_cp.trans rfl) rfl (cpC_one _ _ _) ?_; intro w11 HX11 hk9; refine Hid.out ?_)
  refine Lib.hid ?_
  have hkf : Kept (fun _ => False) w10 w11 := HKA.out.trans hk9 fun k hk e => by omega
  have HKF := Lib.hid hkf
  clear hk9 hkf HKA HBX
  have HN11 := Lib.hid (HN10.out.fresh HKF.out)
  have HX12 := Lib.hid (HX10.out.kept HKF.out id)
  have HO11 := Lib.hid (HKF.out.own HO10.out fun _ _ => id)
  have HK11 := Lib.hid (HK10.out.trans HKF.out fun _ _ e => e)
  clear HN10 HX10 HO10 HK10 HKF HX11
  go_wp2_with (fail)
  refine (Copies_any w.heap.size F ks4 es10 w11 HN11.out (by decide)).mono ?_
  rintro r w12 ⟨L, lc, l, rfl, hcop, hl, hk12⟩
  have hlen : l.length = 1 := by
    have := congrArg List.length hl
    simpa [ks4] using this
  obtain ⟨x, rfl⟩ := List.length_eq_one_iff.1 hlen
  have hxc : x.c = kc2 := by simpa [ks4] using hl
  obtain ⟨xc, xA, xcap⟩ := x
  simp only at hxc
  subst hxc
  obtain ⟨gL, hgL, -, -, -⟩ := own_cells hcop.row Nat.zero_lt_one
  subst hgL
  have HCP := Lib.hid (show w12.ownsRow w11.heap.size 44 6 (.slice (some ⟨gL, 0, none⟩) 1 lc) 1 (ccs [⟨kc2, xA, xcap⟩]) from hcop.row)
  have HCD := Lib.hid (hcop.d _ (List.mem_singleton.2 rfl))
  have HX13 := Lib.hid (HX12.out.kept hk12 id)
  have HO12 := Lib.hid (hk12.own HO11.out fun _ _ => id)
  have HK12 := Lib.hid (HK11.out.trans hk12 fun _ _ e => e)
  clear hcop hl hlen hk12 HN11 HX12 HO11 HK11
  have z3 : w12.cell? ⟨X, 3, none⟩ = some (.slice A8 3 cap8) := (HX13.out.cell 3).trans rfl
  go_wp2_with (fail)
  have HX := HX13
  have HO := HO12
  have HK := HK12
  clear HX13 HO12 HK12 z3
  have HB13 := Lib.hid (BytesAt.marked w12 (l := azc) (T := 5) (cs := #[.int .u8 97, .int .u8 122, .int .u8 99]) (fr := (3, 4)) rfl)
  have hka : Kept (fun _ => False) w12 (w12.alloc (.cells #[.int .u8 97, .int .u8 122, .int .u8 99] 5 (3, 4))) := (Kept.refl _ _).alloc _
  have HX' := Lib.hid (HX.out.kept hka id)
  have HO' := Lib.hid (HO.out |> fun h => hka.own h fun _ _ => id)
  have HK' := Lib.hid (HK.out.trans hka fun _ _ e => e)
  have HCP' := Lib.hid (HCP.out |> fun h => hka.own h fun _ _ => id)
  have HCD' := Lib.hid (HCD.out |> fun h => hka.own h fun _ _ => id)
  clear HX HO HK HCP HCD
  have HX := HX'
  clear HX'
  have HO := HO'
  clear HO'
  have HK := HK'
  clear HK'
  have HCP := HCP'
  clear HCP'
  have HCD := HCD'
  clear HCD'
  clear hka
  generalize w12.alloc (.cells #[.int .u8 97, .int .u8 122, .int .u8 99] 5 (3, 4)) = w13 at HB13 HX HO HK HCP HCD ⊢
  refine (Bytes20_any A8 _ azc azc cap8 3 w13 (BytesAt.of_own HO.out) HB13.out (by decide)).mono ?_
  rw [decide_eq_true rfl]
  unfold SamePost
  rintro r w14 ⟨rfl, hk⟩
  have HX' := Lib.hid (HX.out.kept hk id)
  have HO' := Lib.hid (HO.out |> fun h => hk.own h fun _ _ => id)
  have HK' := Lib.hid (HK.out.trans hk fun _ _ e => e)
  have HCP' := Lib.hid (HCP.out |> fun h => hk.own h fun _ _ => id)
  have HCD' := Lib.hid (HCD.out |> fun h => hk.own h fun _ _ => id)
  clear HX HO HK HCP HCD
  have HX := HX'
  clear HX'
  have HO := HO'
  clear HO'
  have HK := HK'
  clear HK'
  have HCP := HCP'
  clear HCP'
  have HCD := HCD'
  clear HCD'
  clear hk HB13
  have z5 : w14.cell? ⟨X, 5, none⟩ = some (.bool true) := (HX.out.cell 5).trans rfl
  obtain ⟨gL', eL, -, hcell, -⟩ := own_cells HCP.out Nat.zero_lt_one
  obtain rfl : gL = gL' := by injection eL with e; injection e
  clear eL
  have c0 : w14.cell? ⟨gL, 0, none⟩ = some (.int .i64 2) := hcell 0 _ rfl
  have c1 : w14.cell? ⟨gL, 1, none⟩ = some (.int .i64 1) := hcell 1 _ rfl
  have c2 : w14.cell? ⟨gL, 2, none⟩ = some (.int .i64 2) := hcell 2 _ rfl
  have c3 : w14.cell? ⟨gL, 3, none⟩ = some (.slice xA 3 xcap) := hcell 3 _ rfl
  have c4 : w14.cell? ⟨gL, 4, none⟩ = some (.int .i64 7) := hcell 4 _ rfl
  have c5 : w14.cell? ⟨gL, 5, none⟩ = some (.bool false) := hcell 5 _ rfl
  clear hcell
  go_wp2_with (fail)
  clear z5 c0 c1 c2 c3 c4 c5
  have HB15 := Lib.hid (BytesAt.marked w14 (l := abc) (T := 5) (cs := #[.int .u8 97, .int .u8 98, .int .u8 99]) (fr := (3, 4)) rfl)
  have hka : Kept (fun _ => False) w14 (w14.alloc (.cells #[.int .u8 97, .int .u8 98, .int .u8 99] 5 (3, 4))) := (Kept.refl _ _).alloc _
  have HK' := Lib.hid (HK.out.trans hka fun _ _ e => e)
  have HCD' := Lib.hid (HCD.out |> fun h => hka.own h fun _ _ => id)
  clear HK HCD
  have HK := HK'
  clear HK'
  have HCD := HCD'
  clear HCD'
  clear hka
  generalize w14.alloc (.cells #[.int .u8 97, .int .u8 98, .int .u8 99] 5 (3, 4)) = w15 at HB15 HK HCD ⊢
  refine (Same20_any kc2 kc2 xA _ xcap 3 w15 (BytesAt.of_own HCD.out) HB15.out (by decide)).mono ?_
  rintro r w16 ⟨bb, rfl, hbb, hk⟩
  obtain rfl : bb = true := hbb.2 (Cp.same_refl _)
  have HKF := Lib.hid (HK.out.trans hk fun _ _ e => e)
  clear hk hbb
  go_wp2_with (fail)
  go_ret
  exact ⟨rfl, HKF.out⟩
end Go.Proofs.Ytopcogogpbcbhaa
