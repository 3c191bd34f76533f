/- The walks of net's off, Deliver, Drop. Conditions: the network lies in memory; the number is an int. -/
import Derived.Test.YtopcogogpbcbhaaNSnd
namespace Go.Proofs.Ytopcogogpbcbhaa
open Go Go.RowKit

theorem map_filter_c (es : List Ce) (n : Int) : (es.filter fun x => !x.c.is n).map (·.c) = (es.map (·.c)).filter fun c => !c.is n := by
  induction es with
  | nil => rfl
  | cons x es ih =>
    simp only [List.map_cons, List.filter_cons]
    split
    · rw [List.map_cons, ih]
    · exact ih
/-- A number is taken off the map: the network has one copy less. -/
theorem NetAt.less {w w' : World} {p b : Nat} {F : Nat → Prop} {s : Nt} {es : List Ce} {D : DataW Unit} (h : NetAt w p F s es) (n : Int) (hbox : Box w p 38 #[.int .i64 s.last, .map (some b)]) (hF : F b) (hD : MapIs D es) (hmap : w.ownsMap Try.prog 3 ptrElem b s.last D)
    (hmap' : w'.ownsMap Try.prog 3 ptrElem b s.last (D.del (.int .i64 n))) (hk : Kept (fun k => k = b) w w') : NetAt w' p F (s.off n) (es.filter fun x => !x.c.is n) := by
  have hb := Off.map hmap
  refine ⟨?_, ⟨some b, hbox.kept hk (hb.box hbox), .inr ⟨b, _, rfl, hF, hmap', hD.del n⟩⟩, h.fp, fun x hx => ?_, h.q.sublist List.filter_sublist, fun k e => Nat.lt_of_lt_of_le (h.lt k e) hk.size, h.ok.off n, h.last⟩
  · rw [map_filter_c, h.tie]; rfl
  · have hx' := h.ats x (List.mem_filter.1 hx).1
    exact hx'.keep hk (hb.box hx'.q) (hb.box hx'.f) (fun k e => hb.own hx'.d e) (fun k e => hb.own hx'.cl e) fun _ e => e
def OffR (p : Nat) (F : Nat → Prop) (s : Nt) (n : Int) (x : Ce) (c : Cp) (A : Option Addr) (cap : Nat) (e : Int) (W W' : World) : Prop :=
  c = x.c ∧ e = 0 ∧ W'.ownsRow W.heap.size 5 1 (.slice A c.data.length cap) c.data.length (bys c.data) ∧ ∃ es', NetAt W' p F (s.off n) es'
set_option maxRecDepth 100000 in
set_option maxHeartbeats 3200000 in
theorem Off1_any (p : Nat) (F : Nat → Prop) (s : Nt) (es : List Ce) (w : World) (h : NetAt w p F s es) (x : Ce) (hx : x ∈ es) (n : Int) (hn : (Lit.int .i64 n).wf = true) (B C : Nat) (hB : Box w B 25 #[.pointer (some ⟨p, 0, none⟩)]) (hC : Box w C 3 #[.int .i64 n]) :
    Calls Try.prog 56 #[.pointer (some ⟨x.q, 0, none⟩), .pointer (some ⟨B, 0, none⟩), .pointer (some ⟨C, 0, none⟩)] w (fun r w' => ∃ c A cap e, r = .returned (.tuple #[.agg (cpC c A cap), .int .i64 e]) ∧ Kept F w w' ∧ OffR p F s n x c A cap e w w') := by
  have hcx : x.c ∈ s.l := by rw [← h.tie]; exact List.mem_map_of_mem hx
  have hlen := (h.ok.len x.c hcx).2
  have hka : Kept (fun _ => False) w (w.alloc (.cells (cpC zeroCp none 0) 44)) := (Kept.refl _ _).alloc _
  have HA := Lib.hid hka
  have HNET := Lib.hid (h.fresh hka)
  have HBB := Lib.hid (hB.kept hka id)
  have HCC := Lib.hid (hC.kept hka id)
  have HR := Lib.hid (Box.new w 44 (cpC zeroCp none 0))
  have HFL := Lib.hid h.lt
  clear h hB hC hka hcx
  go_enter Try.func56, Try.ntmps56
  go_upto_region 1 with (fail)
  have hzz : w.alloc (.cells #[.int .i64 0, .int .i64 0, .int .i64 0, .slice none 0 0, .int .i64 0, .bool false] 44) = w.alloc (.cells (cpC zeroCp none 0) 44) := rfl
  rw [hzz]
  clear hzz
  generalize w.alloc (.cells (cpC zeroCp none 0) 44) = w1 at HA HNET HBB HCC HR ⊢
  have hkd : Kept (fun _ => False) w1 w1.drew := (Kept.refl _ _).drew
  have HND := Lib.hid (HNET.out.fresh hkd)
  have HBD := Lib.hid (HBB.out.kept hkd id)
  have HCD := Lib.hid (HCC.out.kept hkd id)
  have HRD := Lib.hid (HR.out.kept hkd id)
  have HAD := Lib.hid (HA.out.trans hkd fun _ _ e => e)
  clear hkd HNET HBB HCC HR HA
  obtain ⟨mb, hp, hm⟩ := HND.out.box
  rcases hm with ⟨rfl, rfl⟩ | ⟨b, D, rfl, hFb, hmap, hD⟩
  · simp at hx
  have HP := Lib.hid hp
  have HMP := Lib.hid hmap
  have HDD := Lib.hid hD
  have HFB := Lib.hid hFb
  have hpb : ¬ p = b := (Off.map hmap).box hp
  have hBb : ¬ B = b := (Off.map hmap).box HBD.out
  have hCb : ¬ C = b := (Off.map hmap).box HCD.out
  have hRb : ¬ w.heap.size = b := (Off.map hmap).box HRD.out
  have HX := Lib.hid (HND.out.ats x hx)
  clear hp hmap hD hFb
  refine wp_region_held_drew (S := fun Wz => Kept (fun k => k = b) w1.drew Wz) (by kernel_rfl) (Kept.refl _ _) fun hS => ?_
  generalize w1.drew = W at HND HBD HCD HRD HAD HP HMP HX hS ⊢
  refine held_takeTo 6 (i := 0) (v := .pointer (some ⟨p, 0, none⟩)) rfl rfl (by kernel_rfl) (by kernel_rfl) (by kernel_rfl) (fun _ _ _ h => h) rfl hS (fun Wz hW => by (have hc : Wz.cell? ⟨B, 0, none⟩ = some (.pointer (some ⟨p, 0, none⟩)) := ((HBD.out.kept hW hBb).cell 0).trans rfl; go_simp)) ?_
  simp only [List.setIfInBounds_toArray, List.set_cons_zero, List.set_cons_succ]
  refine held_takeTo 7 (i := 1) (v := .pointer (some ⟨p, 0, none⟩)) rfl rfl (by kernel_rfl) (by kernel_rfl) (by kernel_rfl) (fun _ _ _ h => h) rfl hS (fun Wz hW => by go_simp) ?_
  simp only [List.setIfInBounds_toArray, List.set_cons_zero, List.set_cons_succ]
  refine held_takeTo 8 (i := 2) (v := .pointer (some ⟨p, 1, none⟩)) rfl rfl (by kernel_rfl) (by kernel_rfl) (by kernel_rfl) (fun _ _ _ h => h) rfl hS (fun Wz hW => by go_simp) ?_
  simp only [List.setIfInBounds_toArray, List.set_cons_zero, List.set_cons_succ]
  refine held_takeTo 9 (i := 3) (v := .map (some b)) rfl rfl (by kernel_rfl) (by kernel_rfl) (by kernel_rfl) (fun _ _ _ h => h) rfl hS (fun Wz hW => by (have hc : Wz.cell? ⟨p, 1, none⟩ = some (.map (some b)) := ((HP.out.kept hW hpb).cell 1).trans rfl; go_simp)) ?_
  simp only [List.setIfInBounds_toArray, List.set_cons_zero, List.set_cons_succ]
  refine held_takeTo 10 (i := 4) (v := .int .i64 n) rfl rfl (by kernel_rfl) (by kernel_rfl) (by kernel_rfl) (fun _ _ _ h => h) rfl hS (fun Wz hW => by (have hc : Wz.cell? ⟨C, 0, none⟩ = some (.int .i64 n) := ((HCD.out.kept hW hCb).cell 0).trans rfl; go_simp)) ?_
  simp only [List.setIfInBounds_toArray, List.set_cons_zero, List.set_cons_succ]
  refine held_one (i := 5) (by kernel_rfl) rfl fun K hK => ?_
  refine wpList_delete_own W rfl _ _ 36 3 rfl 75 (Maps.int_keyed Try.underlying3) Try.underlying36 ptrElem b s.last D rfl HMP.out (.int .i64 n) (.int .i64 n) rfl (Maps.keyOf_int_mk Try.underlying3 hn) ?_
  intro w2 hm2 ht2
  have hk2 : Kept (fun k => k = b) W w2 := (Kept.of_grown ht2.grown).more fun k _ e => by injection e with e; exact e.symm
  have HN2 := Lib.hid (HND.out.less n HP.out HFB.out HDD.out HMP.out hm2 hk2)
  have HX2 := Lib.hid (HX.out.keep hk2 ((Off.map HMP.out).box HX.out.q) ((Off.map HMP.out).box HX.out.f) (fun k e => (Off.map HMP.out).own HX.out.d e) (fun k e => (Off.map HMP.out).own HX.out.cl e) fun _ e => e)
  have HR2 := Lib.hid (HRD.out.kept hk2 hRb)
  have HK2 := Lib.hid (show Kept F w w2 from (HAD.out.more fun _ _ e => e.elim).trans hk2 fun k _ e => by subst e; exact HFB.out)
  have hS2 : Kept (fun k => k = b) W w2 := hS.trans hk2 fun _ _ e => e
  clear hm2 ht2 hk2
  go_wp2_with (fail)
  refine hK.out _ _ hS2 fun _ => ?_
  clear hK K
  refine wpAnyH_done (by kernel_rfl) ?_ _
  clear hS hS2
  go_wp2_with (fail)
  refine (Told_any x F w2 HX2.out hlen).mono ?_
  rintro r w3 ⟨A, cap, rfl, ho, hk3⟩
  have HO3 := Lib.hid ho
  have HN3 := Lib.hid (HN2.out.fresh hk3)
  have HR3 := Lib.hid (HR2.out.kept hk3 id)
  have HK3 := Lib.hid (HK2.out.trans hk3 fun _ _ e => e.elim)
  have HSZ := Lib.hid HK2.out.size
  have HSR := Lib.hid HR2.out.lt
  clear ho hk3
  go_wp2_with (refine wpList_store_box rfl 44 (.tmp 4) (.tmp 12) rfl w.heap.size (cpC x.c A cap) rfl rfl 44 (cpC zeroCp none 0) HR3.out (size_cp.trans rfl) rfl (cpC_one _ _ _) ?_; intro w4 HB4 hk4)
  refine bodyPost_ret (results_cell_slot (show Try.f56.results = #[.cell 4 44, .tmp 5] by kernel_rfl) _ _ _ _ w.heap.size rfl (load_CP HB4.out) rfl) rfl ?_
  refine ⟨x.c, A, cap, 0, rfl, HK3.out.trans hk4 (fun k hk e => by omega), rfl, rfl, hk4.own (own_base HO3.out (by have := HSZ.out; omega)) (fun k e e2 => by have := (HO3.out.lt k e).1; have := HSR.out; omega), _, HN3.out.kept hk4 fun k e e2 => by have := HFL.out k e; omega⟩
def DelPost (w : World) (p : Nat) (F : Nat → Prop) (x : (Cp × Int) × Nt) (r : Ending) (w' : World) : Prop :=
  ∃ A cap, r = .returned (.tuple #[.agg (cpC x.1.1 A cap), .int .i64 x.1.2]) ∧ w'.ownsRow w.heap.size 5 1 (.slice A x.1.1.data.length cap) x.1.1.data.length (bys x.1.1.data) ∧ (∃ es', NetAt w' p F x.2 es') ∧ Kept F w w'
set_option maxRecDepth 100000 in
set_option maxHeartbeats 3200000 in
theorem Off_any (p : Nat) (F : Nat → Prop) (s : Nt) (es : List Ce) (w : World) (h : NetAt w p F s es) (n : Int) (hn : (Lit.int .i64 n).wf = true) :
    Calls Try.prog 40 #[.pointer (some ⟨p, 0, none⟩), .int .i64 n] w (DelPost w p F (s.deliver n)) := by
  have hmf : ∀ (fn : Fn) (first cap : Array Value) (w : World), (Instr.makeFunc fn first cap).run Try.prog w = .ok (.func fn first cap) w := fun _ _ _ _ => rfl
  have hka : Kept (fun _ => False) w (((w.alloc (.cells #[.pointer (some ⟨p, 0, none⟩)] 25)).alloc (.cells #[.int .i64 n] 3)).alloc (.cells (cpC zeroCp none 0) 44)) := (((Kept.refl _ _).alloc _).alloc _).alloc _
  have HA := Lib.hid hka
  have HNET := Lib.hid (h.fresh hka)
  have HFL := Lib.hid h.lt
  have HB := Lib.hid (((Box.new w 25 #[.pointer (some ⟨p, 0, none⟩)]).alloc (.cells #[.int .i64 n] 3)).alloc (.cells (cpC zeroCp none 0) 44))
  have HC := Lib.hid (((Box.new (w.alloc (.cells #[.pointer (some ⟨p, 0, none⟩)] 25)) 3 #[.int .i64 n]).at_eq (show _ = w.heap.size + 1 by simp)).alloc (.cells (cpC zeroCp none 0) 44))
  have HR := Lib.hid ((Box.new ((w.alloc (.cells #[.pointer (some ⟨p, 0, none⟩)] 25)).alloc (.cells #[.int .i64 n] 3)) 44 (cpC zeroCp none 0)).at_eq (show _ = w.heap.size + 2 by simp))
  clear h hka
  go_enter Try.func40, Try.ntmps40
  go_upto_region 1 with (fail)
  have hzz : ((w.alloc (.cells #[.pointer (some ⟨p, 0, none⟩)] 25)).alloc (.cells #[.int .i64 n] 3)).alloc (.cells #[.int .i64 0, .int .i64 0, .int .i64 0, .slice none 0 0, .int .i64 0, .bool false] 44) = ((w.alloc (.cells #[.pointer (some ⟨p, 0, none⟩)] 25)).alloc (.cells #[.int .i64 n] 3)).alloc (.cells (cpC zeroCp none 0) 44) := rfl
  rw [hzz]
  clear hzz
  generalize ((w.alloc (.cells #[.pointer (some ⟨p, 0, none⟩)] 25)).alloc (.cells #[.int .i64 n] 3)).alloc (.cells (cpC zeroCp none 0) 44) = w0 at HA HNET HB HC HR ⊢
  have x0 : w0.cell? ⟨w.heap.size, 0, none⟩ = some (.pointer (some ⟨p, 0, none⟩)) := (HB.out.cell 0).trans rfl
  have x1 : w0.cell? ⟨w.heap.size + 1, 0, none⟩ = some (.int .i64 n) := (HC.out.cell 0).trans rfl
  have HF := Lib.hid (FoundC_any p F s es w0 HNET.out n hn 56 #[.pointer (some ⟨w.heap.size, 0, none⟩), .pointer (some ⟨w.heap.size + 1, 0, none⟩)] (OffR p F s n) (enters_of Try.func56 (by kernel_rfl) rfl)
    fun x hx _ W hk => Off1_any p F s es W (HNET.out.fresh hk) x hx n hn w.heap.size (w.heap.size + 1) (HB.out.kept hk id) (HC.out.kept hk id))
  go_wp2_with (fail)
  refine HF.out.mono ?_
  rintro r w1 (⟨hg, rfl, hk1⟩ | ⟨x, hx, hg, c, A, cap, e, rfl, W, W', hk1, hlt, hkF, ⟨rfl, rfl, ho, es', hn'⟩, hk2⟩)
  · have HD := Lib.hid (show s.deliver n = ((zeroCp, 11), s) by unfold Nt.deliver; rw [hg])
    have HR1 := Lib.hid (HR.out.kept hk1 id)
    have HK1 := Lib.hid (HA.out.trans hk1 fun _ _ e => e)
    have HN1 := Lib.hid (HNET.out.fresh hk1)
    clear hg hk1
    go_wp2_with (refine wpList_store_box rfl 44 (.tmp 4) (.tmp 10) rfl (w.heap.size + 2) (cpC zeroCp none 0) rfl rfl 44 (cpC zeroCp none 0) HR1.out (size_cp.trans rfl) rfl (cpC_one _ _ _) ?_; intro w4 HB4 hk4)
    refine bodyPost_ret (results_cell_slot (show Try.f40.results = #[.cell 4 44, .tmp 5] by kernel_rfl) _ _ _ _ (w.heap.size + 2) rfl (load_CP HB4.out) rfl) rfl ?_
    rw [HD.out]
    exact ⟨none, 0, rfl, World.ownsRow_nil _ _ _ _, ⟨es, HN1.out.kept hk4 (fun k e e2 => by have := HFL.out k e; omega)⟩, (HK1.out.more fun _ _ e => e.elim).trans hk4 fun k hk e => by omega⟩
  · have HD := Lib.hid (show s.deliver n = ((x.c, 0), s.off n) by unfold Nt.deliver; rw [hg])
    have HR1 := Lib.hid (((HR.out.kept hk1 id).kept hkF fun hF => by have := HFL.out _ hF; omega).kept hk2 (by have := HR.out.lt; omega))
    have HK1 := Lib.hid (show Kept F w w1 from (((HA.out.more fun _ _ e => e.elim).trans (hk1.more fun _ _ e => e.elim) fun k _ e => e).trans hkF fun k _ e => e).trans hk2 fun k hk e => by have := HA.out.size; omega)
    have HN1 := Lib.hid (hn'.kept hk2 fun k e e2 => by have := HFL.out k e; have := HA.out.size; omega)
    have HO1 := Lib.hid ho
    have HK2 := Lib.hid hk2
    have HLT := Lib.hid (show w.heap.size + 2 < w0.heap.size ∧ w0.heap.size + 1 < W.heap.size from ⟨HR.out.lt, hlt⟩)
    clear hg hk1 hkF ho hn' hk2 hlt
    go_wp2_with (refine wpList_store_box rfl 44 (.tmp 4) (.tmp 10) rfl (w.heap.size + 2) (cpC x.c A cap) rfl rfl 44 (cpC zeroCp none 0) HR1.out (size_cp.trans rfl) rfl (cpC_one _ _ _) ?_; intro w4 HB4 hk4)
    refine bodyPost_ret (results_cell_slot (show Try.f40.results = #[.cell 4 44, .tmp 5] by kernel_rfl) _ _ _ _ (w.heap.size + 2) rfl (load_CP HB4.out) rfl) rfl ?_
    rw [HD.out]
    have hl := HLT.out
    exact ⟨A, cap, rfl, own_base (hk4.own (HK2.out.own HO1.out fun k e e2 => by have := (HO1.out.lt k e).1; omega) fun k e e2 => by have := (HO1.out.lt k e).1; omega) (by omega), ⟨es', HN1.out.kept hk4 (fun k e e2 => by have := HFL.out k e; omega)⟩, HK1.out.trans hk4 fun k hk e => by omega⟩
set_option maxRecDepth 100000 in
set_option maxHeartbeats 3200000 in
theorem Deliver_any (p : Nat) (F : Nat → Prop) (s : Nt) (es : List Ce) (w : World) (h : NetAt w p F s es) (n : Int) (hn : (Lit.int .i64 n).wf = true) :
    Calls Try.prog 19 #[.pointer (some ⟨p, 0, none⟩), .int .i64 n] w (DelPost w p F (s.deliver n)) := by
  have hka : Kept (fun _ => False) w (w.alloc (.cells (cpC zeroCp none 0) 44)) := (Kept.refl _ _).alloc _
  have HA := Lib.hid hka
  have HNET := Lib.hid (h.fresh hka)
  have HFL := Lib.hid h.lt
  have HR := Lib.hid (Box.new w 44 (cpC zeroCp none 0))
  clear h hka
  go_enter Try.func19, Try.ntmps19
  go_upto_region 1 with (fail)
  have hzz : w.alloc (.cells #[.int .i64 0, .int .i64 0, .int .i64 0, .slice none 0 0, .int .i64 0, .bool false] 44) = w.alloc (.cells (cpC zeroCp none 0) 44) := rfl
  rw [hzz]
  clear hzz
  generalize w.alloc (.cells (cpC zeroCp none 0) 44) = w0 at HA HNET HR ⊢
  go_wp2_with (fail)
  have hoff := Off_any p F s es w0 HNET.out n hn
  obtain ⟨X, hX⟩ : ∃ X, s.deliver n = X := ⟨_, rfl⟩
  rw [hX] at hoff
  have HX := Lib.hid hX
  clear hX
  refine hoff.mono ?_
  clear hoff
  rintro r w1 ⟨A, cap, rfl, ho, ⟨es', h1⟩, h3⟩
  have HO := Lib.hid ho
  have HN := Lib.hid h1
  have HK := Lib.hid h3
  have HR1 := Lib.hid (HR.out.kept h3 fun hF => by have := HFL.out _ hF; omega)
  have HL := Lib.hid HR.out.lt
  clear ho h1 h3
  go_wp2_with (refine wpList_store_box rfl 44 (.tmp 4) (.tmp 9) rfl w.heap.size (cpC X.1.1 A cap) rfl rfl 44 (cpC zeroCp none 0) HR1.out (size_cp.trans rfl) rfl (cpC_one _ _ _) ?_; intro w4 HB4 hk4)
  refine bodyPost_ret (results_cell_slot (show Try.f19.results = #[.cell 4 44, .tmp 5] by kernel_rfl) _ _ _ _ w.heap.size rfl (load_CP HB4.out) rfl) rfl ?_
  have hl := HL.out
  rw [HX.out]
  exact ⟨A, cap, rfl, own_base (hk4.own HO.out fun k e e2 => by have := (HO.out.lt k e).1; omega) (by omega), ⟨es', HN.out.kept hk4 fun k e e2 => by have := HFL.out k e; omega⟩, ((HA.out.more fun _ _ e => e.elim).trans HK.out fun k _ e => e).trans hk4 fun k hk e => by omega⟩
set_option maxRecDepth 100000 in
set_option maxHeartbeats 3200000 in
theorem Drop_any (p : Nat) (F : Nat → Prop) (s : Nt) (es : List Ce) (w : World) (h : NetAt w p F s es) (n : Int) (hn : (Lit.int .i64 n).wf = true) :
    Calls Try.prog 20 #[.pointer (some ⟨p, 0, none⟩), .int .i64 n] w (DelPost w p F (s.deliver n)) := by
  have hka : Kept (fun _ => False) w (w.alloc (.cells (cpC zeroCp none 0) 44)) := (Kept.refl _ _).alloc _
  have HA := Lib.hid hka
  have HNET := Lib.hid (h.fresh hka)
  have HFL := Lib.hid h.lt
  have HR := Lib.hid (Box.new w 44 (cpC zeroCp none 0))
  clear h hka
  go_enter Try.func20, Try.ntmps20
  go_upto_region 1 with (fail)
  have hzz : w.alloc (.cells #[.int .i64 0, .int .i64 0, .int .i64 0, .slice none 0 0, .int .i64 0, .bool false] 44) = w.alloc (.cells (cpC zeroCp none 0) 44) := rfl
  rw [hzz]
  clear hzz
  generalize w.alloc (.cells (cpC zeroCp none 0) 44) = w0 at HA HNET HR ⊢
  go_wp2_with (fail)
  have hoff := Off_any p F s es w0 HNET.out n hn
  obtain ⟨X, hX⟩ : ∃ X, s.deliver n = X := ⟨_, rfl⟩
  rw [hX] at hoff
  have HX := Lib.hid hX
  clear hX
  refine hoff.mono ?_
  clear hoff
  rintro r w1 ⟨A, cap, rfl, ho, ⟨es', h1⟩, h3⟩
  have HO := Lib.hid ho
  have HN := Lib.hid h1
  have HK := Lib.hid h3
  have HR1 := Lib.hid (HR.out.kept h3 fun hF => by have := HFL.out _ hF; omega)
  have HL := Lib.hid HR.out.lt
  clear ho h1 h3
  go_wp2_with (refine wpList_store_box rfl 44 (.tmp 4) (.tmp 9) rfl w.heap.size (cpC X.1.1 A cap) rfl rfl 44 (cpC zeroCp none 0) HR1.out (size_cp.trans rfl) rfl (cpC_one _ _ _) ?_; intro w4 HB4 hk4)
  refine bodyPost_ret (results_cell_slot (show Try.f20.results = #[.cell 4 44, .tmp 5] by kernel_rfl) _ _ _ _ w.heap.size rfl (load_CP HB4.out) rfl) rfl ?_
  have hl := HL.out
  rw [HX.out]
  exact ⟨A, cap, rfl, own_base (hk4.own HO.out fun k e e2 => by have := (HO.out.lt k e).1; omega) (by omega), ⟨es', HN.out.kept hk4 fun k e e2 => by have := HFL.out k e; omega⟩, ((HA.out.more fun _ _ e => e.elim).trans HK.out fun k _ e => e).trans hk4 fun k hk e => by omega⟩
end Go.Proofs.Ytopcogogpbcbhaa
