/- The walks of a network's found at copies, and where nothing is told. Conditions: the network lies in memory; what is done with a copy keeps its contract. -/
import Derived.Test.YtopcogogpbcbhaaNFnd
namespace Go.Proofs.Ytopcogogpbcbhaa
open Go Go.RowKit

theorem results_cell_slot {fn : Func} {p q : Tmp} {ty : TypeId} (h : fn.results = #[.cell p ty, .tmp q]) (tmps : Array Value) (w : World) (v u : Value) (g : Nat)
    (hp : tmps.getD p undef = .pointer (some ⟨g, 0, none⟩)) (hl : (loadVar ty ⟨g, 0, none⟩).run Try.prog w = .ok v w) (hq : tmps.getD q undef = u) :
    (results fn tmps).run Try.prog w = .ok (.tuple #[v, u]) w := by
  have hp' : tmps[p]?.getD undef = .pointer (some ⟨g, 0, none⟩) := by simpa using hp
  have hq' : tmps[q]?.getD undef = u := by simpa using hq
  simp [results, h, hp', hq', asAddr, hl]
theorem size_no : (Try.prog.info? 90).map (·.size) = some 0 := by kernel_rfl
set_option maxRecDepth 100000 in
set_option maxHeartbeats 1600000 in
theorem FoundC_any (p : Nat) (F : Nat → Prop) (s : Nt) (es : List Ce) (w : World) (h : NetAt w p F s es) (n : Int) (hn : (Lit.int .i64 n).wf = true) (g : Nat) (caps : Array Value) (R : Ce → Cp → Option Addr → Nat → Int → World → World → Prop) (he : ∀ args w, (callFunc g args).run Try.prog w = .ok (.enter g args) w)
    (hdo : ∀ x ∈ es, s.get n = some x.c → ∀ W, Kept (fun _ => False) w W → Calls Try.prog g (#[.pointer (some ⟨x.q, 0, none⟩)] ++ caps) W (fun r W' => ∃ c A cap e, r = .returned (.tuple #[.agg (cpC c A cap), .int .i64 e]) ∧ Kept F W W' ∧ R x c A cap e W W')) :
    Calls Try.prog 55 #[.pointer (some ⟨p, 0, none⟩), .int .i64 n, .func (.func g) #[] caps] w (fun r w' => (s.get n = none ∧ r = .returned (.tuple #[.agg (cpC zeroCp none 0), .int .i64 11]) ∧ Kept (fun _ => False) w w') ∨
      (∃ x ∈ es, s.get n = some x.c ∧ ∃ c A cap e, r = .returned (.tuple #[.agg (cpC c A cap), .int .i64 e]) ∧ ∃ W W', Kept (fun _ => False) w W ∧ w.heap.size + 1 < W.heap.size ∧ Kept F W W' ∧ R x c A cap e W W' ∧ Kept (fun k => k = w.heap.size) W' w')) := by
  have hka : Kept (fun _ => False) w ((w.alloc (.cells (cpC zeroCp none 0) 44)).alloc (.cells (cpC zeroCp none 0) 44)) := ((Kept.refl _ _).alloc _).alloc _
  have HA := Lib.hid hka
  have HNET := Lib.hid (h.fresh hka)
  have HFL := Lib.hid h.lt
  have HB6 := Lib.hid ((Box.new w 44 (cpC zeroCp none 0)).alloc (.cells (cpC zeroCp none 0) 44))
  have HB8 := Lib.hid ((Box.new (w.alloc (.cells (cpC zeroCp none 0) 44)) 44 (cpC zeroCp none 0)).at_eq (show _ = w.heap.size + 1 by simp))
  have HDO := Lib.hid hdo
  clear h hdo hka
  go_enter Try.func55, Try.ntmps55
  go_upto_region 2 with (fail)
  have hzz : (w.alloc (.cells #[.int .i64 0, .int .i64 0, .int .i64 0, .slice none 0 0, .int .i64 0, .bool false] 44)).alloc (.cells #[.int .i64 0, .int .i64 0, .int .i64 0, .slice none 0 0, .int .i64 0, .bool false] 44) = (w.alloc (.cells (cpC zeroCp none 0) 44)).alloc (.cells (cpC zeroCp none 0) 44) := rfl
  rw [hzz]
  clear hzz
  generalize (w.alloc (.cells (cpC zeroCp none 0) 44)).alloc (.cells (cpC zeroCp none 0) 44) = w0 at HA HNET HB6 HB8 ⊢
  obtain ⟨mb, hp, hm⟩ := HNET.out.box
  have x1 : w0.cell? ⟨p, 1, none⟩ = some (.map mb) := (hp.cell 1).trans rfl
  clear hp
  rcases hm with ⟨rfl, rfl⟩ | ⟨b, D, rfl, hFb, hmap, hD⟩
  · have hlk := Maps.look_nil (P := Try.prog) (w := w0) true (Maps.int_keyed Try.underlying3) Try.underlying36 (z := .pointer none) rfl (Maps.keyOf_int_mk Try.underlying3 hn)
    have HG := Lib.hid (HNET.out.get_no (n := n) rfl)
    go_wp2_with (first | refine wpList_load_box rfl _ _ rfl (w.heap.size + 1) rfl 44 (cpC zeroCp none 0) _ HB8.out Try.underlying44 rfl (size_cp.trans rfl) ?_ | (refine wpList_store_box rfl 44 (.tmp 6) (.tmp 25) rfl w.heap.size (cpC zeroCp none 0) rfl rfl 44 (cpC zeroCp none 0) HB6.out (size_cp.trans rfl) rfl (cpC_one _ _ _) ?_; intro w2 HB2 hk2))
    refine bodyPost_ret (results_cell_slot (show Try.f55.results = #[.cell 6 44, .tmp 7] by kernel_rfl) _ _ _ _ w.heap.size rfl (run_loadVar_row w2 w.heap.size _ _ _ (0, 0) _ HB2.out Try.underlying44 rfl (size_cp.trans rfl)) rfl) rfl ?_
    exact ⟨HG.out, rfl, HA.out.trans hk2 fun k hk e => by omega⟩
  · have HMP := Lib.hid hmap
    have HDD := Lib.hid hD
    have HKY := Lib.hid (Maps.keyOf_int_mk (P := Try.prog) Try.underlying3 hn)
    clear hmap hD
    go_wp2_with (at_lookup; refine wpList_lookup_own_ok w0 rfl _ _ 36 rfl 3 75 (Maps.int_keyed Try.underlying3) Try.underlying36 ptrElem (z := .pointer none) rfl (.lit (.bool false)) [] rfl b s.last D rfl HMP.out _ _ rfl HKY.out ?_)
    intro v ps hv
    rcases look_net HNET.out HDD.out hv with ⟨hh, hg⟩ | ⟨hh, x, hx, hg, hxn, rfl⟩
    · rw [hh]
      have HG := Lib.hid hg
      clear hh hv hg
      go_wp2_with (first | refine wpList_load_box rfl _ _ rfl (w.heap.size + 1) rfl 44 (cpC zeroCp none 0) _ HB8.out Try.underlying44 rfl (size_cp.trans rfl) ?_ | (refine wpList_store_box rfl 44 (.tmp 6) (.tmp 25) rfl w.heap.size (cpC zeroCp none 0) rfl rfl 44 (cpC zeroCp none 0) HB6.out (size_cp.trans rfl) rfl (cpC_one _ _ _) ?_; intro w2 HB2 hk2))
      refine bodyPost_ret (results_cell_slot (show Try.f55.results = #[.cell 6 44, .tmp 7] by kernel_rfl) _ _ _ _ w.heap.size rfl (run_loadVar_row w2 w.heap.size _ _ _ (0, 0) _ HB2.out Try.underlying44 rfl (size_cp.trans rfl)) rfl) rfl ?_
      refine .inl ⟨HG.out, rfl, HA.out.trans hk2 fun k hk e => by omega⟩
    · rw [hh]
      have HG := Lib.hid hg
      have HC := Lib.hid (HDO.out x hx hg w0 HA.out)
      clear hh hv hg hxn
      go_wp2_with (go_at_fn g; refine HC.out.mono ?_)
      rintro r w2 ⟨c, A, cap, e, rfl, hkF, hr⟩
      have HR := Lib.hid hr
      have HKF := Lib.hid hkF
      have HLT := Lib.hid (fun (hF : F w.heap.size) => Nat.lt_irrefl _ (HFL.out _ hF))
      have HB7 := Lib.hid (HB6.out.kept hkF HLT.out)
      clear hr hkF
      go_wp2_with (refine wpList_store_box rfl 44 (.tmp 6) (.tmp 29) rfl w.heap.size (cpC c A cap) rfl rfl 44 (cpC zeroCp none 0) HB7.out (size_cp.trans rfl) rfl (cpC_one _ _ _) ?_; intro w3 HB3 hk3)
      refine bodyPost_ret (results_cell_slot (show Try.f55.results = #[.cell 6 44, .tmp 7] by kernel_rfl) _ _ _ _ w.heap.size rfl (run_loadVar_row w3 w.heap.size _ _ _ (0, 0) _ HB3.out Try.underlying44 rfl (size_cp.trans rfl)) rfl) rfl ?_
      exact .inr ⟨x, hx, HG.out, c, A, cap, e, rfl, w0, w2, HA.out, HB8.out.lt, HKF.out, HR.out, hk3⟩
set_option maxRecDepth 100000 in
set_option maxHeartbeats 1600000 in
theorem FoundN_any (p : Nat) (F : Nat → Prop) (s : Nt) (es : List Ce) (w : World) (h : NetAt w p F s es) (n : Int) (hn : (Lit.int .i64 n).wf = true) (g : Nat) (caps : Array Value) (R : Ce → Int → World → World → Prop) (he : ∀ args w, (callFunc g args).run Try.prog w = .ok (.enter g args) w)
    (hdo : ∀ x ∈ es, s.get n = some x.c → ∀ W, Kept (fun _ => False) w W → Calls Try.prog g (#[.pointer (some ⟨x.q, 0, none⟩)] ++ caps) W (fun r W' => ∃ e, r = .returned (.tuple #[.agg (#[]), .int .i64 e]) ∧ Kept F W W' ∧ R x e W W')) :
    Calls Try.prog 43 #[.pointer (some ⟨p, 0, none⟩), .int .i64 n, .func (.func g) #[] caps] w (fun r w' => (s.get n = none ∧ r = .returned (.tuple #[.agg (#[]), .int .i64 11]) ∧ Kept (fun _ => False) w w') ∨
      (∃ x ∈ es, s.get n = some x.c ∧ ∃ e, r = .returned (.tuple #[.agg (#[]), .int .i64 e]) ∧ ∃ W W', Kept (fun _ => False) w W ∧ w.heap.size + 1 < W.heap.size ∧ Kept F W W' ∧ R x e W W' ∧ Kept (fun k => k = w.heap.size) W' w')) := by
  have hka : Kept (fun _ => False) w ((w.alloc (.cells (#[]) 90)).alloc (.cells (#[]) 90)) := ((Kept.refl _ _).alloc _).alloc _
  have HA := Lib.hid hka
  have HNET := Lib.hid (h.fresh hka)
  have HFL := Lib.hid h.lt
  have HB6 := Lib.hid ((Box.new w 90 (#[])).alloc (.cells (#[]) 90))
  have HB8 := Lib.hid ((Box.new (w.alloc (.cells (#[]) 90)) 90 (#[])).at_eq (show _ = w.heap.size + 1 by simp))
  have HDO := Lib.hid hdo
  clear h hdo hka
  go_enter Try.func43, Try.ntmps43
  go_upto_region 2 with (fail)
  have hzz : (w.alloc (.cells #[] 90)).alloc (.cells #[] 90) = (w.alloc (.cells (#[]) 90)).alloc (.cells (#[]) 90) := rfl
  rw [hzz]
  clear hzz
  generalize (w.alloc (.cells (#[]) 90)).alloc (.cells (#[]) 90) = w0 at HA HNET HB6 HB8 ⊢
  obtain ⟨mb, hp, hm⟩ := HNET.out.box
  have x1 : w0.cell? ⟨p, 1, none⟩ = some (.map mb) := (hp.cell 1).trans rfl
  clear hp
  rcases hm with ⟨rfl, rfl⟩ | ⟨b, D, rfl, hFb, hmap, hD⟩
  · have hlk := Maps.look_nil (P := Try.prog) (w := w0) true (Maps.int_keyed Try.underlying3) Try.underlying36 (z := .pointer none) rfl (Maps.keyOf_int_mk Try.underlying3 hn)
    have HG := Lib.hid (HNET.out.get_no (n := n) rfl)
    go_wp2_with (fail)
    refine bodyPost_ret (results_cell_slot (show Try.f43.results = #[.cell 6 90, .tmp 7] by kernel_rfl) _ _ _ _ w.heap.size rfl (run_loadVar_row w0 w.heap.size _ _ _ (0, 0) _ HB6.out Try.underlying90 rfl size_no) rfl) rfl ?_
    exact ⟨HG.out, rfl, HA.out⟩
  · have HMP := Lib.hid hmap
    have HDD := Lib.hid hD
    have HKY := Lib.hid (Maps.keyOf_int_mk (P := Try.prog) Try.underlying3 hn)
    clear hmap hD
    go_wp2_with (at_lookup; refine wpList_lookup_own_ok w0 rfl _ _ 36 rfl 3 75 (Maps.int_keyed Try.underlying3) Try.underlying36 ptrElem (z := .pointer none) rfl (.lit (.bool false)) [] rfl b s.last D rfl HMP.out _ _ rfl HKY.out ?_)
    intro v ps hv
    rcases look_net HNET.out HDD.out hv with ⟨hh, hg⟩ | ⟨hh, x, hx, hg, hxn, rfl⟩
    · rw [hh]
      have HG := Lib.hid hg
      clear hh hv hg
      go_wp2_with (fail)
      refine bodyPost_ret (results_cell_slot (show Try.f43.results = #[.cell 6 90, .tmp 7] by kernel_rfl) _ _ _ _ w.heap.size rfl (run_loadVar_row w0 w.heap.size _ _ _ (0, 0) _ HB6.out Try.underlying90 rfl size_no) rfl) rfl ?_
      refine .inl ⟨HG.out, rfl, HA.out⟩
    · rw [hh]
      have HG := Lib.hid hg
      have HC := Lib.hid (HDO.out x hx hg w0 HA.out)
      clear hh hv hg hxn
      go_wp2_with (go_at_fn g; refine HC.out.mono ?_)
      rintro r w2 ⟨e, rfl, hkF, hr⟩
      have HR := Lib.hid hr
      have HKF := Lib.hid hkF
      have HLT := Lib.hid (fun (hF : F w.heap.size) => Nat.lt_irrefl _ (HFL.out _ hF))
      have HB7 := Lib.hid (HB6.out.kept hkF HLT.out)
      clear hr hkF
      go_wp2_with (fail)
      refine bodyPost_ret (results_cell_slot (show Try.f43.results = #[.cell 6 90, .tmp 7] by kernel_rfl) _ _ _ _ w.heap.size rfl (run_loadVar_row w2 w.heap.size _ _ _ (0, 0) _ HB7.out Try.underlying90 rfl size_no) rfl) rfl ?_
      exact .inr ⟨x, hx, HG.out, e, rfl, w0, w2, HA.out, HB8.out.lt, HKF.out, HR.out, Kept.refl _ _⟩
end Go.Proofs.Ytopcogogpbcbhaa
