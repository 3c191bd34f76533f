/- The walks of net's spoilt and Cut. Conditions: the network lies in memory; the numbers are ints. -/
import Derived.Test.YtopcogogpbcbhaaNDel
namespace Go.Proofs.Ytopcogogpbcbhaa
open Go Go.RowKit

theorem pw_inj {α : Type} {R : α → α → Prop} : ∀ (l : List α), l.Pairwise R → ∀ x ∈ l, ∀ y ∈ l, x = y ∨ R x y ∨ R y x
  | [], _, x, hx, _, _ => by simp at hx
  | a :: l, h, x, hx, y, hy => by
    obtain ⟨h1, h2⟩ := List.pairwise_cons.1 h
    rcases List.mem_cons.1 hx with ex | hx <;> rcases List.mem_cons.1 hy with ey | hy
    · exact .inl (ex.trans ey.symm)
    · exact .inr (.inl (ex ▸ h1 y hy))
    · exact .inr (.inr (ey ▸ h1 x hx))
    · exact pw_inj l h2 x hx y hy
section
variable {w w' : World} {p : Nat} {F : Nat → Prop} {s : Nt} {es : List Ce} {x y : Ce}
theorem NetAt.one (h : NetAt w p F s es) (hx : x ∈ es) (hy : y ∈ es) (hn : x.c.num = y.c.num) : x = y := by
  have hp : es.Pairwise fun a b => a.c.num < b.c.num := by
    have := h.ok.up
    rw [← h.tie] at this
    exact (List.pairwise_map (f := fun x : Ce => x.c)).1 this
  rcases pw_inj es hp x hx y hy with e | e | e
  · exact e
  · omega
  · omega
def Ce.turn (d : List Int) (A : Option Addr) (cap : Nat) (x : Ce) : Ce := { x with c := x.c.turn d, dA := A, dc := cap }
/-- A copy's bytes are set anew. -/
theorem NetAt.turned (h : NetAt w p F s es) (hx : x ∈ es) {n : Int} (hn : (x.c.num : Int) = n) {d : List Int} {A : Option Addr} {cap : Nat} (hby : isByte d) (hlen : d.length ≤ 60000) (hq : Box w' x.q 87 #[.pointer (some ⟨x.f, 0, none⟩), .int .i64 x.c.num, .slice A d.length cap, .bool true])
    (hd : w'.ownsRow 0 5 1 (.slice A d.length cap) d.length (bys d)) (hdn : ∀ k, (Value.slice A d.length cap).ownBlock = some k → w.heap.size ≤ k) (hk : Kept (fun k => k = x.q) w w') : NetPost w p F (s.put n d) w' := by
  obtain ⟨mb, hp, hm⟩ := h.box
  have hxq := h.ats x hx
  refine ⟨fun k => F k ∨ (w.heap.size ≤ k ∧ k < w'.heap.size), es.map fun y => if y.c.is n = true then y.turn d A cap else y, ⟨?_, ⟨mb, hp.kept hk (Box.ne hp hxq.q (by decide)), ?_⟩, .inl h.fp, ?_, ?_, fun k e => e.elim (fun e => Nat.lt_of_lt_of_le (h.lt k e) hk.size) fun e => e.2, h.ok.put n hby hlen, h.last⟩, fun k e => e.imp id fun e => e.1, hk.more fun k _ e => by subst e; exact hxq.Fq⟩
  · rw [List.map_map, Nt.put, ← h.tie, List.map_map]
    refine List.map_congr_left fun y _ => ?_
    show (if y.c.is n = true then y.turn d A cap else y).c = if y.c.is n = true then y.c.turn d else y.c
    split <;> rfl
  · rcases hm with ⟨rfl, rfl⟩ | ⟨b, D, rfl, hF, hmap, hD⟩
    · exact .inl ⟨rfl, rfl⟩
    · refine .inr ⟨b, D, rfl, .inl hF, ownsMap_kept hmap hk fun e => (Off.map hmap).box hxq.q e.symm, hD.same _ fun y => ?_⟩
      split
      · exact ⟨rfl, rfl⟩
      · exact ⟨rfl, rfl⟩
  · intro z hz
    obtain ⟨y, hy, rfl⟩ := List.mem_map.1 hz
    by_cases hi : y.c.is n = true
    · rw [if_pos hi]
      obtain rfl : y = x := h.one hy hx (by
        have : (y.c.num : Int) = n := by simpa [Cp.is] using hi
        omega)
      exact ⟨hq, hxq.f.kept hk (Box.ne hxq.f hxq.q (by decide)), hd, hk.own hxq.cl (fun k e e2 => by subst e2; exact own_box_ne hxq.cl hxq.q (by decide) e), .inl hxq.Fq, .inl hxq.Ff, fun k e => .inr ⟨hdn k e, (hd.lt k e).2⟩, fun k e => .inl (hxq.Fc k e)⟩
    · rw [if_neg hi]
      have hy' := h.ats y hy
      have hne : ¬ y.q = x.q := fun e => by
        rcases pw_inj es h.q y hy x hx with e1 | e1 | e1
        · subst e1
          exact hi (by simpa [Cp.is] using hn)
        · exact e1 e
        · exact e1 e.symm
      exact hy'.keep hk hne (Box.ne hy'.f hxq.q (by decide)) (fun k e e2 => by subst e2; exact own_box_ne hy'.d hxq.q (by decide) e) (fun k e e2 => by subst e2; exact own_box_ne hy'.cl hxq.q (by decide) e) fun k e => .inl e
  · refine List.pairwise_map.2 (h.q.imp fun {a b} hab => ?_)
    have ha : (if a.c.is n = true then a.turn d A cap else a).q = a.q := by split <;> rfl
    have hb : (if b.c.is n = true then b.turn d A cap else b).q = b.q := by split <;> rfl
    rw [ha, hb]
    exact hab
end
def SpoPost (w : World) (x : Ce) (v : Value) (r : Ending) (w' : World) : Prop :=
  (x.c.bad = true ∧ r = .returned (.tuple #[.agg #[], .int .i64 12]) ∧ Kept (fun _ => False) w w') ∨ (x.c.bad = false ∧ r = .returned (.tuple #[.agg #[], .int .i64 0]) ∧ Box w' x.q 87 #[.pointer (some ⟨x.f, 0, none⟩), .int .i64 x.c.num, v, .bool true] ∧ Kept (fun k => k = x.q) w w')
theorem load_NO {w : World} {g : Nat} (hb : Box w g 90 #[]) : (loadVar 90 ⟨g, 0, none⟩).run Try.prog w = .ok (.agg #[]) w :=
  run_loadVar_row w g _ _ _ (0, 0) _ hb Try.underlying90 rfl size_no
set_option maxRecDepth 100000 in
set_option maxHeartbeats 3200000 in
theorem Spoilt_any (x : Ce) (w : World) (hq : Box w x.q 87 x.qC) (A : Option Addr) (n cap : Nat) : Calls Try.prog 45 #[.pointer (some ⟨x.q, 0, none⟩), .slice A n cap] w (SpoPost w x (.slice A n cap)) := by
  have hka : Kept (fun _ => False) w (w.alloc (.cells #[] 90)) := (Kept.refl _ _).alloc _
  have HA := Lib.hid hka
  have HQ := Lib.hid (hq.kept hka id)
  have HR := Lib.hid (Box.new w 90 #[])
  have hqw : x.q < w.heap.size := hq.lt
  clear hq hka
  cases hb : x.c.bad with
  | true =>
    go_enter Try.func45, Try.ntmps45
    go_upto_region 1 with (fail)
    generalize w.alloc (.cells #[] 90) = w0 at HA HQ HR ⊢
    have x3 : w0.cell? ⟨x.q, 3, none⟩ = some (.bool true) := (HQ.out.cell 3).trans (by rw [← hb]; rfl)
    go_wp2_with (fail)
    refine bodyPost_ret (results_cell_slot (show Try.f45.results = #[.cell 4 90, .tmp 5] by kernel_rfl) _ _ _ _ w.heap.size rfl (load_NO HR.out) rfl) rfl ?_
    exact .inl ⟨hb, rfl, HA.out⟩
  | false =>
    go_enter Try.func45, Try.ntmps45
    go_upto_region 1 with (fail)
    generalize w.alloc (.cells #[] 90) = w0 at HA HQ HR ⊢
    have x3 : w0.cell? ⟨x.q, 3, none⟩ = some (.bool false) := (HQ.out.cell 3).trans (by rw [← hb]; rfl)
    have x2 : w0.cell? ⟨x.q, 2, none⟩ = some (.slice x.dA x.c.data.length x.dc) := (HQ.out.cell 2).trans rfl
    have f2 : w0.frozen? ⟨x.q, 2, none⟩ = false := HQ.out.frozen 2
    have f3 : w0.frozen? ⟨x.q, 3, none⟩ = false := HQ.out.frozen 3
    have hks : Kept (fun k => k = x.q) w0 ((w0.setCell ⟨x.q, 2, none⟩ (.slice A n cap)).setCell ⟨x.q, 3, none⟩ (.bool true)) := Kept.at (g := x.q) ((Kept.refl (fun k => k = x.q) _).at 2 _ (.inl rfl)) 3 _ (.inl rfl)
    have HQ2 := Lib.hid (show Box ((w0.setCell ⟨x.q, 2, none⟩ (.slice A n cap)).setCell ⟨x.q, 3, none⟩ (.bool true)) x.q 87 #[.pointer (some ⟨x.f, 0, none⟩), .int .i64 x.c.num, .slice A n cap, .bool true] from by
      have := (HQ.out.set 2 (.slice A n cap)).set 3 (.bool true)
      simpa [Ce.qC] using this)
    have HR2 := Lib.hid (HR.out.kept hks (by omega))
    have HK2 := Lib.hid ((HA.out.more fun _ _ e => e.elim).trans hks fun k _ e => e)
    clear hks
    go_wp2_with (fail)
    refine bodyPost_ret (results_cell_slot (show Try.f45.results = #[.cell 4 90, .tmp 5] by kernel_rfl) _ _ _ _ w.heap.size rfl (load_NO HR2.out) rfl) rfl ?_
    exact .inr ⟨hb, rfl, HQ2.out, HK2.out⟩
/-- What one of the two changes leaves. -/
def ChgR (p : Nat) (F : Nat → Prop) (f : Ce → Int × Nt) (x : Ce) (e : Int) (W W' : World) : Prop := e = (f x).1 ∧ ∃ F' es', NetAt W' p F' (f x).2 es' ∧ ∀ k, F' k → F k ∨ W.heap.size ≤ k
def cutV (s : Nt) (n k : Int) (x : Ce) : Int × Nt := if cutOk x.c.data k = true then (if x.c.bad = true then (12, s) else (0, s.put n (x.c.data.take k.toNat))) else (1, s)
theorem cut_is {s : Nt} {n k : Int} {x : Ce} (h : s.get n = some x.c) : s.cut n k = cutV s n k x := by unfold Nt.cut; rw [h]; rfl
theorem isByte_take {l : List Int} (h : isByte l) (k : Nat) : isByte (l.take k) := fun x hx => h x (List.mem_of_mem_take hx)
set_option maxRecDepth 100000 in
set_option maxHeartbeats 3200000 in
theorem Cut1_any (p : Nat) (F : Nat → Prop) (s : Nt) (es : List Ce) (w : World) (h : NetAt w p F s es) (x : Ce) (hx : x ∈ es) (n k : Int) (hn : (x.c.num : Int) = n) (B : Nat) (hB : Box w B 3 #[.int .i64 k]) :
    Calls Try.prog 46 #[.pointer (some ⟨x.q, 0, none⟩), .pointer (some ⟨B, 0, none⟩)] w (fun r w' => ∃ e, r = .returned (.tuple #[.agg #[], .int .i64 e]) ∧ Kept F w w' ∧ ChgR p F (cutV s n k) x e w w') := by
  have hcx : x.c ∈ s.l := by rw [← h.tie]; exact List.mem_map_of_mem hx
  have hlen := (h.ok.len x.c hcx).2
  have hcap := (own_caps (h.ats x hx).d).1
  have HBY := Lib.hid (h.ok.by_ x.c hcx).2
  have hka : Kept (fun _ => False) w (w.alloc (.cells #[] 90)) := (Kept.refl _ _).alloc _
  have HA := Lib.hid hka
  have HNET := Lib.hid (h.fresh hka)
  have HX := Lib.hid ((h.ats x hx).kept hka fun _ _ => id)
  have HR := Lib.hid (Box.new w 90 #[])
  have HB := Lib.hid (hB.kept hka id)
  have HFL := Lib.hid h.lt
  have hqw : ¬ x.q = w.heap.size := fun e => by have := (h.ats x hx).q.lt; omega
  have hBq : ¬ B = x.q := Box.ne hB (h.ats x hx).q (by decide)
  clear h hka hB hcx
  have hcase : k < 0 ∨ (0 ≤ k ∧ (x.c.data.length : Int) ≤ k) ∨ (0 ≤ k ∧ k < (x.c.data.length : Int)) := by omega
  rcases hcase with h1 | ⟨h1, h2⟩ | ⟨h1, h2⟩
  · have HV := Lib.hid (show cutV s n k x = (1, s) from if_neg (by unfold cutOk; rw [decide_eq_false (by omega)]; decide))
    have d1 : decide (k < 0) = true := decide_eq_true h1
    go_enter Try.func46, Try.ntmps46
    go_upto_region 1 with (fail)
    generalize w.alloc (.cells #[] 90) = w0 at HA HNET HX HR HB ⊢
    have b0 : w0.cell? ⟨B, 0, none⟩ = some (.int .i64 k) := (HB.out.cell 0).trans rfl
    have x2 : w0.cell? ⟨x.q, 2, none⟩ = some (.slice x.dA x.c.data.length x.dc) := (HX.out.q.cell 2).trans rfl
    go_quiet (fail)
    go_wp2_with (fail)
    refine bodyPost_ret (results_cell_slot (show Try.f46.results = #[.cell 3 90, .tmp 4] by kernel_rfl) _ _ _ _ w.heap.size rfl (load_NO (HR.out.kept (Kept.drewN_eq (S := fun _ => False) _) id)) rfl) rfl ?_
    exact ⟨1, rfl, (HA.out.more fun _ _ e => e.elim).trans (Kept.drewN_eq (S := fun _ => False) _) fun _ _ e => e.elim, by rw [HV.out], F, es, by rw [HV.out]; exact HNET.out.fresh (Kept.drewN_eq _), fun _ e => .inl e⟩
  · have HV := Lib.hid (show cutV s n k x = (1, s) from if_neg (by unfold cutOk; rw [decide_eq_false (by omega)]; decide))
    have d1 : decide (k < 0) = false := decide_eq_false (by omega)
    have d2 : ¬ k < 0 := by omega
    go_enter Try.func46, Try.ntmps46
    go_upto_region 1 with (fail)
    generalize w.alloc (.cells #[] 90) = w0 at HA HNET HX HR HB ⊢
    have b0 : w0.cell? ⟨B, 0, none⟩ = some (.int .i64 k) := (HB.out.cell 0).trans rfl
    have x2 : w0.cell? ⟨x.q, 2, none⟩ = some (.slice x.dA x.c.data.length x.dc) := (HX.out.q.cell 2).trans rfl
    go_quiet (fail)
    go_wp2_with (fail)
    refine bodyPost_ret (results_cell_slot (show Try.f46.results = #[.cell 3 90, .tmp 4] by kernel_rfl) _ _ _ _ w.heap.size rfl (load_NO (HR.out.kept (Kept.drewN_eq (S := fun _ => False) _) id)) rfl) rfl ?_
    exact ⟨1, rfl, (HA.out.more fun _ _ e => e.elim).trans (Kept.drewN_eq (S := fun _ => False) _) fun _ _ e => e.elim, by rw [HV.out], F, es, by rw [HV.out]; exact HNET.out.fresh (Kept.drewN_eq _), fun _ e => .inl e⟩
  · obtain ⟨m, rfl⟩ : ∃ m : Nat, k = m := ⟨k.toNat, by omega⟩
    have hm : m ≤ x.dc := by omega
    have hml : (x.c.data.take m).length = m := by rw [List.length_take]; omega
    have d1 : decide ((m : Int) < 0) = false := decide_eq_false (by omega)
    have h2' : ¬ (x.c.data.length : Int) ≤ m := by omega
    go_enter Try.func46, Try.ntmps46
    go_upto_region 1 with (fail)
    generalize w.alloc (.cells #[] 90) = w0 at HA HNET HX HR HB ⊢
    have b0 : w0.cell? ⟨B, 0, none⟩ = some (.int .i64 m) := (HB.out.cell 0).trans rfl
    have x2 : w0.cell? ⟨x.q, 2, none⟩ = some (.slice x.dA x.c.data.length x.dc) := (HX.out.q.cell 2).trans rfl
    go_quiet (fail)
    go_upto_region 3 with (fail)
    clear b0 x2
    generalize hw1 : World.drewN w0 _ = w1
    have hkq : Kept (fun _ => False) w0 w1 := hw1 ▸ Kept.drewN_eq _
    have hkd : Kept (fun _ => False) w0 w1.drew := hkq.drew
    have HND := Lib.hid (HNET.out.fresh hkd)
    have HXD := Lib.hid (HX.out.kept hkd fun _ _ => id)
    have HRD := Lib.hid (HR.out.kept hkd id)
    have HBD := Lib.hid (HB.out.kept hkd id)
    have HAD := Lib.hid (HA.out.trans hkd fun _ _ e => e)
    clear hw1 hkq hkd HA HNET HX HR HB
    refine wp_region_held_drew (S := fun Wz => Kept (fun k => k = x.q) w1.drew Wz) (by kernel_rfl) (Kept.refl _ _) fun hS => ?_
    generalize w1.drew = W at HND HXD HRD HBD HAD hS ⊢
    have x2 : W.cell? ⟨x.q, 2, none⟩ = some (.slice x.dA x.c.data.length x.dc) := (HXD.out.q.cell 2).trans rfl
    refine held_takeTo 17 (i := 0) (v := .pointer (some ⟨x.q, 0, none⟩)) rfl rfl (by kernel_rfl) (by kernel_rfl) (by kernel_rfl) (fun _ _ _ h => h) rfl hS (fun Wz hW => by go_simp) ?_
    simp only [List.setIfInBounds_toArray, List.set_cons_zero, List.set_cons_succ]
    refine held_takeTo 18 (i := 1) (v := .pointer (some ⟨x.q, 0, none⟩)) rfl rfl (by kernel_rfl) (by kernel_rfl) (by kernel_rfl) (fun _ _ _ h => h) rfl hS (fun Wz hW => by go_simp) ?_
    simp only [List.setIfInBounds_toArray, List.set_cons_zero, List.set_cons_succ]
    refine held_takeTo 19 (i := 2) (v := .pointer (some ⟨x.q, 0, none⟩)) rfl rfl (by kernel_rfl) (by kernel_rfl) (by kernel_rfl) (fun _ _ _ h => h) rfl hS (fun Wz hW => by go_simp) ?_
    simp only [List.setIfInBounds_toArray, List.set_cons_zero, List.set_cons_succ]
    refine held_takeTo 20 (i := 3) (v := .pointer (some ⟨x.q, 2, none⟩)) rfl rfl (by kernel_rfl) (by kernel_rfl) (by kernel_rfl) (fun _ _ _ h => h) rfl hS (fun Wz hW => by go_simp) ?_
    simp only [List.setIfInBounds_toArray, List.set_cons_zero, List.set_cons_succ]
    refine held_takeTo 22 (i := 5) (v := .int .i64 (m : Int)) rfl rfl (by kernel_rfl) (by kernel_rfl) (by kernel_rfl) (fun _ _ _ h => h) rfl hS (fun Wz hW => by (have hc : Wz.cell? ⟨B, 0, none⟩ = some (.int .i64 (m : Int)) := ((HBD.out.kept hW hBq).cell 0).trans rfl; go_simp)) ?_
    simp only [List.setIfInBounds_toArray, List.set_cons_zero, List.set_cons_succ]
    refine held_one (i := 4) (by kernel_rfl) rfl fun K hK => ?_
    go_wp2_with (fail)
    refine hK.out _ _ hS fun _ => ?_
    clear hK K
    refine held_one (i := 6) (by kernel_rfl) rfl fun K hK => ?_
    go_wp2_with (fail)
    refine hK.out _ _ hS fun _ => ?_
    clear hK K
    refine held_one (i := 7) (by kernel_rfl) rfl fun K hK => ?_
    go_wp2_with (fail)
    have hcl := Clone_any x.dA (x.c.data.take m) x.dc W (BytesAt.pre (m := x.c.data.drop m) (by rw [List.take_append_drop]; exact BytesAt.of_own HXD.out.d)) (fun e => by rw [own_noneNil HXD.out.d e, List.take_nil]) (by omega)
    rw [hml] at hcl
    refine hcl.mono ?_
    clear hcl
    rintro r w2 ⟨A, cap, rfl, ho, hk⟩
    rw [hml] at ho
    have HO2 := Lib.hid ho
    have HN2 := Lib.hid (HND.out.fresh hk)
    have HX2 := Lib.hid (HXD.out.kept hk fun _ _ => id)
    have HR2 := Lib.hid (HRD.out.kept hk id)
    have HA2 := Lib.hid (HAD.out.trans hk fun _ _ e => e)
    have HKW := Lib.hid hk
    have hS2 : Kept (fun k => k = x.q) W w2 := hS.trans hk fun _ _ e => e.elim
    clear ho hk x2
    rw [hml]
    go_wp2_with (fail)
    refine hK.out _ _ hS2 fun _ => ?_
    clear hK K
    refine held_one (i := 8) (by kernel_rfl) rfl fun K hK => ?_
    go_wp2_with (fail)
    refine (Spoilt_any x w2 HX2.out.q A m cap).mono ?_
    rintro r w3 hsp
    have hfin : ∃ e, r = .returned (.tuple #[.agg #[], .int .i64 e]) ∧ Kept (fun k => k = x.q) w2 w3 ∧ e = (cutV s n m x).1 ∧ NetPost W p F (cutV s n m x).2 w3 := by
      have hok : cutOk x.c.data m = true := by unfold cutOk; exact decide_eq_true ⟨by omega, h2⟩
      rcases hsp with ⟨hb, hr, hk⟩ | ⟨hb, hr, hq, hk⟩
      · rw [show cutV s n m x = (12, s) from by unfold cutV; rw [if_pos hok, if_pos hb]]
        exact ⟨12, hr, hk.more fun _ _ e => e.elim, rfl, F, es, HN2.out.fresh hk, fun _ e => .inl e, (HKW.out.trans hk fun _ _ e => e).more fun _ _ e => e.elim⟩
      · rw [show cutV s n m x = (0, s.put n (x.c.data.take m)) from by unfold cutV; rw [if_pos hok, if_neg (by rw [hb]; decide)]; rfl]
        refine ⟨0, hr, hk, rfl, HND.out.turned hx hn (isByte_take HBY.out m) (by omega) (cap := cap) (A := A) (by rw [hml]; exact hq) ?_ ?_ ((HKW.out.more fun _ _ e => e.elim).trans hk fun k _ e => e)⟩
        · rw [hml]
          exact hk.own (own_base HO2.out (Nat.zero_le _)) fun k e e2 => by subst e2; exact own_box_ne HO2.out HX2.out.q (by decide) e
        · rw [hml]
          exact fun k e => (HO2.out.lt k e).1
    obtain ⟨e, rfl, hk3, he, hp3⟩ := hfin
    have HE := Lib.hid he
    have HP3 := Lib.hid hp3
    have HR3 := Lib.hid (HR2.out.kept hk3 (Ne.symm hqw))
    have hS3 : Kept (fun k => k = x.q) W w3 := hS2.trans hk3 fun _ _ e => e
    clear hsp hk3 he hp3
    go_wp2_with (fail)
    refine hK.out _ _ hS3 fun _ => ?_
    clear hK K
    refine held_takeTo 26 (i := 9) (v := .agg #[]) rfl rfl (by kernel_rfl) (by kernel_rfl) (by kernel_rfl) (fun _ _ _ h => h) rfl hS3 (fun Wz hW => by go_simp) ?_
    simp only [List.setIfInBounds_toArray, List.set_cons_zero, List.set_cons_succ]
    refine held_takeTo 27 (i := 10) (v := .int .i64 e) rfl rfl (by kernel_rfl) (by kernel_rfl) (by kernel_rfl) (fun _ _ _ h => h) rfl hS3 (fun Wz hW => by go_simp) ?_
    simp only [List.setIfInBounds_toArray, List.set_cons_zero, List.set_cons_succ]
    refine held_one (i := 11) (by kernel_rfl) rfl fun K hK => ?_
    go_wp2_with (fail)
    refine hK.out _ _ hS3 fun _ => ?_
    clear hK K
    refine held_one (i := 12) (by kernel_rfl) rfl fun K hK => ?_
    go_wp2_with (fail)
    refine hK.out _ _ hS3 fun _ => ?_
    clear hK K
    refine wpAnyH_done (by kernel_rfl) ?_ _
    clear hS hS2 hS3
    go_wp2_with (fail)
    refine bodyPost_ret (results_cell_slot (show Try.f46.results = #[.cell 3 90, .tmp 4] by kernel_rfl) _ _ _ _ w.heap.size rfl (load_NO HR3.out) rfl) rfl ?_
    obtain ⟨F', es', h7, h8, h9⟩ := HP3.out
    exact ⟨e, rfl, (HAD.out.more fun _ _ e => e.elim).trans h9 fun k _ e => e, HE.out, F', es', h7, fun k e => (h8 k e).imp id fun e => Nat.le_trans HAD.out.size e⟩
def OnePost (w : World) (p : Nat) (F : Nat → Prop) (x : Int × Nt) (r : Ending) (w' : World) : Prop := r = .returned (.int .i64 x.1) ∧ NetPost w p F x.2 w'
set_option maxRecDepth 100000 in
set_option maxHeartbeats 3200000 in
theorem Cut_any (p : Nat) (F : Nat → Prop) (s : Nt) (es : List Ce) (w : World) (h : NetAt w p F s es) (n k : Int) (hn : (Lit.int .i64 n).wf = true) :
    Calls Try.prog 24 #[.pointer (some ⟨p, 0, none⟩), .int .i64 n, .int .i64 k] w (OnePost w p F (s.cut n k)) := by
  have hmf : ∀ (fn : Fn) (first cap : Array Value) (w : World), (Instr.makeFunc fn first cap).run Try.prog w = .ok (.func fn first cap) w := fun _ _ _ _ => rfl
  have hka : Kept (fun _ => False) w (w.alloc (.cells #[.int .i64 k] 3)) := (Kept.refl _ _).alloc _
  have HA := Lib.hid hka
  have HNET := Lib.hid (h.fresh hka)
  have HFL := Lib.hid h.lt
  have HB := Lib.hid (Box.new w 3 #[.int .i64 k])
  clear h hka
  go_enter Try.func24, Try.ntmps24
  go_upto_region 1 with (fail)
  generalize w.alloc (.cells #[.int .i64 k] 3) = w0 at HA HNET HB ⊢
  have HF := Lib.hid (FoundN_any p F s es w0 HNET.out n hn 46 #[.pointer (some ⟨w.heap.size, 0, none⟩)] (fun x e W W' => ChgR p F (cutV s n k) x e W W') (enters_of Try.func46 (by kernel_rfl) rfl)
    fun x hx hg W hk => Cut1_any p F s es W (HNET.out.fresh hk) x hx n k (Nt.get_mem hg).2 w.heap.size (HB.out.kept hk id))
  go_wp2_with (fail)
  refine HF.out.mono ?_
  rintro r w1 (⟨hg, rfl, hk1⟩ | ⟨x, hx, hg, e, rfl, W, W', hk1, hlt, hkF, ⟨he, F', es', h7, h8⟩, hk2⟩)
  · have HD := Lib.hid (show s.cut n k = (11, s) by unfold Nt.cut; rw [hg])
    have HK1 := Lib.hid (HA.out.trans hk1 fun _ _ e => e)
    have HN1 := Lib.hid (HNET.out.fresh hk1)
    clear hg hk1
    go_wp2_with (fail)
    go_ret
    rw [HD.out]
    exact ⟨rfl, F, es, HN1.out.fresh ((Kept.refl _ _).alloc _), fun _ e => .inl e, (HK1.out.alloc _).more fun _ _ e => e.elim⟩
  · have HD := Lib.hid (cut_is (k := k) hg)
    have HE := Lib.hid he
    have HK1 := Lib.hid (show Kept F w w1 from (((HA.out.more fun _ _ e => e.elim).trans (hk1.more fun _ _ e => e.elim) fun k _ e => e).trans hkF fun k _ e => e).trans hk2 fun k hk e => by have := HA.out.size; omega)
    have HN1 := Lib.hid (h7.kept hk2 fun k e e2 => (h8 k e).elim (fun e3 => by have := HFL.out k e3; have := HA.out.size; omega) fun e3 => by omega)
    have H8 := Lib.hid (fun k e => (h8 k e).imp id fun e3 => Nat.le_trans (Nat.le_trans HA.out.size hk1.size) e3)
    clear hg he hk1 hlt hkF h7 h8 hk2
    go_wp2_with (fail)
    go_ret
    rw [HD.out]
    exact ⟨by rw [HE.out]; rfl, F', es', HN1.out.fresh ((Kept.refl _ _).alloc _), H8.out, HK1.out.alloc _⟩
end Go.Proofs.Ytopcogogpbcbhaa
