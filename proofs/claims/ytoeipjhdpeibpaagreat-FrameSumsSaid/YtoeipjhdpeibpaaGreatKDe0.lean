/- frame.must, word, the Reader's number, Decode's deferred closure, where nothing is wrong; Decode of no bytes. Conditions: all lies in memory. -/
import Derived.Test.YtoeipjhdpeibpaaGreatKEnc
import Derived.Test.YtoeipjhdpeibpaaGreatVTake
import Derived.Recover
import Derived.WalkLawsBesides
namespace Go.Proofs.YtoeipjhdpeibpaaGreat
open Go Go.RowKit

theorem wp_region_class {P : Program} {C : World → Prop} {id : Nat} {Q : Exit → Act → World → Prop} {a : Act} {w : World} {l : List Oper} (hm : P.follows .mixedOrders = true) (hB : Region.lexB .any l.toArray = true) (hC : C w.drew)
    (h : wpQuiet P l.toArray C (fun a' => ∀ w', C w' → Q .normal a' w') l a) : (Code.region id l.toArray true).wp P Q a w := wp_region_quiet hm hB hC (by simpa using h)
theorem must_ok (w : World) : Calls Tryz.prog 21 #[.int .i64 0] w (fun r w' => r = .returned (.tuple #[]) ∧ w' = w) := by
  go_enter Tryz.func21, Tryz.ntmps21
  go_wp2_with (fail)
  go_end0
  exact ⟨rfl, rfl⟩
set_option maxRecDepth 100000 in
set_option maxHeartbeats 1600000 in
theorem word_11 (g b n c : Nat) (hn : 4 ≤ n) (w : World) (x0 : w.cell? ⟨g, b, none⟩ = some (.int .u8 11)) (x1 : w.cell? ⟨g, b + 1, none⟩ = some (.int .u8 0)) (x2 : w.cell? ⟨g, b + 2, none⟩ = some (.int .u8 0)) (x3 : w.cell? ⟨g, b + 3, none⟩ = some (.int .u8 0)) : Calls Tryz.prog 23 #[.slice (some ⟨g, b, none⟩) n c] w (fun r w' => r = .returned (.int .u32 11) ∧ Kept (fun _ => False) w w') := by
  have h0 : (0 : Int) < n := by omega
  have h1 : (1 : Int) < n := by omega
  have h2 : (2 : Int) < n := by omega
  have h3 : (3 : Int) < n := by omega
  go_enter Tryz.func23, Tryz.ntmps23
  go_wp2_with (fail)
  go_quiet (fail)
  go_wp2
  go_ret
  exact ⟨rfl, Kept.drewN_eq _⟩
set_option maxRecDepth 100000 in
set_option maxHeartbeats 1600000 in
theorem word_sum (g b n c : Nat) (hn : 4 ≤ n) (w : World) (x0 : w.cell? ⟨g, b, none⟩ = some (.int .u8 7)) (x1 : w.cell? ⟨g, b + 1, none⟩ = some (.int .u8 57)) (x2 : w.cell? ⟨g, b + 2, none⟩ = some (.int .u8 207)) (x3 : w.cell? ⟨g, b + 3, none⟩ = some (.int .u8 232)) : Calls Tryz.prog 23 #[.slice (some ⟨g, b, none⟩) n c] w (fun r w' => r = .returned (.int .u32 3905894663) ∧ Kept (fun _ => False) w w') := by
  have h0 : (0 : Int) < n := by omega
  have h1 : (1 : Int) < n := by omega
  have h2 : (2 : Int) < n := by omega
  have h3 : (3 : Int) < n := by omega
  go_enter Tryz.func23, Tryz.ntmps23
  go_wp2_with (fail)
  go_quiet (fail)
  go_wp2
  go_ret
  exact ⟨rfl, Kept.drewN_eq _⟩
/-- A small number's byte is taken. -/
theorem Rd.small {x : Nat} (h : x < 128) (t : List Int) : Rd.val ⟨(x : Int) :: t, 0⟩ = x ∧ Rd.nx ⟨(x : Int) :: t, 0⟩ = ⟨t, 0⟩ := by
  unfold Rd.val Rd.nx
  have h1 : takeFrom 0 0 ((x : Int) :: t) = (0, x, 1) := by rw [take_end (by omega) (by omega)]; simp
  simp [h1]
set_option maxRecDepth 100000 in
theorem number10_ok (d g p : Nat) (x : Nat) (xi : Int) (hxi : (x : Int) = xi) (hx : x < 128) (t : List Int) (w : World) (hp : Box w p 68 #[.pointer (some ⟨g, 0, none⟩)]) (hpg : p ≠ g) (h : RdAt w d g ⟨xi :: t, 0⟩) :
    Calls Tryz.prog 52 #[.pointer (some ⟨p, 0, none⟩)] w (fun r w' => r = .returned (.int .i64 xi) ∧ Kept (fun k => k = g) w w' ∧ RdAt w' d g ⟨t, 0⟩) := by
  subst hxi
  have H := Lib.hid (RNum_any d g _ w h)
  obtain ⟨e1, e2⟩ := Rd.small hx t
  unfold RdPost at H
  rw [e1, e2] at H
  have HP := Lib.hid hp
  have x0 : w.cell? ⟨p, 0, none⟩ = some (.pointer (some ⟨g, 0, none⟩)) := (hp.cell 0).trans rfl
  clear h e1 e2 hp
  go_enter Tryz.func52, Tryz.ntmps52
  go_wp2_with (fail)
  refine H.out.mono ?_
  rintro r w1 ⟨rfl, hk, hr⟩
  have HK := Lib.hid hk
  have HR := Lib.hid hr
  have x1 : w1.cell? ⟨p, 0, none⟩ = some (.pointer (some ⟨g, 0, none⟩)) := ((HP.out.kept hk hpg).cell 0).trans rfl
  clear hk hr x0
  go_wp2_with (fail)
  refine (RErrs_any d g _ w1 HR.out).mono ?_
  rintro r w2 ⟨rfl, rfl⟩
  go_wp2_with (fail)
  refine (must_ok w1).mono ?_
  rintro r w3 ⟨rfl, rfl⟩
  go_wp2_with (fail)
  go_ret
  exact ⟨rfl, HK.out, HR.out⟩
set_option maxRecDepth 100000 in
set_option maxHeartbeats 1600000 in
theorem catch10_idle (g h : Nat) (w : World) :
    CallsD Tryz.prog 20 #[.pointer (some ⟨g, 0, none⟩), .pointer (some ⟨h, 0, none⟩)] .returning w fun e u' w' => e = .returned (.tuple #[]) ∧ u' = .returning ∧ w' = w := by
  refine callsD_of_wpS Tryz.func20 rfl fun c₀ ds hu => ?_
  apply wpS_seq
  apply wpS_region
  simp [wpOpsS, go_sem, recoverD, hu, Tryz.ntmps20, Exit.thenS]
  refine wpS_of_wp ?_
  go_wp2_with (fail)
  cases c₀
  simp_all [bodyPostS, results, Tryz.results20]
theorem results_two_cells {fn : Func} {p q : Tmp} {ty ty' : TypeId} (h : fn.results = #[.cell p ty, .cell q ty']) (tmps : Array Value) (w : World) (v u : Value) (g g' : Nat)
    (hp : tmps.getD p undef = .pointer (some ⟨g, 0, none⟩)) (hl : (loadVar ty ⟨g, 0, none⟩).run Tryz.prog w = .ok v w)
    (hq : tmps.getD q undef = .pointer (some ⟨g', 0, none⟩)) (hl' : (loadVar ty' ⟨g', 0, none⟩).run Tryz.prog w = .ok u w) :
    (results fn tmps).run Tryz.prog w = .ok (.tuple #[v, u]) w := by
  have hp' : tmps[p]?.getD undef = .pointer (some ⟨g, 0, none⟩) := by simpa using hp
  have hq' : tmps[q]?.getD undef = .pointer (some ⟨g', 0, none⟩) := by simpa using hq
  simp [results, h, hp', hq', asAddr, hl, hl']
theorem load_ER {w : World} {g : Nat} {e : Int} (hb : Box w g 28 #[.int .i64 e]) : (loadVar 28 ⟨g, 0, none⟩).run Tryz.prog w = .ok (.int .i64 e) w := by
  have h0 : w.cell? ⟨g, 0, none⟩ = some (.int .i64 e) := (hb.cell 0).trans rfl
  simp [go_sem, h0]
theorem load_FR {w : World} {g : Nat} {cs : Array Value} (hb : Box w g 39 cs) (hs : cs.size = 17) : (loadVar 39 ⟨g, 0, none⟩).run Tryz.prog w = .ok (.agg cs) w :=
  run_loadVar_row w g _ _ _ (0, 0) _ hb und_fr rfl (by rw [hs]; exact size_fr)
theorem dec_returns {R : Ending → World → Prop} {W : World} {tmps : Array Value} {N M : Nat} {cs : Array Value} {e : Int} (h2 : tmps.getD 2 undef = .pointer (some ⟨N, 0, none⟩)) (h3 : tmps.getD 3 undef = .pointer (some ⟨M, 0, none⟩))
    (hb : Box W N 39 cs) (hs : cs.size = 17) (he : Box W M 28 #[.int .i64 e]) (hR : R (.returned (.tuple #[.agg cs, .int .i64 e])) W) :
    bodyPostD Tryz.prog Tryz.f10 R Exit.ret { tmps := tmps, defers := [{ target := .fn (.func 20) #[.pointer (some ⟨N, 0, none⟩), .pointer (some ⟨M, 0, none⟩)], args := #[] }] } W := by
  refine leaves_cons (f := 20) (args := #[.pointer (some ⟨N, 0, none⟩), .pointer (some ⟨M, 0, none⟩)]) (by simp) (by simp [go_sem]) ?_
  refine (catch10_idle N M W).mono ?_
  rintro r u' w' ⟨rfl, rfl, rfl⟩
  exact ⟨_, results_two_cells (show Tryz.f10.results = #[.cell 2 39, .cell 3 28] by kernel_rfl) tmps w' _ _ N M h2 (load_FR hb hs) h3 (load_ER he), hR⟩
theorem fr_one_z : frZ.all (·.oneCell') = true := by kernel_rfl
set_option maxRecDepth 100000 in
set_option maxHeartbeats 1600000 in
theorem Decode_nil (w : World) : Calls Tryz.prog 10 #[.slice none 0 0] w (fun r w' => r = .returned (.tuple #[.agg frZ, .int .i64 5]) ∧ Kept (fun _ => False) w w') := by
  have hb := (Box.new w 39 frZ).alloc (.cells #[.int .i64 0] 28)
  have he := (Box.new (w.alloc (.cells frZ 39)) 28 #[.int .i64 0]).at_eq (show _ = w.heap.size + 1 by simp)
  have hk := ((Kept.refl (fun _ => False) w).alloc (.cells frZ 39)).alloc (.cells #[.int .i64 0] 28)
  obtain ⟨w1, h1⟩ : ∃ w1, (w.alloc (.cells frZ 39)).alloc (.cells #[.int .i64 0] 28) = w1 := ⟨_, rfl⟩
  rw [h1] at hb he hk
  have HB := Lib.hid hb
  have HE := Lib.hid he
  have HK := Lib.hid hk
  have HW := Lib.hid h1
  unfold frZ at HW
  clear hb he hk h1
  go_enter_defers Tryz.func10, Tryz.ntmps10
  go_upto_region 2 with (fail)
  rw [HW.out]
  clear HW
  go_upto_region 3 with (fail)
  go_wp2_with (first | (refine wpList_load_fr rfl _ rfl w.heap.size rfl _ rfl HB.out ?_) | (refine wpList_store_box rfl 39 _ _ rfl w.heap.size frZ rfl rfl 39 _ HB.out (size_fr.trans rfl) rfl fr_one_z ?_; intro w2 HB2 hk2; refine Hid.out ?_))
  refine Lib.hid ?_
  have HE2 := Lib.hid (HE.out.kept hk2 (by omega))
  have HK2 := Lib.hid (HK.out.trans hk2 fun k hk e => by omega)
  clear hk2 HE HK HB
  have c0 : w2.cell? ⟨w.heap.size + 1, 0, none⟩ = some (.int .i64 0) := (HE2.out.cell 0).trans rfl
  have f0 := HE2.out.frozen 0
  go_wp2_with (fail)
  have he3 : Box (w2.setCell ⟨w.heap.size + 1, 0, none⟩ (.int .i64 5)) (w.heap.size + 1) 28 #[.int .i64 5] := by simpa using HE2.out.set 0 (.int .i64 5)
  have hb3 : Box (w2.setCell ⟨w.heap.size + 1, 0, none⟩ (.int .i64 5)) w.heap.size 39 frZ := HB2.out.far (p := ⟨w.heap.size + 1, 0, none⟩) (by simp) _
  exact dec_returns rfl rfl hb3 rfl he3 ⟨rfl, HK2.out.at 0 _ (.inr (by omega))⟩
end Go.Proofs.YtoeipjhdpeibpaaGreat
