/- The reference's log in memory; the walks of its New and Vector. Conditions: the lists lie in memory; nothing is longer than a million. · The walks of the reference's Beyond and Lacks on logs. Conditions: the log and the vector lie in memory; nothing is longer than a million. · The walk of the reference's Add on logs. Conditions: the log and the operation lie in memory; nothing is longer than a million. · The walk of the reference's Cut on logs. Conditions: the log and the vector lie in memory; nothing is longer than a million. · The walks of the law's twin and spoil: an operation in lists of its own with marked room behind; these written over. Conditions: the operation lies in memory; nothing is longer than a million. · The walks of the law's alike and all: a log tells what the document's does. Conditions: both lie in memory. · A log and the document's own, side by side: what one call makes of both. Conditions: the structures'. · In the middle of the law's step: both logs, what is handed in, the boxes. What stays. No condition beyond what the structures say. -/
import Derived.Test.YtnfehkncfjgeeaaR8Chk
import Derived.Test.YtnfehkncfjgeeaaPE
import Derived.Test.YtnfehkncfjgeeaaVRLat
import Derived.Test.YtnfehkncfjgeeaaVRCov
import Derived.Laws.ResultCell
import Derived.Test.YtnfehkncfjgeeaaJA
import Derived.Test.YtnfehkncfjgeeaaVGet
import Derived.Test.YtnfehkncfjgeeaaJB
namespace Go.Proofs.Ytnfehkncfjgeeaa
open Go Go.RowKit

/-- The reference's log: its base, what it keeps; where these lie. -/
structure RLg where
  base : List Dt
  bA : Option Addr
  bc : Nat
  ops : List Lop
  oA : Option Addr
  oc : Nat
def RLg.c (R : RLg) : Array Value := #[.slice R.bA R.base.length R.bc, .slice R.oA R.ops.length R.oc]
def RLg.oV (R : RLg) : Value := .slice R.oA R.ops.length R.oc
structure RLogAt (w : World) (R : RLg) : Prop where
  b : DotsAt w R.bA R.base
  row : w.ownsRow 0 45 11 (.slice R.oA R.ops.length R.oc) R.ops.length (lops R.ops)
  ats : ∀ x ∈ R.ops, x.At w
  small : ∀ x ∈ R.ops, x.o.Small
  bl : R.base.length ≤ 1000000
  ol : R.ops.length ≤ 1000000
theorem RLogAt.fresh {w w' : World} {R : RLg} (h : RLogAt w R) (hk : Kept (fun _ => False) w w') : RLogAt w' R :=
  ⟨h.b.fresh hk, hk.own h.row fun _ _ => id, fun x hx => (h.ats x hx).fresh hk, h.small, h.bl, h.ol⟩
/-- It says what the plain log says. -/
structure RSays (R : RLg) (P : Pl) : Prop where
  good : P.Good
  base : R.base = P.base
  ops : R.ops.map (·.o) = P.ops
theorem RLg.c_one (R : RLg) : R.c.all (·.oneCell') = true := by simp [RLg.c, Value.oneCell']
theorem size_RL : (Try.prog.info? 35).map (·.size) = some 2 := by kernel_rfl
theorem load_RL {w : World} {g : Nat} {R : RLg} (hb : Box w g 35 R.c) : (loadVar 35 ⟨g, 0, none⟩).run Try.prog w = .ok (.agg R.c) w :=
  run_loadVar_row w g _ _ _ (0, 0) _ hb Try.underlying35 rfl (size_RL.trans rfl)
theorem ret_cell_slot {fn : Func} {p q : Tmp} (h : fn.results = #[.cell q 35, .tmp p]) (tmps : Array Value) (w : World) (v : Value) (g : Nat) (R : RLg)
    (hp : tmps.getD q undef = .pointer (some ⟨g, 0, none⟩)) (hb : Box w g 35 R.c) (hv : tmps.getD p undef = v) : (results fn tmps).run Try.prog w = .ok (.tuple #[.agg R.c, v]) w := by
  have hp' : tmps[q]?.getD undef = .pointer (some ⟨g, 0, none⟩) := by simpa using hp
  have hv' : tmps[p]?.getD undef = v := by simpa using hv
  simp [results, h, hp', hv', asAddr, load_RL hb]
theorem ret_cell_slot_slot {fn : Func} {p q r : Tmp} (h : fn.results = #[.cell q 35, .tmp p, .tmp r]) (tmps : Array Value) (w : World) (v u : Value) (g : Nat) (R : RLg)
    (hp : tmps.getD q undef = .pointer (some ⟨g, 0, none⟩)) (hb : Box w g 35 R.c) (hv : tmps.getD p undef = v) (hu : tmps.getD r undef = u) : (results fn tmps).run Try.prog w = .ok (.tuple #[.agg R.c, v, u]) w := by
  have hp' : tmps[q]?.getD undef = .pointer (some ⟨g, 0, none⟩) := by simpa using hp
  have hv' : tmps[p]?.getD undef = v := by simpa using hv
  have hu' : tmps[r]?.getD undef = u := by simpa using hu
  simp [results, h, hp', hv', hu', asAddr, load_RL hb]
/-- A reference's log in a box (its parameter), in the middle of a call. -/
structure RvAt (w : World) (R : RLg) (g : Nat) (W : World) : Prop where
  box : Box W g 35 R.c
  l : RLogAt W R
  k : Kept (fun _ => False) w W
theorem RvAt.fresh {w W W' : World} {R : RLg} {g : Nat} (h : RvAt w R g W) (hk : Kept (fun _ => False) W W') : RvAt w R g W' := ⟨h.box.kept hk id, h.l.fresh hk, h.k.trans hk fun _ _ e => e⟩
theorem RvAt.start {w : World} {R : RLg} (h : RLogAt w R) : RvAt w R w.heap.size (w.alloc (.cells R.c 35)) := ⟨Box.new w _ _, h.fresh ((Kept.refl _ _).alloc _), (Kept.refl _ _).alloc _⟩
theorem RvAt.cells {w W : World} {R : RLg} {g : Nat} (h : RvAt w R g W) : W.cell? ⟨g, 0, none⟩ = some (.slice R.bA R.base.length R.bc) ∧ W.cell? ⟨g, 1, none⟩ = some (.slice R.oA R.ops.length R.oc) := ⟨by simpa [RLg.c] using h.box.cell 0, by simpa [RLg.c] using h.box.cell 1⟩

def RLg.zero : RLg := ⟨[], none, 0, [], none, 0⟩
def RNewPost (w : World) (hv : List Dt) (e : Ending) (w' : World) : Prop :=
  if checkV hv = 0 then ∃ R : RLg, e = .returned (.tuple #[.agg R.c, .int .i64 0]) ∧ RLogAt w' R ∧ w'.ownsRow w.heap.size 28 2 (.slice R.bA R.base.length R.bc) R.base.length (dots R.base) ∧ R.base = hv ∧ R.ops = [] ∧ R.oA = none ∧ R.oc = 0 ∧ Kept (fun _ => False) w w'
  else e = .returned (.tuple #[.agg RLg.zero.c, .int .i64 (checkV hv)]) ∧ Kept (fun _ => False) w w'
theorem RLogAt.zero (w : World) : RLogAt w RLg.zero := ⟨DotsAt.nil, World.ownsRow_nil _ _ _ _, fun x h => absurd h (by simp [RLg.zero]), fun x h => absurd h (by simp [RLg.zero]), by simp [RLg.zero], by simp [RLg.zero]⟩
set_option maxRecDepth 100000 in
set_option maxHeartbeats 1600000 in
theorem RNew_any (H : Option Addr) (hv : List Dt) (hc : Nat) (w : World) (hh : DotsAt w H hv) (hlen : hv.length ≤ 1000000) : Calls Try.prog 13 #[.slice H hv.length hc] w (RNewPost w hv) := by
  unfold RNewPost
  have HK0 := Lib.hid ((Kept.refl (fun _ => False) w).alloc (.cells RLg.zero.c 35))
  have HB0 := Lib.hid (Box.new w 35 RLg.zero.c)
  have HH := Lib.hid (hh.fresh HK0.out)
  clear hh
  have hz0 : RLg.zero.c = #[.slice none 0 0, .slice none 0 0] := rfl
  rw [hz0] at HK0 HB0 HH
  clear hz0
  by_cases hch : checkV hv = 0
  · simp only [if_pos hch]
    have HCH := Lib.hid hch
    clear hch
    go_enter Try.func13, Try.ntmps13
    go_wp2_with (fail)
    refine (RCheck_any H hv hc _ HH.out (by omega)).mono ?_
    unfold IntPost
    rw [HCH.out]
    rintro e w1 ⟨rfl, hk1⟩
    have HH1 := Lib.hid (HH.out.fresh hk1)
    have HB1 := Lib.hid (HB0.out.kept hk1 id)
    have HK1 := Lib.hid (HK0.out.trans hk1 fun _ _ e => e)
    clear hk1 HH HB0 HK0
    go_wp2_with (fail)
    refine (RMerge_any H none hv [] hc 0 _ HH1.out DotsAt.nil (by omega) (by simp)).mono ?_
    have hm : vec (maxR (says hv) (says [])) = hv := by
      rw [show says [] = row0 from rfl, max_row0 (Row.says hv)]
      exact vec_says HCH.out
    rw [hm]
    rintro e w2 ⟨A2, c2, rfl, ho2, hk2⟩
    have HO2 := Lib.hid ho2
    have HB2 := Lib.hid (HB1.out.kept hk2 id)
    have HK2 := Lib.hid (HK1.out.trans hk2 fun _ _ e => e)
    have HK1B := Lib.hid HK1.out.size
    clear ho2 hk2 hm HB1 HK1 HH1
    go_wp2_with (refine wpList_store_box rfl 35 _ _ rfl w.heap.size (RLg.c ⟨hv, A2, c2, [], none, 0⟩) rfl rfl 35 _ HB2.out (size_RL.trans rfl) rfl (RLg.c_one _) ?_)
    intro w3 HB3 hk3
    have HK3 := Lib.hid (HK2.out.trans hk3 fun k hk e => by omega)
    have HO3 := Lib.hid (hk3.own HO2.out fun k e1 e2 => own_box_ne HO2.out HB2.out (by decide) (by rw [← e2]; exact e1))
    clear hk3
    go_wp2
    refine bodyPost_ret (ret_cell_slot (show Try.f13.results = #[.cell 2 35, .tmp 3] by kernel_rfl) _ _ (.int .i64 0) w.heap.size ⟨hv, A2, c2, [], none, 0⟩ rfl HB3.out rfl) rfl ?_
    exact ⟨_, rfl, ⟨DotsAt.of_own HO3.out, World.ownsRow_nil _ _ _ _, fun x h => absurd h (by simp), fun x h => absurd h (by simp), hlen, by simp⟩, own_base HO3.out HK1B.out, rfl, rfl, rfl, rfl, HK3.out⟩
  · simp only [if_neg hch]
    obtain ⟨er, her⟩ : ∃ er, checkV hv = er := ⟨_, rfl⟩
    rw [her] at hch ⊢
    have HER := Lib.hid her
    have hne : (er != 0) = true := bne_iff_ne.2 hch
    clear hch her
    go_enter Try.func13, Try.ntmps13
    go_wp2_with (fail)
    refine (RCheck_any H hv hc _ HH.out (by omega)).mono ?_
    unfold IntPost
    rw [HER.out]
    rintro e w1 ⟨rfl, hk1⟩
    have HB1 := Lib.hid (HB0.out.kept hk1 id)
    have HK1 := Lib.hid (HK0.out.trans hk1 fun _ _ e => e)
    clear hk1 HB0 HK0 HH
    go_wp2_with (refine wpList_store_box rfl 35 _ _ rfl w.heap.size (RLg.c RLg.zero) rfl rfl 35 _ HB1.out (size_RL.trans rfl) rfl (RLg.c_one _) ?_)
    intro w3 HB3 hk3
    have HK3 := Lib.hid (HK1.out.trans hk3 fun k hk e => by omega)
    clear hk3
    go_wp2
    refine bodyPost_ret (ret_cell_slot (show Try.f13.results = #[.cell 2 35, .tmp 3] by kernel_rfl) _ _ (.int .i64 er) w.heap.size RLg.zero rfl HB3.out rfl) rfl ?_
    exact ⟨rfl, HK3.out⟩

theorem Path.cons {r t : List Int} {o : Opr} {os : List Opr} (h : Path r (o :: os) t) : Nx r o ∧ Path (put1 r o) os t := h
set_option maxRecDepth 100000 in
set_option maxHeartbeats 1600000 in
theorem RVector_any (R : RLg) (P : Pl) (w : World) (hs : RSays R P) (h : RLogAt w R) : Calls Try.prog 46 #[.agg R.c] w (FreshDots w P.all) := by
  have HZ := Lib.hid (RvAt.start h)
  have hbl := h.bl
  have hol := h.ol
  have HP := Lib.hid hs.good.path
  have HPA := Lib.hid hs.good.ac
  have HPO := Lib.hid hs.ops
  have HPB := Lib.hid hs.base
  clear h hs
  go_enter Try.func46, Try.ntmps46
  obtain ⟨c0, c1⟩ := HZ.out.cells
  go_wp2_with (fail)
  refine (RMerge_any R.bA none R.base [] R.bc 0 _ HZ.out.l.b DotsAt.nil (by omega) (by simp)).mono ?_
  have hm : vec (maxR (says R.base) (says [])) = vec (says P.base) := by rw [show says [] = row0 from rfl, max_row0 (Row.says _), HPB.out]
  rw [hm]
  rintro e w2 ⟨A2, c2, rfl, ho2, hk2⟩
  have HZ2 := Lib.hid (HZ.out.fresh hk2)
  have HO2 := Lib.hid (own_base ho2 HZ.out.k.size)
  clear ho2 hk2 hm HZ c0 c1
  go_wp2_with (fail)
  go_loopw [3, 4] (fun vv i wr => ∃ (k : Nat) (A : Option Addr) (c : Nat) (r : List Int), vv = .slice A (vec r).length c ∧ i = .int .i64 k ∧ k ≤ R.ops.length ∧ Row r ∧ Path r (P.ops.drop k) (says P.all) ∧ wr.ownsRow w.heap.size 28 2 (.slice A (vec r).length c) (vec r).length (dots (vec r)) ∧ RvAt w R w.heap.size wr) (fun _ i _ => R.ops.length - (intOf i).toNat)
  case atStart => exact ⟨0, A2, c2, says P.base, rfl, rfl, by omega, Row.says _, HP.out, HO2.out, HZ2.out⟩
  case round =>
    obtain ⟨k, A, c, r, rfl, rfl, hk, hr, hp, ho, hz⟩ := hrel
    have HZ := Lib.hid hz
    have HO := Lib.hid ho
    have HR := Lib.hid hr
    have HPP := Lib.hid hp
    have hv17 : (vec r).length ≤ 17 := vecTo_len r 17
    clear hr hp ho HZ2 HO2 HP
    obtain ⟨c0, c1⟩ := HZ.out.cells
    by_cases hlt : k < R.ops.length
    · obtain ⟨go, hoA, _, hc, _⟩ := own_cells hz.l.row (by omega)
      obtain ⟨x, hx⟩ : ∃ x, R.ops[k] = x := ⟨_, rfl⟩
      have hlo : k < P.ops.length := by have := congrArg List.length HPO.out; rw [List.length_map] at this; omega
      have hxo : P.ops[k] = x.o := by
        have := congrArg (fun l : List Opr => l[k]?) HPO.out
        simp only [List.getElem?_map, List.getElem?_eq_getElem hlt, List.getElem?_eq_getElem hlo, Option.map_some, hx] at this
        injection this with this
        exact this.symm
      have hpc := HPP.out
      rw [List.drop_eq_getElem_cons hlo, hxo] at hpc
      have HNX := Lib.hid hpc.cons
      have y0 := hc (k * 11 + 0) _ (by rw [lops_get R.ops k hlt 0 (by omega), hx]; rfl)
      have y1 := hc (k * 11 + 1) _ (by rw [lops_get R.ops k hlt 1 (by omega), hx]; rfl)
      simp only [Nat.add_zero] at y0
      have HDN := Lib.hid (dots_new1 wr x.o.dot.site x.o.dot.seq 28)
      have HZ3 := Lib.hid (HZ.out.fresh ((Kept.refl _ _).alloc (.cells #[.int .i64 x.o.dot.site, .int .i64 x.o.dot.seq] 28)))
      have HO3 := Lib.hid (HO.out.alloc (.cells #[.int .i64 x.o.dot.site, .int .i64 x.o.dot.seq] 28))
      rw [hoA] at c1
      clear hpc hxo hx hc hoA hz hlo
      go_wp2_with (fail)
      generalize wr.alloc (.cells #[.int .i64 x.o.dot.site, .int .i64 x.o.dot.seq] 28) = w3 at HDN HZ3 HO3 ⊢
      refine (RMerge_any A _ (vec r) [x.o.dot] c 1 _ (DotsAt.of_own HO3.out) HDN.out (by omega) (by simp)).mono ?_
      have hm : vec (maxR (says (vec r)) (says [x.o.dot])) = vec (put1 r x.o) := by rw [says_vec HR.out, HNX.out.1.merge HR.out]
      rw [hm]
      rintro e w4 ⟨A4, c4, rfl, ho4, hk4⟩
      have HZ4 := Lib.hid (HZ3.out.fresh hk4)
      have HO4 := Lib.hid (own_base ho4 HZ3.out.k.size)
      clear ho4 hk4 hm c0 c1 y0 y1
      go_wp2_with (fail)
      go_roundw
      case rel => exact ⟨k + 1, A4, c4, put1 r x.o, rfl, by go_num, by omega, HNX.out.1.row HR.out, HNX.out.2, HO4.out, HZ4.out⟩
      case measure => simp [intOf]; omega
    · obtain rfl : k = R.ops.length := by omega
      have hv : vec r = P.all := by
        have := HPP.out
        rw [List.drop_of_length_le (by have := congrArg List.length HPO.out; rw [List.length_map] at this; omega)] at this
        rw [show r = says P.all from this]
        exact vec_says HPA.out
      have HV := Lib.hid hv
      clear hv hz
      go_wp2
      go_ret
      refine FreshDots.mk' (v := .slice A (vec r).length c) rfl ?_ HZ.out.k
      rw [← HV.out]
      exact HO.out
end Go.Proofs.Ytnfehkncfjgeeaa

namespace Go.Proofs.Ytnfehkncfjgeeaa
open Go Go.RowKit

theorem own_nilness {w : World} {base s n c : Nat} {e : TypeId} {A : Option Addr} {xs : List Value} (h : w.ownsRow base e s (.slice A n c) n xs) : A = none → n = 0 ∧ c = 0 := fun hA => by
  rcases h.2 with ⟨h', h0⟩ | ⟨g, cap, cur, hv, _⟩
  · injection h' with _ _ e3
    exact ⟨h0, e3⟩
  · injection hv with e1
    rw [hA] at e1
    cases e1
theorem own_src {w : World} {base s n c : Nat} {e : TypeId} {A : Option Addr} {xs : List Value} (h : w.ownsRow base e s (.slice A n c) n xs) : ∀ j u, xs[j]? = some u → ∃ ad, A = some ad ∧ w.cell? (ad.add j) = some u := fun j u hj => by
  have hl := (List.getElem?_eq_some_iff.1 hj).1
  have hn : 0 < n := by
    rcases Nat.eq_zero_or_pos n with h0 | h0
    · have := h.1
      rw [h0] at this
      omega
    · exact h0
  obtain ⟨g, hA, -, hc, -⟩ := own_cells h hn
  exact ⟨_, hA, by rw [add_none]; exact hc j u hj⟩
/-- A row of operations in memory of its own. -/
def RBPost (w : World) (xs : List Lop) (e : Ending) (w' : World) : Prop := ∃ A c, e = .returned (.slice A xs.length c) ∧ w'.ownsRow w.heap.size 45 11 (.slice A xs.length c) xs.length (lops xs) ∧ Kept (fun _ => False) w w'
/-- In the middle of the reference's Beyond and Cut: what has been collected. -/
structure RbAt (w : World) (R : RLg) (H : Option Addr) (hv : List Dt) (acc : List Lop) (A : Option Addr) (c : Nat) (W : World) : Prop where
  k : Kept (fun _ => False) w W
  l0 : RLogAt w R
  h0 : DotsAt w H hv
  box : Box W w.heap.size 35 R.c
  row : W.ownsRow w.heap.size 45 11 (.slice A acc.length c) acc.length (lops acc)
section
variable {w : World} {R : RLg} {H : Option Addr} {hv : List Dt} {acc : List Lop} {A A' : Option Addr} {c c' : Nat} {w1 w2 : World}
theorem RbAt.fresh (h : RbAt w R H hv acc A c w1) (hk : Kept (fun _ => False) w1 w2) : RbAt w R H hv acc A c w2 := ⟨h.k.trans hk fun _ _ e => e, h.l0, h.h0, h.box.kept hk id, hk.own h.row fun _ _ => id⟩
theorem RbAt.v (h : RbAt w R H hv acc A c w1) : RvAt w R w.heap.size w1 := ⟨h.box, h.l0.fresh h.k, h.k⟩
theorem RbAt.h (h : RbAt w R H hv acc A c w1) : DotsAt w1 H hv := h.h0.fresh h.k
theorem RbAt.cells (h : RbAt w R H hv acc A c w1) : w1.cell? ⟨w.heap.size, 0, none⟩ = some (.slice R.bA R.base.length R.bc) ∧ w1.cell? ⟨w.heap.size, 1, none⟩ = some (.slice R.oA R.ops.length R.oc) := h.v.cells
theorem RbAt.push (h : RbAt w R H hv acc A c w1) (x : Lop) (hg : Kept (fun k => (Value.slice A acc.length c).ownBlock = some k) w1 w2)
    (ho : w2.ownsRow w.heap.size 45 11 (.slice A' (acc.length + 1) c') (acc.length + 1) (lops acc ++ x.c.toList)) : RbAt w R H hv (acc ++ [x]) A' c' w2 := by
  have e : (acc ++ [x]).length = acc.length + 1 := by simp
  refine ⟨h.k.trans hg fun k hk e => ?_, h.l0, h.h0, h.box.kept hg (own_box_ne h.row h.box (by decide)), ?_⟩
  · have := (h.row.lt k e).1; omega
  · rw [e, lops_app]; exact ho
end
set_option maxRecDepth 100000 in
set_option maxHeartbeats 1600000 in
theorem RBeyond_any (R : RLg) (H : Option Addr) (hv : List Dt) (hc : Nat) (w : World) (h : RLogAt w R) (hh : DotsAt w H hv) (hlen : hv.length ≤ 1000000) :
    Calls Try.prog 26 #[.agg R.c, .slice H hv.length hc] w (RBPost w (lacks hv R.ops)) := by
  have hk0 : Kept (fun _ => False) w (w.alloc (.cells R.c 35)) := (Kept.refl _ _).alloc _
  have HZ := Lib.hid (show RbAt w R H hv [] none 0 (w.alloc (.cells R.c 35)) from ⟨hk0, h, hh, Box.new _ _ _, World.ownsRow_nil _ _ _ _⟩)
  have hol := h.ol
  clear h hh hk0
  go_enter Try.func26, Try.ntmps26
  go_wp2_with (fail)
  refine (RCheck_any H hv hc _ HZ.out.h (by omega)).mono ?_
  unfold IntPost
  rintro e w1 ⟨rfl, hk1⟩
  have HZ1 := Lib.hid (HZ.out.fresh hk1)
  clear hk1 HZ
  by_cases hch : checkV hv = 0
  · rw [hch]
    have HLK := Lib.hid (show lacks hv R.ops = R.ops.filter fun x => !hasV hv x.o.dot from if_pos hch)
    obtain ⟨c0, c1⟩ := HZ1.out.cells
    clear hch
    go_wp2_with (fail)
    go_loopw [5, 6] (fun vv i wr => ∃ (k : Nat) (A : Option Addr) (c : Nat), vv = .slice A ((R.ops.take k).filter fun x => !hasV hv x.o.dot).length c ∧ i = .int .i64 k ∧ k ≤ R.ops.length ∧ RbAt w R H hv ((R.ops.take k).filter fun x => !hasV hv x.o.dot) A c wr) (fun _ i _ => R.ops.length - (intOf i).toNat)
    case atStart => exact ⟨0, none, 0, rfl, rfl, Nat.zero_le _, HZ1.out⟩
    case round =>
      obtain ⟨k, A, c, rfl, rfl, hk, hz⟩ := hrel
      have HZ2 := Lib.hid hz
      clear HZ1 c0 c1
      obtain ⟨c0, c1⟩ := hz.cells
      by_cases hlt : k < R.ops.length
      · obtain ⟨go, hoA, _, hcell, _⟩ := own_cells hz.v.l.row (by omega)
        have HFT := Lib.hid (filter_take (fun x => !hasV hv x.o.dot) R.ops k hlt)
        obtain ⟨x, hx⟩ : ∃ x, R.ops[k] = x := ⟨_, rfl⟩
        obtain ⟨cs, hcs⟩ : ∃ cs, x.c = cs := ⟨_, rfl⟩
        have HXC := Lib.hid (show R.ops[k].c = cs by rw [hx, hcs])
        have y0 := hcell (k * 11 + 0) _ (by rw [lops_get R.ops k hlt 0 (by omega), hx]; rfl)
        have y1 := hcell (k * 11 + 1) _ (by rw [lops_get R.ops k hlt 1 (by omega), hx]; rfl)
        simp only [Nat.add_zero] at y0
        rw [hx] at HFT
        obtain ⟨acc, hacc⟩ : ∃ acc, (R.ops.take k).filter (fun x => !hasV hv x.o.dot) = acc := ⟨_, rfl⟩
        have hal : acc.length ≤ 1000000 := by
          rw [← hacc]
          exact Nat.le_trans (List.length_filter_le _ _) (by rw [List.length_take]; omega)
        rw [hacc] at HZ2 HFT ⊢
        have HCS := Lib.hid hcs
        have HSZ := Lib.hid (show cs.size = 11 by rw [← hcs]; rfl)
        have HO2 := Lib.hid (show cs.toList.all (·.oneCell') = true by rw [← hcs]; exact Lop.c_one _)
        have HOA := Lib.hid hoA
        rw [hoA] at c1
        clear hz hx hcs hacc hcell hoA
        go_wp2_with (fail)
        refine (RHas_any H hv hc x.o.dot _ HZ2.out.h (by omega)).mono ?_
        unfold BoolPost
        rintro e w3 ⟨rfl, hk3⟩
        have HZ4 := Lib.hid (HZ2.out.fresh hk3)
        clear hk3 HZ2 c0 c1 y0 y1
        cases hhas : hasV hv x.o.dot with
        | true =>
          have HE := Lib.hid hhas
          clear hhas
          go_wp2_with (fail)
          go_roundw
          case rel =>
            have e : (R.ops.take (k + 1)).filter (fun x => !hasV hv x.o.dot) = acc := by rw [HFT.out, if_neg (by simp [HE.out]), List.append_nil]
            exact ⟨k + 1, A, c, by rw [e], by go_num, by omega, by rw [e]; exact HZ4.out⟩
          case measure => simp [intOf]; omega
        | false =>
          have HE := Lib.hid hhas
          obtain ⟨c0, c1⟩ := HZ4.out.cells
          have HR := Lib.hid (show w3.ownsRow 0 45 11 (.slice (some ⟨go, 0, none⟩) R.ops.length R.oc) R.ops.length (lops R.ops) by rw [← HOA.out]; exact HZ4.out.v.l.row)
          rw [HOA.out] at c1
          clear hhas
          go_wp2_with (first | refine wpList_load_lop rfl _ rfl go k rfl R.ops HR.out hlt cs HXC.out ?_ | refine wpList_one_op rfl _ rfl x cs HCS.out rfl ?_ | (at_builtin; refine Hid.out ?_))
          refine Lib.hid ?_
          refine wpList_append_new eltOps rfl _ _ rfl w.heap.size _ acc.length (lops acc) rfl HZ4.out.row 1 1 rfl HSZ.out HO2.out (by omega) HZ4.out.k.size ?_
          intro A' c' w4 HO4 HK4 HG4
          have HZ5 := Lib.hid (HZ4.out.push x HK4.out (by rw [HCS.out]; exact HO4.out))
          clear HZ4 HO4 HK4 HG4 c0 c1
          go_wp2_with (fail)
          go_roundw
          case rel =>
            have e : (R.ops.take (k + 1)).filter (fun x => !hasV hv x.o.dot) = acc ++ [x] := by rw [HFT.out, if_pos (by simp [HE.out])]
            have e2 : (acc ++ [x]).length = acc.length + 1 := by simp
            refine ⟨k + 1, A', c', ?_, by go_num, by omega, by rw [e]; exact HZ5.out⟩
            rw [e, e2]
          case measure => simp [intOf]; omega
      · obtain rfl : k = R.ops.length := by omega
        rw [List.take_length] at HZ2 ⊢
        clear hz
        go_wp2_with (fail)
        go_ret
        rw [HLK.out]
        exact ⟨A, c, rfl, HZ2.out.row, HZ2.out.k⟩
  · have HLK := Lib.hid (show lacks hv R.ops = [] from if_neg hch)
    have hne : (checkV hv != 0) = true := bne_iff_ne.2 hch
    go_wp2_with (fail)
    go_ret
    rw [HLK.out]
    exact ⟨none, 0, rfl, World.ownsRow_nil _ _ _ _, HZ1.out.k⟩
set_option maxRecDepth 100000 in
set_option maxHeartbeats 1600000 in
theorem RLacks_any (R : RLg) (H : Option Addr) (hv : List Dt) (hc : Nat) (w : World) (h : RLogAt w R) (hh : DotsAt w H hv) (hlen : hv.length ≤ 1000000) :
    Calls Try.prog 44 #[.agg R.c, .slice H hv.length hc] w (IntPost w (lacks hv R.ops).length) := by
  have HZ := Lib.hid (RvAt.start h)
  have HH := Lib.hid hh
  clear h hh
  obtain ⟨c0, c1⟩ := HZ.out.cells
  go_enter Try.func44, Try.ntmps44
  go_wp2_with (fail)
  refine (RBeyond_any R H hv hc _ HZ.out.l (HH.out.fresh HZ.out.k) hlen).mono ?_
  rintro e w1 ⟨A, c, rfl, ho, hk⟩
  have HK := Lib.hid (HZ.out.k.trans hk fun _ _ e => e)
  clear ho hk c0 c1
  go_wp2_with (fail)
  go_ret
  exact ⟨rfl, HK.out⟩
end Go.Proofs.Ytnfehkncfjgeeaa

namespace Go.Proofs.Ytnfehkncfjgeeaa
open Go Go.RowKit

theorem addE_zero {l : List Dt} {d : Dt} (h1 : 1 ≤ d.site) (h2 : d.site ≤ 16) (h3 : 1 ≤ d.seq) (h4 : d.seq ≤ 2147483647) : addE l d = 0 ↔ getV l d.site = d.seq - 1 := by
  have hs : siteB d.site = true := by simp [siteB]; exact ⟨h1, h2⟩
  unfold addE
  rw [if_neg (by simp [hs]; omega), if_neg (by omega)]
  by_cases e : d.seq ≠ getV l d.site + 1
  · rw [if_pos e]
    constructor
    · intro h; simp at h
    · intro h; omega
  · rw [if_neg e]
    constructor
    · intro _; omega
    · intro _; rfl
/-- In the middle of the reference's Add. -/
structure RaAt (w : World) (R : RLg) (x : Lop) (cs : Array Value) (W : World) : Prop where
  k : Kept (fun _ => False) w W
  l0 : RLogAt w R
  x0 : x.At w
  b0 : Box W w.heap.size 35 R.c
  b1 : Box W (w.heap.size + 1) 45 cs
  b2 : Box W (w.heap.size + 2) 35 #[.slice none 0 0, .slice none 0 0]
  hc : x.c = cs
section
variable {w W W' : World} {R : RLg} {x : Lop} {cs : Array Value}
theorem RaAt.fresh (h : RaAt w R x cs W) (hk : Kept (fun _ => False) W W') : RaAt w R x cs W' := ⟨h.k.trans hk fun _ _ e => e, h.l0, h.x0, h.b0.kept hk id, h.b1.kept hk id, h.b2.kept hk id, h.hc⟩
theorem RaAt.drew (h : RaAt w R x cs W) : RaAt w R x cs W.drew := h.fresh (Kept.refl (fun _ => False) W).drew
theorem RaAt.l (h : RaAt w R x cs W) : RLogAt W R := h.l0.fresh h.k
theorem RaAt.cells (h : RaAt w R x cs W) : W.cell? ⟨w.heap.size, 0, none⟩ = some (.slice R.bA R.base.length R.bc) ∧ W.cell? ⟨w.heap.size, 1, none⟩ = some (.slice R.oA R.ops.length R.oc) := ⟨by simpa [RLg.c] using h.b0.cell 0, by simpa [RLg.c] using h.b0.cell 1⟩
theorem RaAt.S (h : RaAt w R x cs W) : W.cell? ⟨w.heap.size + 1, 0, none⟩ = some (.int .i64 x.o.dot.site) ∧ W.cell? ⟨w.heap.size + 1, 1, none⟩ = some (.int .i64 x.o.dot.seq) ∧ W.cell? ⟨w.heap.size + 1, 2, none⟩ = some (.slice x.dA x.o.deps.length x.dc) := by
  have e := h.hc
  subst e
  exact ⟨h.b1.cell 0, h.b1.cell 1, h.b1.cell 2⟩
end
def RAddPost (w : World) (R : RLg) (P : Pl) (x : Lop) (e : Ending) (w' : World) : Prop :=
  if P.addErr x.o = 0 then ∃ R' : RLg, e = .returned (.tuple #[.agg R'.c, .int .i64 0]) ∧ RLogAt w' R' ∧ w'.ownsRow w.heap.size 45 11 R'.oV R'.ops.length (lops R'.ops) ∧ R'.base = R.base ∧ R'.bA = R.bA ∧ R'.bc = R.bc ∧ R'.ops = R.ops ++ [x] ∧ Kept (fun _ => False) w w'
  else e = .returned (.tuple #[.agg R.c, .int .i64 (P.addErr x.o)]) ∧ Kept (fun _ => False) w w'
theorem radd_start (w : World) (R : RLg) (x : Lop) (cs : Array Value) (h : RLogAt w R) (hx : x.At w) (hcs : x.c = cs) :
    RaAt w R x cs (((w.alloc (.cells R.c 35)).alloc (.cells cs 45)).alloc (.cells #[.slice none 0 0, .slice none 0 0] 35)) :=
  ⟨(((Kept.refl _ _).alloc _).alloc _).alloc _, h, hx, ((Box.new w _ _).alloc _).alloc _, ((Box.new _ _ _).at_eq (show _ = w.heap.size + 1 by simp)).alloc _, (Box.new _ _ _).at_eq (show _ = w.heap.size + 2 by simp), hcs⟩
set_option maxRecDepth 100000 in
set_option maxHeartbeats 1600000 in
theorem RLAdd_no (R : RLg) (P : Pl) (x : Lop) (w : World) (h : RLogAt w R) (hx : x.At w) (hs : x.o.Small) (ho : okOp x.o = false) :
    Calls Try.prog 42 #[.agg R.c, .agg x.c] w (RAddPost w R P x) := by
  have he : P.addErr x.o = 10 := by unfold Pl.addErr; rw [if_pos ho]
  have HPE := Lib.hid he
  have HC := Lib.hid (fun W (hW : x.At W) => RefCheck_any x.o x.dA x.gA x.dc x.gc W (hW.opr hs))
  have HXC := Lib.hid (show x.o.cells x.dA x.dc x.gA x.gc = x.c from rfl)
  have HE := Lib.hid (show opE x.o = 10 by unfold opE; rw [ho]; rfl)
  obtain ⟨cs, hcs⟩ : ∃ cs, x.c = cs := ⟨_, rfl⟩
  have HZ := Lib.hid (radd_start w R x cs h hx hcs)
  have HSZ := Lib.hid (show cs.size = 11 by rw [← hcs]; rfl)
  rw [hcs] at HXC ⊢
  clear hcs h hx ho he
  go_enter Try.func42, Try.ntmps42
  go_upto_region 1 with (fail)
  generalize ((w.alloc (.cells R.c 35)).alloc (.cells cs 45)).alloc (.cells #[.slice none 0 0, .slice none 0 0] 35) = w1 at HZ ⊢
  go_wp2_with (refine wpList_load_op rfl _ rfl (w.heap.size + 1) rfl _ cs HSZ.out HZ.out.b1 ?_)
  have hcall := HC.out _ (HZ.out.x0.fresh HZ.out.k)
  rw [HXC.out, HE.out] at hcall
  refine hcall.mono ?_
  unfold IntPost
  rintro e w2 ⟨rfl, hk1⟩
  have HZ2 := Lib.hid (HZ.out.fresh hk1)
  clear hk1 HZ hcall HC HXC HE HSZ
  obtain ⟨c0, c1⟩ := HZ2.out.cells
  go_wp2_with (refine wpList_store_box rfl 35 _ _ rfl (w.heap.size + 2) (RLg.c R) rfl rfl 35 _ HZ2.out.b2 (size_RL.trans rfl) rfl (RLg.c_one _) ?_)
  intro w3 HB3 hk3
  have HK3 := Lib.hid (HZ2.out.k.trans hk3 fun k hk e => by omega)
  clear hk3 HZ2 c0 c1
  go_wp2
  refine bodyPost_ret (ret_cell_slot (show Try.f42.results = #[.cell 4 35, .tmp 5] by kernel_rfl) _ _ (.int .i64 10) (w.heap.size + 2) R rfl HB3.out rfl) rfl ?_
  unfold RAddPost
  rw [HPE.out, if_neg (by decide)]
  exact ⟨rfl, HK3.out⟩
set_option maxRecDepth 100000 in
set_option maxHeartbeats 3200000 in
theorem RLAdd_yes (R : RLg) (P : Pl) (x : Lop) (w : World) (hR : RSays R P) (h : RLogAt w R) (hx : x.At w) (hs : x.o.Small) (ho : okOp x.o = true) (hl : R.ops.length < 1000000) :
    Calls Try.prog 42 #[.agg R.c, .agg x.c] w (RAddPost w R P x) := by
  obtain ⟨d1, d2, d3, d4⟩ := okOp_dot ho
  obtain ⟨cb, hcb⟩ : ∃ cb, coversR (says P.all) (says x.o.deps) = cb := ⟨_, rfl⟩
  obtain ⟨gv, hgv⟩ : ∃ gv, getV P.all x.o.dot.site = gv := ⟨_, rfl⟩
  have he : P.addErr x.o = if cb = true ∧ gv = x.o.dot.seq - 1 then 0 else 9 := by
    have hz := addE_zero (l := P.all) d1 d2 d3 d4
    unfold Pl.addErr
    rw [if_neg (by rw [ho]; decide), hcb]
    rw [hgv] at hz
    by_cases hA : cb = true ∧ gv = x.o.dot.seq - 1
    · rw [if_pos hA, if_neg]
      rintro (h | h)
      · exact h (hz.2 hA.2)
      · rw [hA.1] at h; cases h
    · rw [if_neg hA, if_pos]
      by_cases hg : gv = x.o.dot.seq - 1
      · right
        cases cb with
        | true => exact absurd ⟨rfl, hg⟩ hA
        | false => rfl
      · exact .inl fun e => hg (hz.1 e)
  have HPE := Lib.hid he
  have HCB := Lib.hid hcb
  have HGV := Lib.hid hgv
  have HC := Lib.hid (fun W (hW : x.At W) => RefCheck_any x.o x.dA x.gA x.dc x.gc W (hW.opr hs))
  have HXC := Lib.hid (show x.o.cells x.dA x.dc x.gA x.gc = x.c from rfl)
  have HE := Lib.hid (show opE x.o = 0 by unfold opE; rw [ho]; rfl)
  have HPL := Lib.hid (fun W (hW : RLogAt W R) => RVector_any R P W hR hW)
  have hdl := hs.dl
  have hpl : P.all.length ≤ 1000000 := by
    have := vecTo_len (says P.all) 17
    have e := vec_says hR.good.ac
    rw [← e]
    unfold vec
    omega
  obtain ⟨cs, hcs⟩ : ∃ cs, x.c = cs := ⟨_, rfl⟩
  have HZ := Lib.hid (radd_start w R x cs h hx hcs)
  have HCS := Lib.hid hcs
  have HSZ := Lib.hid (show cs.size = 11 by rw [← hcs]; rfl)
  have HO2 := Lib.hid (show cs.toList.all (·.oneCell') = true by rw [← hcs]; exact Lop.c_one _)
  have HSM := Lib.hid hs
  rw [hcs] at HXC ⊢
  have hw : IntKind.i64.wrap (x.o.dot.seq - 1) = x.o.dot.seq - 1 := IntWalk.i64_in _ ⟨by omega, by omega⟩
  clear hcs h hx ho he hcb hgv hR hs
  go_enter Try.func42, Try.ntmps42
  go_upto_region 1 with (fail)
  generalize ((w.alloc (.cells R.c 35)).alloc (.cells cs 45)).alloc (.cells #[.slice none 0 0, .slice none 0 0] 35) = w1 at HZ ⊢
  go_wp2_with (refine wpList_load_op rfl _ rfl (w.heap.size + 1) rfl _ cs HSZ.out HZ.out.b1 ?_)
  have hcall := HC.out _ (HZ.out.x0.fresh HZ.out.k)
  rw [HXC.out, HE.out] at hcall
  refine hcall.mono ?_
  unfold IntPost
  rintro e w2 ⟨rfl, hk1⟩
  have HZ2 := Lib.hid (HZ.out.fresh hk1)
  clear hk1 HZ hcall HC HXC HE
  obtain ⟨c0, c1⟩ := HZ2.out.cells
  go_wp2_with (fail)
  refine (HPL.out _ HZ2.out.l).mono ?_
  rintro e w3 ⟨A2, c2, rfl, ho2, hk2⟩
  have HZ3 := Lib.hid (HZ2.out.fresh hk2)
  have HD3 := Lib.hid (DotsAt.of_own ho2)
  clear ho2 hk2 HZ2 HPL c0 c1
  go_upto_region 4 with (fail)
  by_cases hA : cb = true ∧ gv = x.o.dot.seq - 1
  · have hg := hA.2
    have HA := Lib.hid hA
    have hcb1 := hA.1
    clear hA
    subst hcb1
    have l4 : (gv != x.o.dot.seq - 1) = false := by rw [hg]; exact bne_self_eq_false _
    clear hg
    refine wp_region_class (C := fun w' => RaAt w R x cs w' ∧ DotsAt w' A2 P.all) (by kernel_rfl) (by kernel_rfl) ⟨HZ3.out.drew, HD3.out.fresh (Kept.refl (fun _ => False) w3).drew⟩ ?_
    repeat first | go_big_quiet_skip | (go_big_quiet_want; first | (go_big_quiet_op; go_big_quiet_on) | (apply Exists.intro; refine ⟨fun w' hS => ?_, ?_⟩; (have HJ := hS; obtain ⟨g0, g1, g2⟩ := RaAt.S hS.1; go_simp; first | rfl | exact ⟨rfl, rfl⟩ | (go_at_call 32; (with_reducible refine (RCovers_any A2 x.dA P.all x.o.deps c2 x.dc _ HJ.2 (HJ.1.x0.fresh HJ.1.k).d (by omega) (by omega)).mono ?_); unfold BoolPost; rw [HCB.out]; rintro e w2 ⟨rfl, hk⟩; exact ⟨rfl, HJ.1.fresh hk, HJ.2.fresh hk⟩) | (go_at_call 57; (with_reducible refine (RGet_any A2 P.all c2 x.o.dot.site _ HJ.2 (by omega)).mono ?_); unfold IntPost; rw [HGV.out]; rintro e w2 ⟨rfl, hk⟩; exact ⟨rfl, HJ.1.fresh hk, HJ.2.fresh hk⟩)); (try simp only [Act.put, List.setIfInBounds_toArray, List.set_cons_zero, List.set_cons_succ]); go_big_quiet_on))
    refine wpQuiet_nil ?_
    intro w4 hJ
    have HZ4 := Lib.hid hJ.1
    clear hJ HZ3 HD3
    obtain ⟨c0, c1⟩ := HZ4.out.cells
    have HN := Lib.hid (own_nilness HZ4.out.l.row)
    have HSR := Lib.hid (own_src HZ4.out.l.row)
    go_wp2_with (at_builtin; refine wpList_append_copy eltOps rfl _ _ rfl rfl R.oA R.ops.length R.oc (lops R.ops) rfl HN.out (lops_len _) HSR.out (lops_one _) (by omega) ?_)
    intro A5 c5 w5 HO5 HK5
    have HZ5 := Lib.hid (HZ4.out.fresh HK5.out)
    have HO5' := Lib.hid (own_base HO5.out HZ4.out.k.size)
    clear HO5 HK5 HZ4 HN HSR c0 c1
    go_wp2_with (first | refine wpList_load_op rfl _ rfl (w.heap.size + 1) rfl _ cs HSZ.out HZ5.out.b1 ?_ | refine wpList_one_op rfl _ rfl x cs HCS.out rfl ?_ | (at_builtin; refine Hid.out ?_))
    refine Lib.hid ?_
    refine wpList_append_new eltOps rfl _ _ rfl w.heap.size _ R.ops.length (lops R.ops) rfl HO5'.out 1 1 rfl HSZ.out HO2.out (by omega) HZ5.out.k.size ?_
    intro A6 c6 w6 HO6 HK6 HG6
    have hb0 : Box w6 w.heap.size 35 R.c := HZ5.out.b0.kept HK6.out (own_box_ne HO5'.out HZ5.out.b0 (by decide))
    have hb2 : Box w6 (w.heap.size + 2) 35 #[.slice none 0 0, .slice none 0 0] := HZ5.out.b2.kept HK6.out (own_box_ne HO5'.out HZ5.out.b2 (by decide))
    have hk6 : Kept (fun _ => False) w w6 := HZ5.out.k.trans HK6.out fun k hk e => by have := (HO5'.out.lt k e).1; omega
    have HB0 := Lib.hid hb0
    have HB2 := Lib.hid hb2
    have HK := Lib.hid hk6
    have x0 : w6.cell? ⟨w.heap.size, 0, none⟩ = some (.slice R.bA R.base.length R.bc) := by simpa [RLg.c] using hb0.cell 0
    have x1 : w6.cell? ⟨w.heap.size, 1, none⟩ = some (.slice R.oA R.ops.length R.oc) := by simpa [RLg.c] using hb0.cell 1
    have f1 := hb0.frozen 1
    have HX := Lib.hid HZ5.out.x0
    have HL := Lib.hid HZ5.out.l0
    clear hb0 hb2 hk6 HK6 HG6 HZ5 HO5'
    go_upto_region 9 with (fail)
    obtain ⟨R', hR'⟩ : ∃ R' : RLg, (⟨R.base, R.bA, R.bc, R.ops ++ [x], A6, c6⟩ : RLg) = R' := ⟨_, rfl⟩
    have HR' := Lib.hid hR'
    have hb7 : Box (w6.setCell ⟨w.heap.size, 1, none⟩ (.slice A6 (R.ops.length + 1) c6)) w.heap.size 35 R'.c := by
      have := HB0.out.set 1 (.slice A6 (R.ops.length + 1) c6)
      rw [← hR']
      have e : (R.ops ++ [x]).length = R.ops.length + 1 := by simp
      unfold RLg.c at this ⊢
      simp only [e]
      exact this
    have hk7 : Kept (fun k => k = w.heap.size) w6 (w6.setCell ⟨w.heap.size, 1, none⟩ (.slice A6 (R.ops.length + 1) c6)) := (Kept.refl _ _).at 1 _ (.inl rfl)
    have HB7 := Lib.hid (HB2.out.kept hk7 (by omega))
    have HK7 := Lib.hid (HK.out.trans hk7 fun k hk e => by omega)
    have HO7 := Lib.hid (hk7.own HO6.out fun k e1 e2 => by
      subst e2
      exact own_box_ne HO6.out HB0.out (by decide) e1)
    have y0 : (w6.setCell ⟨w.heap.size, 1, none⟩ (.slice A6 (R.ops.length + 1) c6)).cell? ⟨w.heap.size, 0, none⟩ = some (.slice R'.bA R'.base.length R'.bc) := by simpa [RLg.c] using hb7.cell 0
    have y1 : (w6.setCell ⟨w.heap.size, 1, none⟩ (.slice A6 (R.ops.length + 1) c6)).cell? ⟨w.heap.size, 1, none⟩ = some (.slice R'.oA R'.ops.length R'.oc) := by simpa [RLg.c] using hb7.cell 1
    clear hb7 hk7 x0 x1 f1 HB0 HB2 HK HO6 hR'
    generalize w6.setCell ⟨w.heap.size, 1, none⟩ (.slice A6 (R.ops.length + 1) c6) = w7 at HB7 HK7 HO7 y0 y1 ⊢
    go_wp2_with (refine wpList_store_box rfl 35 _ _ rfl (w.heap.size + 2) (RLg.c R') rfl rfl 35 _ HB7.out (size_RL.trans rfl) rfl (RLg.c_one _) ?_)
    intro w8 HB8 hk8
    have HK8 := Lib.hid (HK7.out.trans hk8 fun k hk e => by omega)
    have HO8 := Lib.hid (hk8.own HO7.out fun k e1 e2 => by
      subst e2
      exact own_box_ne HO7.out HB7.out (by decide) e1)
    clear hk8 y0 y1 HK7 HO7 HB7
    go_wp2
    refine bodyPost_ret (ret_cell_slot (show Try.f42.results = #[.cell 4 35, .tmp 5] by kernel_rfl) _ _ (.int .i64 0) (w.heap.size + 2) R' rfl HB8.out rfl) rfl ?_
    unfold RAddPost
    rw [HPE.out, if_pos HA.out, if_pos rfl]
    have hrow : w8.ownsRow w.heap.size 45 11 (.slice A6 (R.ops ++ [x]).length c6) (R.ops ++ [x]).length (lops (R.ops ++ [x])) := by
      have e : (R.ops ++ [x]).length = R.ops.length + 1 := by simp
      rw [e, lops_app, HCS.out]
      exact HO8.out
    refine ⟨R', rfl, ?_, by rw [← HR'.out]; exact hrow, by rw [← HR'.out], by rw [← HR'.out], by rw [← HR'.out], by rw [← HR'.out], HK8.out⟩
    rw [← HR'.out]
    have hL8 := HL.out.fresh HK8.out
    refine ⟨hL8.b, ?_, ?_, ?_, hL8.bl, ?_⟩
    · exact own_base hrow (Nat.zero_le _)
    · intro y hy
      rcases List.mem_append.1 hy with hy | hy
      · exact hL8.ats y hy
      · obtain rfl := List.mem_singleton.1 hy
        exact HX.out.fresh HK8.out
    · intro y hy
      rcases List.mem_append.1 hy with hy | hy
      · exact hL8.small y hy
      · obtain rfl := List.mem_singleton.1 hy
        exact HSM.out
    · simp only [List.length_append, List.length_cons, List.length_nil]
      omega
  · have HA := Lib.hid hA
    have hcase : cb = false ∨ (cb = true ∧ (gv != x.o.dot.seq - 1) = true) := by
      cases cb with
      | false => exact .inl rfl
      | true => exact .inr ⟨rfl, bne_iff_ne.2 fun e => hA ⟨rfl, e⟩⟩
    clear hA HSZ HO2 HSM HCS
    rcases hcase with rfl | ⟨rfl, l4⟩
    · refine wp_region_class (C := fun w' => RaAt w R x cs w' ∧ DotsAt w' A2 P.all) (by kernel_rfl) (by kernel_rfl) ⟨HZ3.out.drew, HD3.out.fresh (Kept.refl (fun _ => False) w3).drew⟩ ?_
      repeat first | go_big_quiet_skip | (go_big_quiet_want; first | (go_big_quiet_op; go_big_quiet_on) | (apply Exists.intro; refine ⟨fun w' hS => ?_, ?_⟩; (have HJ := hS; obtain ⟨g0, g1, g2⟩ := RaAt.S hS.1; go_simp; first | rfl | exact ⟨rfl, rfl⟩ | (go_at_call 32; (with_reducible refine (RCovers_any A2 x.dA P.all x.o.deps c2 x.dc _ HJ.2 (HJ.1.x0.fresh HJ.1.k).d (by omega) (by omega)).mono ?_); unfold BoolPost; rw [HCB.out]; rintro e w2 ⟨rfl, hk⟩; exact ⟨rfl, HJ.1.fresh hk, HJ.2.fresh hk⟩)); (try simp only [Act.put, List.setIfInBounds_toArray, List.set_cons_zero, List.set_cons_succ]); go_big_quiet_on))
      refine wpQuiet_nil ?_
      intro w4 hJ
      have HZ4 := Lib.hid hJ.1
      clear hJ HZ3 HD3
      obtain ⟨c0, c1⟩ := HZ4.out.cells
      go_wp2_with (refine wpList_store_box rfl 35 _ _ rfl (w.heap.size + 2) (RLg.c R) rfl rfl 35 _ HZ4.out.b2 (size_RL.trans rfl) rfl (RLg.c_one _) ?_)
      intro w5 HB5 hk5
      have HK5 := Lib.hid (HZ4.out.k.trans hk5 fun k hk e => by omega)
      clear hk5 HZ4 c0 c1
      go_wp2
      refine bodyPost_ret (ret_cell_slot (show Try.f42.results = #[.cell 4 35, .tmp 5] by kernel_rfl) _ _ (.int .i64 9) (w.heap.size + 2) R rfl HB5.out rfl) rfl ?_
      unfold RAddPost
      rw [HPE.out, if_neg HA.out, if_neg (by decide)]
      exact ⟨rfl, HK5.out⟩
    · refine wp_region_class (C := fun w' => RaAt w R x cs w' ∧ DotsAt w' A2 P.all) (by kernel_rfl) (by kernel_rfl) ⟨HZ3.out.drew, HD3.out.fresh (Kept.refl (fun _ => False) w3).drew⟩ ?_
      repeat first | go_big_quiet_skip | (go_big_quiet_want; first | (go_big_quiet_op; go_big_quiet_on) | (apply Exists.intro; refine ⟨fun w' hS => ?_, ?_⟩; (have HJ := hS; obtain ⟨g0, g1, g2⟩ := RaAt.S hS.1; go_simp; first | rfl | exact ⟨rfl, rfl⟩ | (go_at_call 32; (with_reducible refine (RCovers_any A2 x.dA P.all x.o.deps c2 x.dc _ HJ.2 (HJ.1.x0.fresh HJ.1.k).d (by omega) (by omega)).mono ?_); unfold BoolPost; rw [HCB.out]; rintro e w2 ⟨rfl, hk⟩; exact ⟨rfl, HJ.1.fresh hk, HJ.2.fresh hk⟩) | (go_at_call 57; (with_reducible refine (RGet_any A2 P.all c2 x.o.dot.site _ HJ.2 (by omega)).mono ?_); unfold IntPost; rw [HGV.out]; rintro e w2 ⟨rfl, hk⟩; exact ⟨rfl, HJ.1.fresh hk, HJ.2.fresh hk⟩)); (try simp only [Act.put, List.setIfInBounds_toArray, List.set_cons_zero, List.set_cons_succ]); go_big_quiet_on))
      refine wpQuiet_nil ?_
      intro w4 hJ
      have HZ4 := Lib.hid hJ.1
      clear hJ HZ3 HD3
      obtain ⟨c0, c1⟩ := HZ4.out.cells
      go_wp2_with (refine wpList_store_box rfl 35 _ _ rfl (w.heap.size + 2) (RLg.c R) rfl rfl 35 _ HZ4.out.b2 (size_RL.trans rfl) rfl (RLg.c_one _) ?_)
      intro w5 HB5 hk5
      have HK5 := Lib.hid (HZ4.out.k.trans hk5 fun k hk e => by omega)
      clear hk5 HZ4 c0 c1
      go_wp2
      refine bodyPost_ret (ret_cell_slot (show Try.f42.results = #[.cell 4 35, .tmp 5] by kernel_rfl) _ _ (.int .i64 9) (w.heap.size + 2) R rfl HB5.out rfl) rfl ?_
      unfold RAddPost
      rw [HPE.out, if_neg HA.out, if_neg (by decide)]
      exact ⟨rfl, HK5.out⟩
theorem RLAdd_any (R : RLg) (P : Pl) (x : Lop) (w : World) (hR : RSays R P) (h : RLogAt w R) (hx : x.At w) (hs : x.o.Small) (hl : R.ops.length < 1000000) :
    Calls Try.prog 42 #[.agg R.c, .agg x.c] w (RAddPost w R P x) := by
  cases ho : okOp x.o with
  | false => exact RLAdd_no R P x w h hx hs ho
  | true => exact RLAdd_yes R P x w hR h hx hs ho hl
end Go.Proofs.Ytnfehkncfjgeeaa

namespace Go.Proofs.Ytnfehkncfjgeeaa
open Go Go.RowKit

theorem run_load_RL {w : World} {a : Act} (op : Oper) (x : Operand) (ho : op.op = .load 35 x) (g : Nat) (hx : a.eval x = .pointer (some ⟨g, 0, none⟩)) {R : RLg} (hb : Box w g 35 R.c) :
    (execOp a.eval op).run Try.prog w = .ok (.value (.agg R.c)) w := by
  unfold execOp
  simp only [ho, hx, Instr.loadAt, Instr.sureAddr, Sem.run_bind, Sem.run_pure, Result.andThen_ok, load_RL hb]
/-- In the middle of the reference's Cut. -/
structure RcAt (w : World) (R : RLg) (H : Option Addr) (hv : List Dt) (acc : List Lop) (A : Option Addr) (c : Nat) (W : World) : Prop where
  b : RbAt w R H hv acc A c W
  b2 : Box W (w.heap.size + 1) 35 #[.slice none 0 0, .slice none 0 0]
section
variable {w : World} {R : RLg} {H : Option Addr} {hv : List Dt} {acc : List Lop} {A A' : Option Addr} {c c' : Nat} {w1 w2 : World}
theorem RcAt.fresh (h : RcAt w R H hv acc A c w1) (hk : Kept (fun _ => False) w1 w2) : RcAt w R H hv acc A c w2 := ⟨h.b.fresh hk, h.b2.kept hk id⟩
theorem RcAt.push (h : RcAt w R H hv acc A c w1) (x : Lop) (hg : Kept (fun k => (Value.slice A acc.length c).ownBlock = some k) w1 w2)
    (ho : w2.ownsRow w.heap.size 45 11 (.slice A' (acc.length + 1) c') (acc.length + 1) (lops acc ++ x.c.toList)) : RcAt w R H hv (acc ++ [x]) A' c' w2 :=
  ⟨h.b.push x hg ho, h.b2.kept hg (own_box_ne h.b.row h.b2 (by decide))⟩
end
def RCutPost (w : World) (R : RLg) (P : Pl) (hv : List Dt) (e : Ending) (w' : World) : Prop :=
  if P.cutErr hv = 0 then ∃ (R' : RLg) (gs : List Lop) (A : Option Addr) (c : Nat), e = .returned (.tuple #[.agg R'.c, .slice A gs.length c, .int .i64 0]) ∧ RLogAt w' R' ∧ w'.ownsRow w.heap.size 28 2 (.slice R'.bA R'.base.length R'.bc) R'.base.length (dots R'.base) ∧ w'.ownsRow w.heap.size 45 11 R'.oV R'.ops.length (lops R'.ops) ∧ R'.base = vec (maxR (says R.base) (says hv)) ∧ R'.ops = (R.ops.filter fun x => !hasV hv x.o.dot) ∧
    gs = (R.ops.filter fun x => hasV hv x.o.dot) ∧ w'.ownsRow w.heap.size 45 11 (.slice A gs.length c) gs.length (lops gs) ∧ Kept (fun _ => False) w w'
  else e = .returned (.tuple #[.agg R.c, .slice none 0 0, .int .i64 (P.cutErr hv)]) ∧ Kept (fun _ => False) w w'
set_option maxRecDepth 100000 in
set_option maxHeartbeats 3200000 in
theorem RCut_any (R : RLg) (P : Pl) (H : Option Addr) (hv : List Dt) (hc : Nat) (w : World) (hR : RSays R P) (h : RLogAt w R) (hh : DotsAt w H hv) (hlen : hv.length ≤ 1000000) :
    Calls Try.prog 45 #[.agg R.c, .slice H hv.length hc] w (RCutPost w R P hv) := by
  have HZ := Lib.hid (show RcAt w R H hv [] none 0 ((w.alloc (.cells R.c 35)).alloc (.cells #[.slice none 0 0, .slice none 0 0] 35)) from
    ⟨⟨((Kept.refl _ _).alloc _).alloc _, h, hh, (Box.new w _ _).alloc _, World.ownsRow_nil _ _ _ _⟩, (Box.new _ _ _).at_eq (show _ = w.heap.size + 1 by simp)⟩)
  have hol := h.ol
  have HPL := Lib.hid (fun W (hW : RLogAt W R) => RVector_any R P W hR hW)
  have hpl : P.all.length ≤ 1000000 := by
    have := vecTo_len (says P.all) 17
    have e := vec_says hR.good.ac
    rw [← e]
    unfold vec
    omega
  obtain ⟨ck, hck⟩ : ∃ ck, checkV hv = ck := ⟨_, rfl⟩
  obtain ⟨cb, hcb⟩ : ∃ cb, coversR (says P.all) (says hv) = cb := ⟨_, rfl⟩
  have he : P.cutErr hv = if ck ≠ 0 then ck else if cb = false then 9 else 0 := by unfold Pl.cutErr; rw [hck, hcb]
  have hlk : ck = 0 → lacks hv R.ops = R.ops.filter fun x => !hasV hv x.o.dot := fun e => if_pos (hck.trans e)
  have HLK := Lib.hid hlk
  have HPE := Lib.hid he
  have HCK := Lib.hid hck
  have HCB := Lib.hid hcb
  clear h hh hR hck hcb he hlk
  go_enter Try.func45, Try.ntmps45
  go_upto_region 1 with (fail)
  generalize (w.alloc (.cells R.c 35)).alloc (.cells #[.slice none 0 0, .slice none 0 0] 35) = w0 at HZ ⊢
  go_wp2_with (fail)
  refine (RCheck_any H hv hc _ HZ.out.b.h (by omega)).mono ?_
  unfold IntPost
  rw [HCK.out]
  rintro e w1 ⟨rfl, hk1⟩
  have HZ1 := Lib.hid (HZ.out.fresh hk1)
  clear hk1 HZ
  by_cases h0 : ck = 0
  · subst h0
    have HL0 := Lib.hid (HLK.out rfl)
    obtain ⟨c0, c1⟩ := HZ1.out.b.cells
    clear HLK
    go_wp2_with (fail)
    refine (HPL.out _ HZ1.out.b.v.l).mono ?_
    rintro e w2 ⟨A2, c2, rfl, ho2, hk2⟩
    have HZ2 := Lib.hid (HZ1.out.fresh hk2)
    have HD2 := Lib.hid (DotsAt.of_own ho2)
    clear ho2 hk2 HZ1 HPL c0 c1
    go_wp2_with (fail)
    refine (RCovers_any A2 H P.all hv c2 hc _ HD2.out HZ2.out.b.h (by omega) (by omega)).mono ?_
    unfold BoolPost
    rw [HCB.out]
    rintro e w3 ⟨rfl, hk3⟩
    have HZ3 := Lib.hid (HZ2.out.fresh hk3)
    clear hk3 HZ2 HD2 HCB
    obtain ⟨c0, c1⟩ := HZ3.out.b.cells
    cases cb with
    | false =>
      go_wp2_with (refine wpList_store_box rfl 35 _ _ rfl (w.heap.size + 1) (RLg.c R) rfl rfl 35 _ HZ3.out.b2 (size_RL.trans rfl) rfl (RLg.c_one _) ?_)
      intro w4 HB4 hk4
      have HK4 := Lib.hid (HZ3.out.b.k.trans hk4 fun k hk e => by omega)
      clear hk4 HZ3 c0 c1
      go_wp2
      refine bodyPost_ret (ret_cell_slot_slot (show Try.f45.results = #[.cell 4 35, .tmp 5, .tmp 6] by kernel_rfl) _ _ (.slice none 0 0) (.int .i64 9) (w.heap.size + 1) R rfl HB4.out rfl rfl) rfl ?_
      unfold RCutPost
      rw [HPE.out, if_neg (show ¬ ((0 : Int) ≠ 0) by simp), if_pos True.intro, if_neg (by decide)]
      exact ⟨rfl, HK4.out⟩
    | true =>
      go_wp2_with (fail)
      go_loopw [8, 9] (fun vv i wr => ∃ (k : Nat) (A : Option Addr) (c : Nat), vv = .slice A ((R.ops.take k).filter fun x => hasV hv x.o.dot).length c ∧ i = .int .i64 k ∧ k ≤ R.ops.length ∧ RcAt w R H hv ((R.ops.take k).filter fun x => hasV hv x.o.dot) A c wr) (fun _ i _ => R.ops.length - (intOf i).toNat)
      case atStart => exact ⟨0, none, 0, rfl, rfl, Nat.zero_le _, HZ3.out⟩
      case round =>
        obtain ⟨k, A, c, rfl, rfl, hk, hz⟩ := hrel
        have HZ2 := Lib.hid hz
        clear HZ3 c0 c1
        obtain ⟨c0, c1⟩ := hz.b.cells
        by_cases hlt : k < R.ops.length
        · obtain ⟨go, hoA, _, hcell, _⟩ := own_cells hz.b.v.l.row (by omega)
          have HFT := Lib.hid (filter_take (fun x => hasV hv x.o.dot) R.ops k hlt)
          obtain ⟨x, hx⟩ : ∃ x, R.ops[k] = x := ⟨_, rfl⟩
          obtain ⟨cs, hcs⟩ : ∃ cs, x.c = cs := ⟨_, rfl⟩
          have HXC := Lib.hid (show R.ops[k].c = cs by rw [hx, hcs])
          have y0 := hcell (k * 11 + 0) _ (by rw [lops_get R.ops k hlt 0 (by omega), hx]; rfl)
          have y1 := hcell (k * 11 + 1) _ (by rw [lops_get R.ops k hlt 1 (by omega), hx]; rfl)
          simp only [Nat.add_zero] at y0
          rw [hx] at HFT
          obtain ⟨acc, hacc⟩ : ∃ acc, (R.ops.take k).filter (fun x => hasV hv x.o.dot) = acc := ⟨_, rfl⟩
          have hal : acc.length ≤ 1000000 := by
            rw [← hacc]
            exact Nat.le_trans (List.length_filter_le _ _) (by rw [List.length_take]; omega)
          rw [hacc] at HZ2 HFT ⊢
          have HCS := Lib.hid hcs
          have HSZ := Lib.hid (show cs.size = 11 by rw [← hcs]; rfl)
          have HO2 := Lib.hid (show cs.toList.all (·.oneCell') = true by rw [← hcs]; exact Lop.c_one _)
          have HOA := Lib.hid hoA
          rw [hoA] at c1
          clear hz hx hcs hacc hcell hoA
          go_wp2_with (fail)
          refine (RHas_any H hv hc x.o.dot _ HZ2.out.b.h (by omega)).mono ?_
          unfold BoolPost
          rintro e w5 ⟨rfl, hk3⟩
          have HZ4 := Lib.hid (HZ2.out.fresh hk3)
          clear hk3 HZ2 c0 c1 y0 y1
          cases hhas : hasV hv x.o.dot with
          | false =>
            have HE := Lib.hid hhas
            clear hhas
            go_wp2_with (fail)
            go_roundw
            case rel =>
              have e : (R.ops.take (k + 1)).filter (fun x => hasV hv x.o.dot) = acc := by rw [HFT.out, if_neg (by simp [HE.out]), List.append_nil]
              exact ⟨k + 1, A, c, by rw [e], by go_num, by omega, by rw [e]; exact HZ4.out⟩
            case measure => simp [intOf]; omega
          | true =>
            have HE := Lib.hid hhas
            obtain ⟨c0, c1⟩ := HZ4.out.b.cells
            have HR := Lib.hid (show w5.ownsRow 0 45 11 (.slice (some ⟨go, 0, none⟩) R.ops.length R.oc) R.ops.length (lops R.ops) by rw [← HOA.out]; exact HZ4.out.b.v.l.row)
            rw [HOA.out] at c1
            clear hhas
            go_wp2_with (first | refine wpList_load_lop rfl _ rfl go k rfl R.ops HR.out hlt cs HXC.out ?_ | refine wpList_one_op rfl _ rfl x cs HCS.out rfl ?_ | (at_builtin; refine Hid.out ?_))
            refine Lib.hid ?_
            refine wpList_append_new eltOps rfl _ _ rfl w.heap.size _ acc.length (lops acc) rfl HZ4.out.b.row 1 1 rfl HSZ.out HO2.out (by omega) HZ4.out.b.k.size ?_
            intro A' c' w6 HO4 HK4 HG4
            have HZ5 := Lib.hid (HZ4.out.push x HK4.out (by rw [HCS.out]; exact HO4.out))
            clear HZ4 HO4 HK4 HG4 c0 c1
            go_wp2_with (fail)
            go_roundw
            case rel =>
              have e : (R.ops.take (k + 1)).filter (fun x => hasV hv x.o.dot) = acc ++ [x] := by rw [HFT.out, if_pos (by simp [HE.out])]
              have e2 : (acc ++ [x]).length = acc.length + 1 := by simp
              refine ⟨k + 1, A', c', ?_, by go_num, by omega, by rw [e]; exact HZ5.out⟩
              rw [e, e2]
            case measure => simp [intOf]; omega
        · obtain rfl : k = R.ops.length := by omega
          rw [List.take_length] at HZ2 ⊢
          clear hz
          obtain ⟨gs, hgs⟩ : ∃ gs, (R.ops.filter fun x => hasV hv x.o.dot) = gs := ⟨_, rfl⟩
          rw [hgs] at HZ2 ⊢
          have HGS := Lib.hid hgs
          clear hgs hlt hk
          go_wp2_with (fail)
          have HZ4 := Lib.hid (HZ2.out.fresh (Kept.refl (fun _ => False) wr).drew)
          clear HZ2 c0 c1
          as_aux_lemma =>
            refine wp_region_held_drew (S := fun W => Box W w.heap.size 35 R.c) (by kernel_rfl) HZ4.out.b.box fun hS => ?_
            generalize World.drew _ = w6 at HZ4 hS ⊢
            refine held_takeTo 45 (i := 0) (v := .pointer (some ⟨w.heap.size, 0, none⟩)) rfl rfl (by kernel_rfl) (by kernel_rfl) (by kernel_rfl) (fun _ _ _ h => h) rfl hS (fun W hW => by go_simp) ?_
            simp only [List.setIfInBounds_toArray, List.set_cons_zero, List.set_cons_succ]
            refine held_takeTo 46 (i := 1) (v := .slice R.bA R.base.length R.bc) rfl rfl (by kernel_rfl) (by kernel_rfl) (by kernel_rfl) (fun _ _ _ h => h) rfl hS (fun W hW => by (have h2 : W.cell? ⟨w.heap.size, 0, none⟩ = some (.slice R.bA R.base.length R.bc) := by simpa [RLg.c] using hW.cell 0); go_simp) ?_
            simp only [List.setIfInBounds_toArray, List.set_cons_zero, List.set_cons_succ]
            refine held_takeTo 47 (i := 2) (v := .slice H hv.length hc) rfl rfl (by kernel_rfl) (by kernel_rfl) (by kernel_rfl) (fun _ _ _ h => h) rfl hS (fun W hW => by go_simp) ?_
            simp only [List.setIfInBounds_toArray, List.set_cons_zero, List.set_cons_succ]
            refine held_takeTo 49 (i := 4) (v := .agg R.c) rfl rfl (by kernel_rfl) (by kernel_rfl) (by kernel_rfl) (fun _ _ _ h => h) rfl hS (fun W hW => run_load_RL _ _ rfl w.heap.size rfl hW) ?_
            simp only [List.setIfInBounds_toArray, List.set_cons_zero, List.set_cons_succ]
            refine held_takeTo 50 (i := 5) (v := .slice H hv.length hc) rfl rfl (by kernel_rfl) (by kernel_rfl) (by kernel_rfl) (fun _ _ _ h => h) rfl hS (fun W hW => by go_simp) ?_
            simp only [List.setIfInBounds_toArray, List.set_cons_zero, List.set_cons_succ]
            refine held_takeTo 53 (i := 8) (v := .slice A gs.length c) rfl rfl (by kernel_rfl) (by kernel_rfl) (by kernel_rfl) (fun _ _ _ h => h) rfl hS (fun W hW => by go_simp) ?_
            simp only [List.setIfInBounds_toArray, List.set_cons_zero, List.set_cons_succ]
            refine held_one (i := 3) (by kernel_rfl) rfl fun K hK => ?_
            go_wp2_with (fail)
            refine (RMerge_any R.bA H R.base hv R.bc hc w6 HZ4.out.b.v.l.b HZ4.out.b.h (by have := HZ4.out.b.l0.bl; omega) (by omega)).mono ?_
            rintro e w7 ⟨A7, c7, rfl, ho7, hk7⟩
            have HZ7 := Lib.hid (HZ4.out.fresh hk7)
            have HO7 := Lib.hid ho7
            have hS7 := hS.kept hk7 id
            have HZ4B := Lib.hid HZ4.out.b.k.size
            clear ho7 hk7 HZ4
            go_wp2_with (fail)
            refine hK.out _ _ hS7 fun _ => ?_
            clear hK K hS
            refine held_one (i := 6) (by kernel_rfl) rfl fun K hK => ?_
            go_wp2_with (fail)
            refine (RBeyond_any R H hv hc w7 HZ7.out.b.v.l HZ7.out.b.h hlen).mono ?_
            rw [HL0.out]
            rintro e w8 ⟨A8, c8, rfl, ho8, hk8⟩
            have HZ8 := Lib.hid (HZ7.out.fresh hk8)
            have HO8 := Lib.hid ho8
            have HO7' := Lib.hid (hk8.own HO7.out fun _ _ => id)
            have HZ7B := Lib.hid HZ7.out.b.k.size
            have hS8 := hS7.kept hk8 id
            clear ho8 hk8 HZ7 HO7
            obtain ⟨R', hR'⟩ : ∃ R' : RLg, (⟨vec (maxR (says R.base) (says hv)), A7, c7, R.ops.filter fun x => !hasV hv x.o.dot, A8, c8⟩ : RLg) = R' := ⟨_, rfl⟩
            have HR' := Lib.hid hR'
            have e7 : (Value.slice A7 (vec (maxR (says R.base) (says hv))).length c7) = .slice R'.bA R'.base.length R'.bc := by rw [← hR']
            have e8 : (Value.slice A8 (R.ops.filter fun x => !hasV hv x.o.dot).length c8) = .slice R'.oA R'.ops.length R'.oc := by rw [← hR']
            rw [e7, e8]
            clear hR' e7 e8
            go_wp2_with (fail)
            refine hK.out _ _ hS8 fun _ => ?_
            clear hK K hS7
            refine held_one (i := 7) (by kernel_rfl) rfl fun K hK => ?_
            go_wp2_with (fail)
            refine hK.out _ _ hS8 fun _ => ?_
            clear hK K
            refine held_one (i := 9) (by kernel_rfl) rfl fun K hK => ?_
            refine wpList_store_box rfl 35 _ _ rfl (w.heap.size + 1) (RLg.c R') rfl rfl 35 _ HZ8.out.b2 (size_RL.trans rfl) rfl (RLg.c_one _) ?_
            intro w9 HB9 hk9
            have HK9 := Lib.hid (HZ8.out.b.k.trans hk9 fun k hk e => by omega)
            have hS9 : Box w9 w.heap.size 35 R.c := hS8.kept hk9 (by omega)
            have HF9 := Lib.hid hk9
            clear hk9
            refine hK.out _ _ hS9 fun _ => ?_
            clear hK K hS8
            refine held_one (i := 10) (by kernel_rfl) rfl fun K hK => ?_
            go_wp2_with (fail)
            refine hK.out _ _ hS9 fun _ => ?_
            clear hK K
            refine held_one (i := 11) (by kernel_rfl) rfl fun K hK => ?_
            go_wp2_with (fail)
            refine hK.out _ _ hS9 fun _ => ?_
            clear hK K
            refine wpAnyH_done (by kernel_rfl) ?_ _
            go_wp2_with (fail)
            refine bodyPost_ret (ret_cell_slot_slot (show Try.f45.results = #[.cell 4 35, .tmp 5, .tmp 6] by kernel_rfl) _ _ (.slice A gs.length c) (.int .i64 0) (w.heap.size + 1) R' rfl HB9.out rfl rfl) rfl ?_
            unfold RCutPost
            rw [HPE.out, if_neg (show ¬ ((0 : Int) ≠ 0) by simp), if_neg (show ¬ (true = false) by decide), if_pos rfl]
            have hl9 := HZ8.out.b.l0.fresh HK9.out
            have hb9 := own_base (HF9.out.own HO7'.out fun k e1 e2 => by
              subst e2
              exact own_box_ne HO7'.out HZ8.out.b2 (by decide) e1) HZ4B.out
            have ho9 := own_base (HF9.out.own HO8.out fun k e1 e2 => by
              subst e2
              exact own_box_ne HO8.out HZ8.out.b2 (by decide) e1) HZ7B.out
            refine ⟨R', gs, A, c, rfl, ?_, by rw [← HR'.out]; exact hb9, by rw [← HR'.out]; exact ho9, by rw [← HR'.out], by rw [← HR'.out], HGS.out.symm, ?_, HK9.out⟩
            · rw [← HR'.out]
              refine ⟨DotsAt.of_own hb9, own_base ho9 (Nat.zero_le _), fun x hx => hl9.ats x (List.mem_filter.1 hx).1, fun x hx => hl9.small x (List.mem_filter.1 hx).1, ?_, Nat.le_trans (List.length_filter_le _ _) hl9.ol⟩
              have := vecTo_len (maxR (says R.base) (says hv)) 17
              unfold vec
              simp only
              omega
            · exact HF9.out.own HZ8.out.b.row fun k e1 e2 => by
                subst e2
                exact own_box_ne HZ8.out.b.row HZ8.out.b2 (by decide) e1
  · have H0 := Lib.hid h0
    have hne : (ck != 0) = true := bne_iff_ne.2 h0
    obtain ⟨c0, c1⟩ := HZ1.out.b.cells
    go_wp2_with (refine wpList_store_box rfl 35 _ _ rfl (w.heap.size + 1) (RLg.c R) rfl rfl 35 _ HZ1.out.b2 (size_RL.trans rfl) rfl (RLg.c_one _) ?_)
    intro w4 HB4 hk4
    have HK4 := Lib.hid (HZ1.out.b.k.trans hk4 fun k hk e => by omega)
    clear hk4 HZ1 c0 c1
    go_wp2
    refine bodyPost_ret (ret_cell_slot_slot (show Try.f45.results = #[.cell 4 35, .tmp 5, .tmp 6] by kernel_rfl) _ _ (.slice none 0 0) (.int .i64 ck) (w.heap.size + 1) R rfl HB4.out rfl rfl) rfl ?_
    unfold RCutPost
    rw [HPE.out, if_pos (show ck ≠ 0 from H0.out), if_neg H0.out]
    exact ⟨rfl, HK4.out⟩
end Go.Proofs.Ytnfehkncfjgeeaa

namespace Go.Proofs.Ytnfehkncfjgeeaa
open Go Go.RowKit

def dotM : Dt := ⟨77, 77⟩
def runM : Rn := ⟨⟨0, 0⟩, 77⟩
/-- An operation in lists of its own, each with a marked place behind. -/
structure TwinAt (W : World) (base : Nat) (o : Opr) (y : Lop) : Prop where
  eq : y.o = o
  d : W.ownsRow base 28 2 (.slice y.dA (o.deps.length + 1) y.dc) (o.deps.length + 1) (dots (o.deps ++ [dotM]))
  g : W.ownsRow base 87 3 (.slice y.gA (o.gone.length + 1) y.gc) (o.gone.length + 1) (runs (o.gone ++ [runM]))
theorem DotsAt.pre {w : World} {A : Option Addr} {l m : List Dt} (h : DotsAt w A (l ++ m)) : DotsAt w A l := fun k hk => by
  have := h k (by rw [List.length_append]; omega)
  rwa [List.getElem_append_left hk] at this
theorem RunsAt.pre {w : World} {A : Option Addr} {l m : List Rn} (h : RunsAt w A (l ++ m)) : RunsAt w A l := fun k hk => by
  have := h k (by rw [List.length_append]; omega)
  rwa [List.getElem_append_left hk] at this
theorem DotsAt.nilness {w : World} {A : Option Addr} {l : List Dt} {c : Nat} (h : DotsAt w A l) (hc : A = none → c = 0) : A = none → l.length = 0 ∧ c = 0 := by
  rintro rfl
  refine ⟨?_, hc rfl⟩
  rcases Nat.eq_zero_or_pos l.length with h0 | h0
  · exact h0
  · obtain ⟨ad, e, _⟩ := h 0 h0
    cases e
theorem RunsAt.nilness {w : World} {A : Option Addr} {l : List Rn} {c : Nat} (h : RunsAt w A l) (hc : A = none → c = 0) : A = none → l.length = 0 ∧ c = 0 := by
  rintro rfl
  refine ⟨?_, hc rfl⟩
  rcases Nat.eq_zero_or_pos l.length with h0 | h0
  · exact h0
  · obtain ⟨ad, e, _⟩ := h 0 h0
    cases e
section
variable {W W' : World} {base : Nat} {o : Opr} {y : Lop} {S : Nat → Prop}
theorem TwinAt.at (h : TwinAt W base o y) : y.At W := ⟨by rw [h.eq]; exact DotsAt.pre (DotsAt.of_own h.d), by rw [h.eq]; exact RunsAt.pre (RunsAt.of_own h.g)⟩
theorem TwinAt.fresh (h : TwinAt W base o y) (hk : Kept (fun _ => False) W W') : TwinAt W' base o y := ⟨h.eq, hk.own h.d fun _ _ => id, hk.own h.g fun _ _ => id⟩
theorem TwinAt.kept (h : TwinAt W base o y) (hk : Kept S W W') (hd : NoKind W S 28) (hg : NoKind W S 87) : TwinAt W' base o y := ⟨h.eq, hk.own_kind hd h.d, hk.own_kind hg h.g⟩
theorem TwinAt.older {b : Nat} (h : TwinAt W base o y) (hb : b ≤ base) : TwinAt W b o y := ⟨h.eq, own_base h.d hb, own_base h.g hb⟩
theorem TwinAt.deps (h : TwinAt W base o y) : ∃ gd, y.dA = some ⟨gd, 0, none⟩ ∧ o.deps.length + 1 ≤ y.dc ∧ W.cell? ⟨gd, o.deps.length * 2 + 1, none⟩ = some (.int .i64 77) := by
  obtain ⟨g, hA, -, hc, -⟩ := own_cells h.d (by omega)
  refine ⟨g, hA, (own_cap h.d), hc _ _ ?_⟩
  obtain ⟨-, g1⟩ := dots_get (o.deps ++ [dotM]) o.deps.length (by simp)
  rw [g1]
  simp [dotM]
theorem TwinAt.gone (h : TwinAt W base o y) : ∃ gg, y.gA = some ⟨gg, 0, none⟩ ∧ o.gone.length + 1 ≤ y.gc ∧ W.cell? ⟨gg, o.gone.length * 3 + 2, none⟩ = some (.int .i64 77) := by
  obtain ⟨g, hA, -, hc, -⟩ := own_cells h.g (by omega)
  refine ⟨g, hA, (own_cap h.g), hc _ _ ?_⟩
  obtain ⟨-, -, g1⟩ := runs_get (o.gone ++ [runM]) o.gone.length (by simp)
  rw [g1]
  simp [runM]
end
def TwinPost (w : World) (o : Opr) (e : Ending) (w' : World) : Prop := ∃ y : Lop, e = .returned (.agg y.c) ∧ TwinAt w' w.heap.size o y ∧ Kept (fun _ => False) w w'
/-- What an operation that is handed in has beside its lists. -/
structure Lop.Nil (x : Lop) : Prop where
  d : x.dA = none → x.dc = 0
  g : x.gA = none → x.gc = 0

set_option maxRecDepth 100000 in
set_option maxHeartbeats 1600000 in
theorem twin_any (x : Lop) (w : World) (h : x.At w) (hn : x.Nil) (hs : x.o.Small) : Calls Try.prog 41 #[.agg x.c] w (TwinPost w x.o) := by
  obtain ⟨⟨⟨ds, dq⟩, deps, kind, ⟨it, is⟩, ⟨rt, rs⟩, text, gone, site⟩, dA, dc, gA, gc⟩ := x
  have hk0 : Kept (fun _ => False) w ((w.alloc (.cells #[.int .i64 ds, .int .i64 dq, .slice dA deps.length dc, .int .i64 kind, .int .i64 it, .int .i64 is, .int .i64 rt, .int .i64 rs, .string text, .slice gA gone.length gc, .int .i64 site] 45)).alloc (.cells opZ 45)) := ((Kept.refl _ _).alloc _).alloc _
  have HD := Lib.hid (h.d.fresh hk0)
  have HG := Lib.hid (h.g.fresh hk0)
  have HND := Lib.hid (h.d.nilness hn.d)
  have HNG := Lib.hid (h.g.nilness hn.g)
  have hdl := hs.dl
  have hgl := hs.gl
  have HK := Lib.hid hk0
  clear h hs hn hk0
  simp only at HD HG HND HNG hdl hgl ⊢
  unfold Lop.c Opr.cells
  simp only
  have HB := Lib.hid ((Box.new w 45 #[.int .i64 ds, .int .i64 dq, .slice dA deps.length dc, .int .i64 kind, .int .i64 it, .int .i64 is, .int .i64 rt, .int .i64 rs, .string text, .slice gA gone.length gc, .int .i64 site]).alloc (.cells opZ 45))
  have HR := Lib.hid ((Box.new (w.alloc (.cells #[.int .i64 ds, .int .i64 dq, .slice dA deps.length dc, .int .i64 kind, .int .i64 it, .int .i64 is, .int .i64 rt, .int .i64 rs, .string text, .slice gA gone.length gc, .int .i64 site] 45)) 45 opZ).at_eq (show _ = w.heap.size + 1 by simp))
  unfold opZ at *
  go_enter Try.func41, Try.ntmps41
  go_upto_region 2 with (fail)
  generalize (w.alloc (.cells #[.int .i64 ds, .int .i64 dq, .slice dA deps.length dc, .int .i64 kind, .int .i64 it, .int .i64 is, .int .i64 rt, .int .i64 rs, .string text, .slice gA gone.length gc, .int .i64 site] 45)).alloc (.cells #[.int .i64 0, .int .i64 0, .slice none 0 0, .int .i64 0, .int .i64 0, .int .i64 0, .int .i64 0, .int .i64 0, .string ⟨#[]⟩, .slice none 0 0, .int .i64 0] 45) = w0 at HD HG HK HB HR ⊢
  have b2 := HB.out.cell 2
  simp only [List.getElem?_toArray, List.getElem?_cons_succ, List.getElem?_cons_zero] at b2
  go_wp2_with (at_builtin; refine wpList_append_copy eltDots rfl _ _ rfl rfl dA deps.length dc (dots deps) rfl HND.out (dots_len deps) HD.out.cells (dots_one deps) (by omega) ?_)
  intro A1 c1 w1 HO1 HK1
  have hs1 := HK1.out.size
  go_wp2_with (at_builtin; refine wpList_append_new eltDots rfl _ _ rfl w0.heap.size _ deps.length (dots deps) rfl HO1.out 1 1 rfl rfl rfl (by omega) hs1 ?_)
  intro A2 c2 w2 HO2 HK2 HM2
  have hk2 : Kept (fun _ => False) w0 w2 := HK1.out.trans HK2.out fun k hk e => by have := (HO1.out.lt k e).1; omega
  have HD2 := Lib.hid (show w2.ownsRow w.heap.size 28 2 (.slice A2 (deps.length + 1) c2) (deps.length + 1) (dots (deps ++ [dotM])) by rw [dots_app]; exact own_base HO2.out HK.out.size)
  have HB2 := Lib.hid (HB.out.kept hk2 id)
  have HR2 := Lib.hid (HR.out.kept hk2 id)
  have HG2 := Lib.hid (HG.out.fresh hk2)
  have HKK := Lib.hid (HK.out.trans hk2 fun _ _ e => e)
  have hcd := own_cap HO2.out
  clear hk2 HO1 HK1 HO2 HK2 HM2 HB HR HG HK HD HND b2 hs1
  have b2 := HB2.out.cell 2
  have f2 := HB2.out.frozen 2
  have b9 := HB2.out.cell 9
  simp only [List.getElem?_toArray, List.getElem?_cons_succ, List.getElem?_cons_zero] at b2 b9
  go_wp2_with (at_builtin; refine wpList_append_copy eltRuns rfl _ _ rfl rfl gA gone.length gc (runs gone) rfl HNG.out (runs_len gone) HG2.out.cells (runs_one gone) (by omega) ?_)
  intro A3 c3 w3 HO3 HK3
  have hs3 := HK3.out.size
  go_wp2_with (at_builtin; refine wpList_append_new eltRuns rfl _ _ rfl w2.heap.size _ gone.length (runs gone) rfl HO3.out 1 1 rfl rfl rfl (by omega) hs3 ?_)
  intro A4 c4 w4 HO4 HK4 HM4
  have hk4 : Kept (fun _ => False) w2 w4 := HK3.out.trans HK4.out fun k hk e => by have := (HO3.out.lt k e).1; omega
  have HG4 := Lib.hid (show w4.ownsRow w.heap.size 87 3 (.slice A4 (gone.length + 1) c4) (gone.length + 1) (runs (gone ++ [runM])) by rw [runs_app]; exact own_base HO4.out HKK.out.size)
  have HD4 := Lib.hid (hk4.own HD2.out fun _ _ => id)
  have HB4 := Lib.hid (HB2.out.kept hk4 id)
  have HR4 := Lib.hid (HR2.out.kept hk4 id)
  have HK5 := Lib.hid (HKK.out.trans hk4 fun _ _ e => e)
  have hcg := own_cap HO4.out
  clear hk4 HO3 HK3 HO4 HK4 HM4 HB2 HR2 HG2 HKK HD2 HNG b2 b9 f2 hs3
  have b2 := HB4.out.cell 2
  have f2 := HB4.out.frozen 2
  simp only [List.getElem?_toArray, List.getElem?_cons_succ, List.getElem?_cons_zero] at b2
  have l1 : deps.length ≤ c2 := by omega
  go_upto_region 8 with (fail)
  have HB5 := Lib.hid (HB4.out.set 2 (.slice A2 deps.length c2))
  have hk5 : Kept (fun k => k = w.heap.size) w4 (w4.setCell ⟨w.heap.size, 2, none⟩ (.slice A2 deps.length c2)) := (Kept.refl _ _).at 2 _ (.inl rfl)
  have HR5 := Lib.hid (HR4.out.kept hk5 (by omega))
  have HD5 := Lib.hid (hk5.own HD4.out fun k e1 e2 => own_box_ne HD4.out HB4.out (by decide) (by rw [e1, e2]))
  have HG5 := Lib.hid (hk5.own HG4.out fun k e1 e2 => own_box_ne HG4.out HB4.out (by decide) (by rw [e1, e2]))
  have HK6 := Lib.hid (HK5.out.trans hk5 fun k hk e => by omega)
  simp only [List.setIfInBounds_toArray, List.set_cons_zero, List.set_cons_succ] at HB5
  clear hk5 HB4 HR4 HD4 HG4 HK5 b2 f2
  generalize w4.setCell ⟨w.heap.size, 2, none⟩ (.slice A2 deps.length c2) = w5 at HB5 HR5 HD5 HG5 HK6 ⊢
  have b9 := HB5.out.cell 9
  have f9 := HB5.out.frozen 9
  simp only [List.getElem?_toArray, List.getElem?_cons_succ, List.getElem?_cons_zero] at b9
  have l2 : gone.length ≤ c4 := by omega
  go_upto_region 9 with (fail)
  have HB6 := Lib.hid (HB5.out.set 9 (.slice A4 gone.length c4))
  have hk6 : Kept (fun k => k = w.heap.size) w5 (w5.setCell ⟨w.heap.size, 9, none⟩ (.slice A4 gone.length c4)) := (Kept.refl _ _).at 9 _ (.inl rfl)
  have HR6 := Lib.hid (HR5.out.kept hk6 (by omega))
  have HD6 := Lib.hid (hk6.own HD5.out fun k e1 e2 => own_box_ne HD5.out HB5.out (by decide) (by rw [e1, e2]))
  have HG6 := Lib.hid (hk6.own HG5.out fun k e1 e2 => own_box_ne HG5.out HB5.out (by decide) (by rw [e1, e2]))
  have HK7 := Lib.hid (HK6.out.trans hk6 fun k hk e => by omega)
  simp only [List.setIfInBounds_toArray, List.set_cons_zero, List.set_cons_succ] at HB6
  clear hk6 HB5 HR5 HD5 HG5 HK6 b9 f9
  generalize w5.setCell ⟨w.heap.size, 9, none⟩ (.slice A4 gone.length c4) = w6 at HB6 HR6 HD6 HG6 HK7 ⊢
  go_wp2_with (first | (refine wpList_load_op rfl _ rfl w.heap.size rfl _ _ rfl HB6.out ?_) | (refine wpList_store_box rfl 45 _ _ rfl (w.heap.size + 1) (Opr.cells ⟨⟨ds, dq⟩, deps, kind, ⟨it, is⟩, ⟨rt, rs⟩, text, gone, site⟩ A2 c2 A4 c4) rfl rfl 45 _ HR6.out (size_op.trans rfl) rfl (Opr.cells_one ..) ?_; intro w7 HR7 hk7))
  have HK8 := Lib.hid (HK7.out.trans hk7 fun k hk e => by omega)
  have HD7 := Lib.hid (hk7.own HD6.out fun k hk e => own_box_ne HD6.out HR6.out (by decide) (by rw [hk, e]))
  have HG7 := Lib.hid (hk7.own HG6.out fun k hk e => own_box_ne HG6.out HR6.out (by decide) (by rw [hk, e]))
  refine bodyPost_ret (results_cell_row rfl _ _ (w.heap.size + 1) 45 (Opr.cells ⟨⟨ds, dq⟩, deps, kind, ⟨it, is⟩, ⟨rt, rs⟩, text, gone, site⟩ A2 c2 A4 c4) (0, 0) _ rfl HR7.out Try.underlying45 rfl (size_op.trans rfl)) rfl ?_
  exact ⟨⟨⟨⟨ds, dq⟩, deps, kind, ⟨it, is⟩, ⟨rt, rs⟩, text, gone, site⟩, A2, c2, A4, c4⟩, rfl, ⟨rfl, HD7.out, HG7.out⟩, HK8.out⟩
theorem runs_turn {w : World} {base n c : Nat} {A : Option Addr} {l : List Rn} (h : w.ownsRow base 87 3 (.slice A n c) n (runs l)) {k : Nat} (hk : k < n) (d : Rn) :
    ∃ g a b e, A = some ⟨g, 0, none⟩ ∧ (Value.slice A n c).ownBlock = some g ∧ w.cell? ⟨g, k * 3, none⟩ = some a ∧ w.cell? ⟨g, k * 3 + 1, none⟩ = some b ∧ w.cell? ⟨g, k * 3 + 2, none⟩ = some e ∧ (∀ j, w.frozen? ⟨g, j, none⟩ = false) ∧
      (((w.setCell ⟨g, k * 3, none⟩ (.int .i64 d.id.time)).setCell ⟨g, k * 3 + 1, none⟩ (.int .i64 d.id.site)).setCell ⟨g, k * 3 + 2, none⟩ (.int .i64 d.count)).ownsRow base 87 3 (.slice A n c) n (runs (l.set k d)) ∧
      Kept (fun b => b = g) w (((w.setCell ⟨g, k * 3, none⟩ (.int .i64 d.id.time)).setCell ⟨g, k * 3 + 1, none⟩ (.int .i64 d.id.site)).setCell ⟨g, k * 3 + 2, none⟩ (.int .i64 d.count)) := by
  have hn := h.1
  rw [runs_len] at hn
  have hl : k < l.length := by omega
  obtain ⟨g, hA, hb, hc, hf⟩ := own_cells h (by omega)
  obtain ⟨g0, g1, g2⟩ := runs_get l k hl
  subst hA
  have h1 := World.ownsRow.stored h (k * 3) (.int .i64 d.id.time)
  have h2 := World.ownsRow.stored h1.1 (k * 3 + 1) (.int .i64 d.id.site)
  have h3 := World.ownsRow.stored h2.1 (k * 3 + 2) (.int .i64 d.count)
  rw [← runs_store _ k hl] at h3
  exact ⟨g, _, _, _, rfl, hb, hc _ _ g0, hc _ _ g1, hc _ _ g2, hf, h3.1, Kept.at (g := g) (Kept.at (g := g) (Kept.at (g := g) (Kept.refl (fun b => b = g) _) _ _ (.inl rfl)) _ _ (.inl rfl)) _ _ (.inl rfl)⟩
/-- A twin's lists while they are written over. -/
structure SpAt (w : World) (base : Nat) (DA : Option Addr) (n dc : Nat) (GA : Option Addr) (m gc : Nat) (dl : List Dt) (gl : List Rn) (W : World) : Prop where
  k : Kept (fun k => (Value.slice DA n dc).ownBlock = some k ∨ (Value.slice GA m gc).ownBlock = some k) w W
  d : W.ownsRow base 28 2 (.slice DA n dc) n (dots dl)
  g : W.ownsRow base 87 3 (.slice GA m gc) m (runs gl)
section
variable {w W W' : World} {base : Nat} {DA GA : Option Addr} {n dc m gc : Nat} {dl : List Dt} {gl : List Rn}
theorem SpAt.fresh (h : SpAt w base DA n dc GA m gc dl gl W) (hk : Kept (fun _ => False) W W') : SpAt w base DA n dc GA m gc dl gl W' := ⟨h.k.trans hk fun _ _ e => e.elim, hk.own h.d fun _ _ => id, hk.own h.g fun _ _ => id⟩
theorem SpAt.dot (h : SpAt w base DA n dc GA m gc dl gl W) {k : Nat} (hk : k < n) (x : Dt) : ∃ g a b, DA = some ⟨g, 0, none⟩ ∧ W.cell? ⟨g, k * 2, none⟩ = some a ∧ W.cell? ⟨g, k * 2 + 1, none⟩ = some b ∧ (∀ j, W.frozen? ⟨g, j, none⟩ = false) ∧
    SpAt w base DA n dc GA m gc (dl.set k x) gl ((W.setCell ⟨g, k * 2, none⟩ (.int .i64 x.site)).setCell ⟨g, k * 2 + 1, none⟩ (.int .i64 x.seq)) := by
  obtain ⟨g, a, b, hA, hb, y0, y1, f, ho, hK⟩ := dots_turn h.d hk x
  exact ⟨g, a, b, hA, y0, y1, f, h.k.trans hK fun k _ e => .inl (by rw [e]; exact hb), ho, hK.own h.g fun k e1 e2 => own_other h.g h.d (by decide) k e1 (by rw [e2]; exact hb)⟩
theorem SpAt.run (h : SpAt w base DA n dc GA m gc dl gl W) {k : Nat} (hk : k < m) (x : Rn) : ∃ g a b e, GA = some ⟨g, 0, none⟩ ∧ W.cell? ⟨g, k * 3, none⟩ = some a ∧ W.cell? ⟨g, k * 3 + 1, none⟩ = some b ∧ W.cell? ⟨g, k * 3 + 2, none⟩ = some e ∧ (∀ j, W.frozen? ⟨g, j, none⟩ = false) ∧
    SpAt w base DA n dc GA m gc dl (gl.set k x) (((W.setCell ⟨g, k * 3, none⟩ (.int .i64 x.id.time)).setCell ⟨g, k * 3 + 1, none⟩ (.int .i64 x.id.site)).setCell ⟨g, k * 3 + 2, none⟩ (.int .i64 x.count)) := by
  obtain ⟨g, a, b, e, hA, hb, y0, y1, y2, f, ho, hK⟩ := runs_turn h.g hk x
  exact ⟨g, a, b, e, hA, y0, y1, y2, f, h.k.trans hK fun k _ e => .inr (by rw [e]; exact hb), hK.own h.d fun k e1 e2 => own_other h.d h.g (by decide) k e1 (by rw [e2]; exact hb), ho⟩
end
def SpoilPost (y : Lop) (w : World) (e : Ending) (w' : World) : Prop := e = .returned (.bool true) ∧ Kept (fun k => y.dV.ownBlock = some k ∨ y.gV.ownBlock = some k) w w'
set_option maxRecDepth 100000 in
set_option maxHeartbeats 3200000 in
theorem spoil_any (x y : Lop) (base : Nat) (w : World) (hy : TwinAt w base x.o y) (hx : x.At w) (hs : x.o.Small) : Calls Try.prog 43 #[.agg y.c, .agg x.c] w (SpoilPost y w) := by
  have hk0 : Kept (fun _ => False) w ((w.alloc (.cells y.c 45)).alloc (.cells x.c 45)) := ((Kept.refl _ _).alloc _).alloc _
  have HS := Lib.hid (fun (W : World) (hk : Kept (fun _ => False) w W) => same_true y x W (hy.at.fresh hk) (hx.fresh hk) hy.eq.symm (by rw [hy.eq]; exact hs.dl) (by rw [hy.eq]; exact hs.gl))
  have HT := Lib.hid (hy.fresh hk0)
  have HK := Lib.hid hk0
  have HB1 := Lib.hid ((Box.new w 45 y.c).alloc (.cells x.c 45))
  have HB2 := Lib.hid ((Box.new (w.alloc (.cells y.c 45)) 45 x.c).at_eq (show _ = w.heap.size + 1 by simp))
  have hdl := hs.dl
  have hgl := hs.gl
  obtain ⟨cs, hcs⟩ : ∃ cs, x.c = cs := ⟨_, rfl⟩
  obtain ⟨ds, hds⟩ : ∃ ds, y.c = ds := ⟨_, rfl⟩
  have HSX := Lib.hid (show cs.size = 11 by rw [← hcs]; rfl)
  have HSY := Lib.hid (show ds.size = 11 by rw [← hds]; rfl)
  have hyo := hy.eq
  have c2 : ((w.alloc (.cells y.c 45)).alloc (.cells x.c 45)).cell? ⟨w.heap.size + 1, 2, none⟩ = some (.slice x.dA x.o.deps.length x.dc) := HB2.out.cell 2
  have c9 : ((w.alloc (.cells y.c 45)).alloc (.cells x.c 45)).cell? ⟨w.heap.size + 1, 9, none⟩ = some (.slice x.gA x.o.gone.length x.gc) := HB2.out.cell 9
  have HY2 := Lib.hid (show ds[2]? = some (.slice y.dA x.o.deps.length y.dc) by rw [← hds, ← hyo]; rfl)
  have HY9 := Lib.hid (show ds[9]? = some (.slice y.gA x.o.gone.length y.gc) by rw [← hds, ← hyo]; rfl)
  rw [hcs, hds] at HS HT HK HB1 HB2 c2 c9 ⊢
  have HYO := Lib.hid hyo
  clear hk0 hy hx hs hcs hds hyo
  go_enter Try.func43, Try.ntmps43
  go_upto_region 3 with (fail)
  generalize (w.alloc (.cells ds 45)).alloc (.cells cs 45) = w1 at HT HK HB1 HB2 c2 c9 ⊢
  go_wp2_with (first | refine wpList_load_op rfl _ rfl w.heap.size rfl _ _ HSY.out HB1.out ?_ | refine wpList_load_op rfl _ rfl (w.heap.size + 1) rfl _ _ HSX.out HB2.out ?_)
  refine (HS.out _ HK.out).mono ?_
  unfold BoolPost
  rintro e w2 ⟨rfl, hk2⟩
  have HT2 := Lib.hid (HT.out.fresh hk2)
  have HK2 := Lib.hid (HK.out.trans hk2 fun _ _ e => e)
  have d2 := (HB1.out.kept hk2 id).cell 2
  have d9 := (HB1.out.kept hk2 id).cell 9
  rw [HY2.out] at d2
  rw [HY9.out] at d9
  obtain ⟨gd, hdA, hdc, z2⟩ := HT2.out.deps
  obtain ⟨gg, hgA, hgc, z9⟩ := HT2.out.gone
  have HZ := Lib.hid (show SpAt w base y.dA (x.o.deps.length + 1) y.dc y.gA (x.o.gone.length + 1) y.gc (x.o.deps ++ [dotM]) (x.o.gone ++ [runM]) w2 from ⟨HK2.out.more fun _ _ e => e.elim, HT2.out.d, HT2.out.g⟩)
  have HSP := Lib.hid (fun (W : World) (h : Kept (fun k => (Value.slice y.dA (x.o.deps.length + 1) y.dc).ownBlock = some k ∨ (Value.slice y.gA (x.o.gone.length + 1) y.gc).ownBlock = some k) w W) => show SpoilPost y w (.returned (.bool true)) W from ⟨rfl, h.more fun k _ e => e.imp own_block own_block⟩)
  rw [hdA] at d2 HZ HSP
  rw [hgA] at d9 HZ HSP
  clear hk2 HT HK HB1 HB2 c2 c9 HT2 HK2 HS HSX HSY HY2 HY9 HYO hdA hgA
  generalize x.o.deps.length = n at *
  generalize x.o.gone.length = m at *
  generalize y.dc = dc at *
  generalize y.gc = gc at *
  have hw1 : IntKind.i64.wrap ((n : Int) + 1) = (n : Int) + 1 := IntWalk.i64_in _ ⟨by omega, by omega⟩
  have hw2 : IntKind.i64.wrap ((m : Int) + 1) = (m : Int) + 1 := IntWalk.i64_in _ ⟨by omega, by omega⟩
  have e1 : ((n : Int) + 1).toNat = n + 1 := by omega
  have e2 : ((m : Int) + 1).toNat = m + 1 := by omega
  have e3 : (0 : Int) ≤ (n : Int) + 1 := by omega
  have e4 : (0 : Int) ≤ (m : Int) + 1 := by omega
  have e5 : (n : Int) < ((n + 1 : Nat) : Int) := by omega
  have e6 : (m : Int) < ((m + 1 : Nat) : Int) := by omega
  go_wp2_with (fail)
  go_loopw [10] (fun i wr => ∃ (k : Nat) (dl : List Dt), i = .int .i64 k ∧ k ≤ n + 1 ∧ SpAt w base (some ⟨gd, 0, none⟩) (n + 1) dc (some ⟨gg, 0, none⟩) (m + 1) gc dl (x.o.gone ++ [runM]) wr) (fun i _ => n + 1 - (intOf i).toNat)
  case atStart => exact ⟨0, _, rfl, by omega, HZ.out⟩
  case round =>
    obtain ⟨k, dl, rfl, hk, hz⟩ := hrel
    have HZ2 := Lib.hid hz
    clear HZ z2 z9 d2 d9
    by_cases hlt : k < n + 1
    · obtain ⟨g, a, b, hA, y0, y1, f, hW⟩ := hz.dot hlt ⟨5, 55⟩
      injection hA with hA
      injection hA with hA _ _
      subst hA
      have f0 := f (k * 2)
      have f1 := f (k * 2 + 1)
      have H2 := Lib.hid hW
      clear f hW hz
      go_wp2_with (fail)
      go_roundw
      case rel => exact ⟨k + 1, _, by go_num, by omega, H2.out⟩
      case measure => simp [intOf]; omega
    · obtain rfl : k = n + 1 := by omega
      clear hz
      go_wp2_with (fail)
      as_aux_lemma =>
        go_loopw [11] (fun i wr => ∃ (k : Nat) (gl : List Rn), i = .int .i64 k ∧ k ≤ m + 1 ∧ SpAt w base (some ⟨gd, 0, none⟩) (n + 1) dc (some ⟨gg, 0, none⟩) (m + 1) gc dl gl wr) (fun i _ => m + 1 - (intOf i).toNat)
        case atStart => exact ⟨0, _, rfl, by omega, HZ2.out⟩
        case round =>
          obtain ⟨k, gl, rfl, hk, hz⟩ := hrel
          have HZ3 := Lib.hid hz
          clear HZ2
          by_cases hlt : k < m + 1
          · obtain ⟨g, a, b, e, hA, y0, y1, y2, f, hW⟩ := hz.run hlt ⟨⟨0, 0⟩, 66⟩
            injection hA with hA
            injection hA with hA _ _
            subst hA
            have f0 := f (k * 3)
            have f1 := f (k * 3 + 1)
            have f2 := f (k * 3 + 2)
            have H2 := Lib.hid hW
            clear f hW hz
            go_wp2_with (fail)
            go_roundw
            case rel => exact ⟨k + 1, _, by go_num, by omega, H2.out⟩
            case measure => simp [intOf]; omega
          · obtain rfl : k = m + 1 := by omega
            clear hz
            go_wp2_with (fail)
            go_ret
            exact HSP.out _ HZ3.out.k
end Go.Proofs.Ytnfehkncfjgeeaa

namespace Go.Proofs.Ytnfehkncfjgeeaa
open Go Go.RowKit

theorem RLogAt.rowAt {w : World} {R : RLg} (h : RLogAt w R) : RowAt w R.oA R.oc R.ops := ⟨h.row, h.ats⟩
set_option maxRecDepth 100000 in
set_option maxHeartbeats 1600000 in
theorem alike_any (p : Nat) (L : Lg) (R : RLg) (w : World) (hl : LogAt w p L) (hr : RLogAt w R) (hs : RSays R L.d) :
    Calls Try.prog 16 #[.pointer (some ⟨p, 0, none⟩), .agg R.c] w (BoolPost w true) := by
  have HZ := Lib.hid (RvAt.start hr)
  have HL := Lib.hid (hl.fresh HZ.out.k)
  have HV := Lib.hid (fun W (hW : RLogAt W R) => RVector_any R L.d W hs hW)
  have HPB := Lib.hid (show R.base = L.base from hs.base)
  have hol : R.ops.length = L.ops.length := by
    have := congrArg List.length hs.ops
    simpa [Lg.d] using this
  have hbl := hl.bl
  have hal := hl.al
  clear hl hr hs
  go_enter Try.func16, Try.ntmps16
  go_upto_region 1 with (fail)
  have HZ1 := Lib.hid (HZ.out.fresh (Kept.refl (fun _ => False) _).drew)
  have HL1 := Lib.hid (HL.out.fresh (Kept.refl (fun _ => False) _).drew)
  clear HZ HL
  refine wp_region_held_drew (S := fun Wz => Kept (fun _ => False) (w.alloc (.cells R.c 35)).drew Wz) (by kernel_rfl) (Kept.refl _ _) fun hS => ?_
  generalize (w.alloc (.cells R.c 35)).drew = w1 at HZ1 HL1 hS ⊢
  refine held_takeTo 5 (i := 0) (v := .pointer (some ⟨p, 0, none⟩)) rfl rfl (by kernel_rfl) (by kernel_rfl) (by kernel_rfl) (fun _ _ _ h => h) rfl hS (fun Wz hW => by go_simp) ?_
  simp only [List.setIfInBounds_toArray, List.set_cons_zero, List.set_cons_succ]
  refine held_takeTo 7 (i := 2) (v := .pointer (some ⟨w.heap.size, 0, none⟩)) rfl rfl (by kernel_rfl) (by kernel_rfl) (by kernel_rfl) (fun _ _ _ h => h) rfl hS (fun Wz hW => by go_simp) ?_
  simp only [List.setIfInBounds_toArray, List.set_cons_zero, List.set_cons_succ]
  refine held_takeTo 8 (i := 3) (v := .slice R.bA R.base.length R.bc) rfl rfl (by kernel_rfl) (by kernel_rfl) (by kernel_rfl) (fun _ _ _ h => h) rfl hS (fun Wz hW => by (obtain ⟨c0, c1⟩ := (HZ1.out.fresh hW).cells; go_simp)) ?_
  simp only [List.setIfInBounds_toArray, List.set_cons_zero, List.set_cons_succ]
  refine held_one (i := 1) (by kernel_rfl) rfl fun K hK => ?_
  go_wp2_with (fail)
  refine (Base_any p L w1 HL1.out).mono ?_
  rintro e w3 ⟨A3, c3, rfl, ho3, hk3⟩
  have hS3 := hk3
  have HD3 := Lib.hid (DotsAt.of_own ho3)
  clear ho3
  go_wp2_with (fail)
  refine hK.out _ _ hk3 fun _ => ?_
  clear hK K
  refine held_one (i := 4) (by kernel_rfl) rfl fun K hK => ?_
  go_wp2_with (fail)
  refine (vectors_any A3 R.bA L.base R.base c3 R.bc w3 HD3.out ((HZ1.out.fresh hk3).l.b) (by omega)).mono ?_
  unfold SamePost
  rw [decide_eq_true HPB.out.symm]
  rintro e w4 ⟨rfl, hk4⟩
  have hS4 := hS3.trans hk4 fun _ _ e => e
  clear HD3 hk3 hk4
  go_wp2_with (fail)
  refine hK.out _ _ hS4 fun _ => ?_
  clear hK K
  clear hS3
  refine held_takeTo 10 (i := 5) (v := .bool true) rfl rfl (by kernel_rfl) (by kernel_rfl) (by kernel_rfl) (fun _ _ _ h => h) rfl hS4 (fun Wz hW => by go_simp) ?_
  simp only [List.setIfInBounds_toArray, List.set_cons_zero, List.set_cons_succ]
  refine held_takeG 11 (i := 6) (v := .pointer (some ⟨p, 0, none⟩)) rfl rfl (by kernel_rfl) (by kernel_rfl) (by kernel_rfl) (fun _ _ _ h => h) (by rfl) hS4 (fun Wz hW => by go_simp) ?_
  simp only [List.setIfInBounds_toArray, List.set_cons_zero, List.set_cons_succ]
  refine held_takeG 13 (i := 8) (v := .agg R.c) rfl rfl (by kernel_rfl) (by kernel_rfl) (by kernel_rfl) (fun _ _ _ h => h) (by rfl) hS4 (fun Wz hW => run_load_RL _ _ rfl w.heap.size rfl (HZ1.out.fresh hW).box) ?_
  simp only [List.setIfInBounds_toArray, List.set_cons_zero, List.set_cons_succ]
  refine held_one (i := 7) (by kernel_rfl) rfl fun K hK => ?_
  go_wp2_with (fail)
  refine (Vector_any p L w4 (HL1.out.fresh hS4)).mono ?_
  rintro e w5 ⟨A5, c5, rfl, ho5, hk5⟩
  have hS5 := hS4.trans hk5 fun _ _ e => e
  have HD5 := Lib.hid (DotsAt.of_own ho5)
  clear ho5 hk5
  go_wp2_with (fail)
  refine hK.out _ _ hS5 fun _ => ?_
  clear hK K
  refine held_one (i := 9) (by kernel_rfl) rfl fun K hK => ?_
  go_wp2_with (fail)
  refine (HV.out w5 (HZ1.out.fresh hS5).l).mono ?_
  rintro e w6 ⟨A6, c6, rfl, ho6, hk6⟩
  have hS6 := hS5.trans hk6 fun _ _ e => e
  have HD6 := Lib.hid (HD5.out.fresh hk6)
  have HE6 := Lib.hid (DotsAt.of_own ho6)
  clear ho6 hk6 HD5
  go_wp2_with (fail)
  refine hK.out _ _ hS6 fun _ => ?_
  clear hK K
  refine held_one (i := 10) (by kernel_rfl) rfl fun K hK => ?_
  go_wp2_with (fail)
  refine (vectors_any A5 A6 L.all L.all c5 c6 w6 HD6.out HE6.out (by omega)).mono ?_
  unfold SamePost
  rw [decide_eq_true rfl]
  rintro e w7 ⟨rfl, hk7⟩
  have hS7 := hS6.trans hk7 fun _ _ e => e
  clear HD6 HE6 hk7
  go_wp2_with (fail)
  refine hK.out _ _ hS7 fun _ => ?_
  clear hK K
  clear hS4 hS5 hS6
  refine held_takeTo 16 (i := 11) (v := .bool true) rfl rfl (by kernel_rfl) (by kernel_rfl) (by kernel_rfl) (fun _ _ _ h => h) rfl hS7 (fun Wz hW => by go_simp) ?_
  simp only [List.setIfInBounds_toArray, List.set_cons_zero, List.set_cons_succ]
  refine held_takeTo 17 (i := 12) (v := .bool true) rfl rfl (by kernel_rfl) (by kernel_rfl) (by kernel_rfl) (fun _ _ _ h => h) rfl hS7 (fun Wz hW => by go_simp) ?_
  simp only [List.setIfInBounds_toArray, List.set_cons_zero, List.set_cons_succ]
  refine held_takeG 18 (i := 13) (v := .pointer (some ⟨p, 0, none⟩)) rfl rfl (by kernel_rfl) (by kernel_rfl) (by kernel_rfl) (fun _ _ _ h => h) (by rfl) hS7 (fun Wz hW => by go_simp) ?_
  simp only [List.setIfInBounds_toArray, List.set_cons_zero, List.set_cons_succ]
  refine held_takeG 20 (i := 15) (v := .pointer (some ⟨w.heap.size, 1, none⟩)) rfl rfl (by kernel_rfl) (by kernel_rfl) (by kernel_rfl) (fun _ _ _ h => h) (by rfl) hS7 (fun Wz hW => by go_simp) ?_
  simp only [List.setIfInBounds_toArray, List.set_cons_zero, List.set_cons_succ]
  refine held_takeG 21 (i := 16) (v := .slice R.oA R.ops.length R.oc) rfl rfl (by kernel_rfl) (by kernel_rfl) (by kernel_rfl) (fun _ _ _ h => h) (by rfl) hS7 (fun Wz hW => by (obtain ⟨c0, c1⟩ := (HZ1.out.fresh hW).cells; go_simp)) ?_
  simp only [List.setIfInBounds_toArray, List.set_cons_zero, List.set_cons_succ]
  refine held_takeG 22 (i := 17) (v := .int .i64 R.ops.length) rfl rfl (by kernel_rfl) (by kernel_rfl) (by kernel_rfl) (fun _ _ _ h => h) (by rfl) hS7 (fun Wz hW => by go_simp) ?_
  simp only [List.setIfInBounds_toArray, List.set_cons_zero, List.set_cons_succ]
  refine held_one (i := 14) (by kernel_rfl) rfl fun K hK => ?_
  go_wp2_with (fail)
  refine (Len_any p L w7 (HL1.out.fresh hS7)).mono ?_
  unfold IntPost
  rw [← hol]
  rintro e w8 ⟨rfl, hk8⟩
  have hS8 := hS7.trans hk8 fun _ _ e => e
  clear hk8
  go_wp2_with (fail)
  refine hK.out _ _ hS8 fun _ => ?_
  clear hK K
  refine held_one (i := 18) (by kernel_rfl) rfl fun K hK => ?_
  go_wp2_with (fail)
  refine hK.out _ _ hS8 fun _ => ?_
  clear hK K
  refine held_one (i := 19) (by kernel_rfl) rfl fun K hK => ?_
  go_wp2_with (fail)
  refine hK.out _ _ hS8 fun _ => ?_
  clear hK K
  refine held_one (i := 20) (by kernel_rfl) rfl fun K hK => ?_
  go_wp2_with (fail)
  refine hK.out _ _ hS8 fun _ => ?_
  clear hK K
  refine wpAnyH_done (by kernel_rfl) ?_ _
  have HK8 := Lib.hid (HZ1.out.k.trans hS8 fun _ _ e => e)
  clear hS7 hS8 hS
  go_wp2_with (fail)
  go_ret
  exact ⟨rfl, HK8.out⟩

theorem has_nil (d : Dt) : hasV [] d = false := by
  unfold hasV
  have : getV [] d.site = 0 := by
    unfold getV
    split
    · exact rg_row0 _
    · rfl
  rw [this]
  simp
  omega
set_option maxRecDepth 100000 in
set_option maxHeartbeats 1600000 in
theorem all_any (p : Nat) (L : Lg) (R : RLg) (w : World) (hl : LogAt w p L) (hr : RLogAt w R) (hs : RSays R L.d) (hn : L.ops.length ≤ 201) :
    Calls Try.prog 17 #[.pointer (some ⟨p, 0, none⟩), .agg R.c] w (BoolPost w true) := by
  have HZ := Lib.hid (RvAt.start hr)
  have HL := Lib.hid (hl.fresh HZ.out.k)
  have HAL := Lib.hid (fun W hl hr => alike_any p L R W hl hr hs)
  have hm : R.ops.map (·.o) = L.ops.map (·.o) := hs.ops
  have HM := Lib.hid hm
  have HOL := Lib.hid (show R.ops.length = L.ops.length by simpa using congrArg List.length hm)
  have HLK := Lib.hid (show (lacks [] L.ops).map (·.o) = L.ops.map (·.o) by
    unfold lacks
    rw [if_pos (by decide), List.filter_eq_self.2 fun x _ => by rw [has_nil]; rfl])
  have HSM := Lib.hid hl.small
  clear hl hr hs hm
  go_enter Try.func17, Try.ntmps17
  go_upto_region 1 with (fail)
  have HZ1 := Lib.hid (HZ.out.fresh (Kept.refl (fun _ => False) _).drew)
  have HL1 := Lib.hid (HL.out.fresh (Kept.refl (fun _ => False) _).drew)
  clear HZ HL
  refine wp_region_held_drew (S := fun Wz => Kept (fun _ => False) (w.alloc (.cells R.c 35)).drew Wz) (by kernel_rfl) (Kept.refl _ _) fun hS => ?_
  generalize (w.alloc (.cells R.c 35)).drew = w1 at HZ1 HL1 hS ⊢
  refine held_takeTo 5 (i := 0) (v := .pointer (some ⟨p, 0, none⟩)) rfl rfl (by kernel_rfl) (by kernel_rfl) (by kernel_rfl) (fun _ _ _ h => h) rfl hS (fun Wz hW => by go_simp) ?_
  simp only [List.setIfInBounds_toArray, List.set_cons_zero, List.set_cons_succ]
  refine held_takeTo 6 (i := 1) (v := .agg R.c) rfl rfl (by kernel_rfl) (by kernel_rfl) (by kernel_rfl) (fun _ _ _ h => h) rfl hS (fun Wz hW => run_load_RL _ _ rfl w.heap.size rfl (HZ1.out.fresh hW).box) ?_
  simp only [List.setIfInBounds_toArray, List.set_cons_zero, List.set_cons_succ]
  refine held_one (i := 2) (by kernel_rfl) rfl fun K hK => ?_
  go_wp2_with (fail)
  refine (HAL.out w1 HL1.out HZ1.out.l).mono ?_
  unfold BoolPost
  rintro e w3 ⟨rfl, hk3⟩
  go_wp2_with (fail)
  refine hK.out _ _ hk3 fun _ => ?_
  clear hK K
  clear HAL
  refine held_takeTo 8 (i := 3) (v := .bool true) rfl rfl (by kernel_rfl) (by kernel_rfl) (by kernel_rfl) (fun _ _ _ h => h) rfl hk3 (fun Wz hW => by go_simp) ?_
  simp only [List.setIfInBounds_toArray, List.set_cons_zero, List.set_cons_succ]
  refine held_takeG 9 (i := 4) (v := .pointer (some ⟨p, 0, none⟩)) rfl rfl (by kernel_rfl) (by kernel_rfl) (by kernel_rfl) (fun _ _ _ h => h) (by rfl) hk3 (fun Wz hW => by go_simp) ?_
  simp only [List.setIfInBounds_toArray, List.set_cons_zero, List.set_cons_succ]
  refine held_takeG 12 (i := 7) (v := .pointer (some ⟨w.heap.size, 1, none⟩)) rfl rfl (by kernel_rfl) (by kernel_rfl) (by kernel_rfl) (fun _ _ _ h => h) (by rfl) hk3 (fun Wz hW => by go_simp) ?_
  simp only [List.setIfInBounds_toArray, List.set_cons_zero, List.set_cons_succ]
  refine held_takeG 13 (i := 8) (v := .slice R.oA R.ops.length R.oc) rfl rfl (by kernel_rfl) (by kernel_rfl) (by kernel_rfl) (fun _ _ _ h => h) (by rfl) hk3 (fun Wz hW => by (obtain ⟨c0, c1⟩ := (HZ1.out.fresh hW).cells; go_simp)) ?_
  simp only [List.setIfInBounds_toArray, List.set_cons_zero, List.set_cons_succ]
  refine held_one (i := 5) (by kernel_rfl) rfl fun K hK => ?_
  go_wp2_with (fail)
  refine (Beyond_any p L none [] 0 w3 (HL1.out.fresh hk3) DotsAt.nil (by decide)).mono ?_
  rintro e w5 ⟨B, A, c, rfl, hit, -, -, hk5⟩
  have HIT := Lib.hid hit
  have hS5 := hk3.trans hk5 fun _ _ e => e
  clear hit hk5
  go_wp2_with (fail)
  refine hK.out _ _ hS5 fun _ => ?_
  clear hK K
  refine held_one (i := 6) (by kernel_rfl) rfl fun K hK => ?_
  go_wp2_with (fail)
  refine (rest_any B (lacks [] L.ops) A c 201 w5 HIT.out (by decide) (by decide)).mono ?_
  rintro e w6 ⟨ys, RA, rc, rfl, hys, ho6, hn6, hk6⟩
  have hS6 := hS5.trans hk6 fun _ _ e => e
  have HYS := Lib.hid (show ys.map (·.o) = R.ops.map (·.o) by rw [hys, HLK.out, HM.out, List.take_of_length_le (by rw [List.length_map]; omega)])
  have HRW := Lib.hid (RowAt.of ho6 hn6)
  clear hys ho6 hn6 hk6 HIT
  go_wp2_with (fail)
  refine hK.out _ _ hS6 fun _ => ?_
  clear hK K
  refine held_one (i := 9) (by kernel_rfl) rfl fun K hK => ?_
  go_wp2_with (fail)
  refine (ops_true RA R.oA ys R.ops rc R.oc w6 HRW.out (HZ1.out.fresh hS6).l.rowAt HYS.out.symm (by have := congrArg List.length HYS.out; simp only [List.length_map] at this; rw [this, HOL.out]; omega) (small_map (HYS.out.trans HM.out) HSM.out)).mono ?_
  unfold BoolPost
  rintro e w7 ⟨rfl, hk7⟩
  have hS7 := hS6.trans hk7 fun _ _ e => e
  clear hk7
  go_wp2_with (fail)
  refine hK.out _ _ hS7 fun _ => ?_
  clear hK K
  refine held_one (i := 10) (by kernel_rfl) rfl fun K hK => ?_
  go_wp2_with (fail)
  refine hK.out _ _ hS7 fun _ => ?_
  clear hK K
  refine held_one (i := 11) (by kernel_rfl) rfl fun K hK => ?_
  go_wp2_with (fail)
  refine hK.out _ _ hS7 fun _ => ?_
  clear hK K
  refine wpAnyH_done (by kernel_rfl) ?_ _
  have HK8 := Lib.hid (HZ1.out.k.trans hS7 fun _ _ e => e)
  clear hS7 hS6 hS5 hk3 hS
  go_wp2_with (fail)
  go_ret
  exact ⟨rfl, HK8.out⟩
end Go.Proofs.Ytnfehkncfjgeeaa

namespace Go.Proofs.Ytnfehkncfjgeeaa
open Go Go.RowKit

/-- The reference's log, in memory that is new since w; what it keeps lies in older lists. -/
structure ROf (w : World) (R : RLg) (W : World) : Prop where
  k : Kept (fun _ => False) w W
  rb : W.ownsRow w.heap.size 28 2 (.slice R.bA R.base.length R.bc) R.base.length (dots R.base)
  rr : W.ownsRow w.heap.size 45 11 R.oV R.ops.length (lops R.ops)
  ats : ∀ x ∈ R.ops, x.At w
  small : ∀ x ∈ R.ops, x.o.Small
  bl : R.base.length ≤ 1000000
  ol : R.ops.length ≤ 1000000
section
variable {w W W' : World} {R R' : RLg} {p : Nat} {L L' : Lg} {S : Nat → Prop}
theorem ROf.at (h : ROf w R W) : RLogAt W R := ⟨DotsAt.of_own h.rb, own_base h.rr (Nat.zero_le _), fun x hx => (h.ats x hx).fresh h.k, h.small, h.bl, h.ol⟩
theorem ROf.fresh (h : ROf w R W) (hk : Kept (fun _ => False) W W') : ROf w R W' := ⟨h.k.trans hk fun _ _ e => e, hk.own h.rb fun _ _ => id, hk.own h.rr fun _ _ => id, h.ats, h.small, h.bl, h.ol⟩
theorem ROf.zero (hk : Kept (fun _ => False) w W) : ROf w RLg.zero W := ⟨hk, World.ownsRow_nil _ _ _ _, World.ownsRow_nil _ _ _ _, fun x h => absurd h (by simp [RLg.zero]), fun x h => absurd h (by simp [RLg.zero]), by simp [RLg.zero], by simp [RLg.zero]⟩
/-- Both, apart. -/
structure Both (w : World) (p : Nat) (L : Lg) (R : RLg) (W : World) : Prop where
  l : LogOf w p L W
  r : ROf w R W
  ap : Apart L.oV R.oV
  says : RSays R L.d
theorem Both.fresh (h : Both w p L R W) (hk : Kept (fun _ => False) W W') : Both w p L R W' := ⟨h.l.fresh hk, h.r.fresh hk, h.ap, h.says⟩
theorem ROf.stays (h : ROf w R W) (hl : LogOf w p L W) (ha : Apart L.oV R.oV) (hk : Kept (fun k => k = p ∨ L.oV.ownBlock = some k) W W') : ROf w R W' := by
  have hs : NoKind W (fun k => k = p ∨ L.oV.ownBlock = some k) 28 := fun k hk cs c hc => by
    rcases hk with rfl | hk
    · exact NoKind.box hl.l.box (by decide) k rfl cs c hc
    · exact NoKind.own hl.l.o (by decide) k hk cs c hc
  refine ⟨h.k.trans hk fun k hk e => ?_, hk.own_kind hs h.rb, hk.own h.rr fun k hk' e => ?_, h.ats, h.small, h.bl, h.ol⟩
  · rcases e with rfl | e
    · have := hl.ge; omega
    · have := hl.ov k e; omega
  · rcases e with rfl | e
    · exact own_box_ne h.rr hl.l.box (by decide) hk'
    · exact ha k e hk'
theorem Apart.goes (h : Apart L.oV R.oV) (hr : ROf w R W) (hg : Goes W L.oV L'.oV) : Apart L'.oV R.oV := fun k e1 e2 => by
  rcases hg k e1 with e | e
  · exact h k e e2
  · have := (hr.rr.lt k e2).2; omega
/-- The reference's log lies outside. -/
structure ROut (lo hi : Nat) (R : RLg) : Prop where
  b : ∀ k, (Value.slice R.bA R.base.length R.bc).ownBlock = some k → ¬ (lo ≤ k ∧ k < hi)
  o : ∀ k, R.oV.ownBlock = some k → ¬ (lo ≤ k ∧ k < hi)
theorem ROut.of {lo hi : Nat} (h : ROf w R W) (hl : W.heap.size ≤ lo) : ROut lo hi R := ⟨fun k e => by have := (h.rb.lt k e).2; omega, fun k e => by have := (h.rr.lt k e).2; omega⟩
theorem ROf.outside {lo hi : Nat} (h : ROf w R W) (ho : ROut lo hi R) (hlo : w.heap.size ≤ lo) (hk : Kept (fun b => lo ≤ b ∧ b < hi) W W') : ROf w R W' :=
  ⟨h.k.trans hk fun k hk e => by omega, hk.own h.rb ho.b, hk.own h.rr ho.o, h.ats, h.small, h.bl, h.ol⟩
theorem LogOf.outside {lo hi : Nat} (h : LogOf w p L W) (ho : Out lo hi p L) (hlo : w.heap.size ≤ lo) (hk : Kept (fun b => lo ≤ b ∧ b < hi) W W') : LogOf w p L W' :=
  ⟨h.l.outside ho hk, h.k.trans hk fun k hk e => by omega, h.ge, h.ov⟩
theorem Apart.goesR (h : Apart L.oV R.oV) (hl : LogOf w p L W) (hg : Goes W R.oV R'.oV) : Apart L.oV R'.oV := fun k e1 e2 => by
  rcases hg k e2 with e | e
  · exact h k e1 e
  · have := (hl.l.o.lt k e1).2; omega
end
/-- What Add answers and leaves. -/
def AddBoth (w : World) (p : Nat) (L : Lg) (o : Opr) (X : World) (e : Ending) (W' : World) : Prop :=
  ∃ L' : Lg, e = .returned (.int .i64 (L.d.addErr o)) ∧ L'.d = L.d.add o ∧ LogOf w p L' W' ∧ Kept (fun k => k = p ∨ L.oV.ownBlock = some k) X W' ∧ Goes X L.oV L'.oV ∧ ∀ lo hi, hi ≤ X.heap.size → Out lo hi p L → Out lo hi p L'
theorem Add_both (w : World) (p : Nat) (L : Lg) (y : Lop) (X : World) (h : LogOf w p L X) (hy : y.At X) (hs : y.o.Small) (hl : L.ops.length < 1000000) :
    Calls Try.prog 21 #[.pointer (some ⟨p, 0, none⟩), .agg y.c] X (AddBoth w p L y.o X) := by
  refine (LogAdd_anyX p L y X h.l hy hs hl).mono fun e W' he => ?_
  have hee : L.d.addErr y.o = addErr L y.o := rfl
  unfold AddBoth Pl.add
  rw [hee]
  by_cases hz : addErr L y.o = 0
  · rw [if_pos hz] at he ⊢
    obtain ⟨L', z, rfl, hb, ha, ho, hzo, hl', hk, hg, hbA, hbc, hnA, hnd, hng⟩ := he
    refine ⟨L', by rw [hz], ?_, h.turn hl' hk hg, hk, hg, fun lo hi hhi hO => ⟨hO.p, fun k e => hO.b k (by rwa [hb, hbA, hbc] at e), fun k e => by have := hnA k e; omega, fun k e => ?_, fun x hx => ?_⟩⟩
    · unfold Lg.d
      rw [hb, ha, ho, List.map_append]
      simp [hzo]
    · rcases hg k e with e | e
      · exact hO.o k e
      · omega
    · rw [ho] at hx
      rcases List.mem_append.1 hx with hx | hx
      · exact hO.l x hx
      · obtain rfl := List.mem_singleton.1 hx
        exact ⟨fun k e => by have := hnd k e; omega, fun k e => by have := hng k e; omega⟩
  · rw [if_neg hz] at he ⊢
    exact ⟨L, he.1, rfl, h.fresh he.2, he.2.more fun _ _ e => e.elim, fun k hk => .inl hk, fun _ _ _ hO => hO⟩
def RAddBoth (w : World) (R : RLg) (P : Pl) (o : Opr) (X : World) (e : Ending) (W' : World) : Prop :=
  ∃ R' : RLg, e = .returned (.tuple #[.agg R'.c, .int .i64 (P.addErr o)]) ∧ RSays R' (P.add o) ∧ ROf w R' W' ∧ Kept (fun _ => False) X W' ∧ Goes X R.oV R'.oV ∧ ∀ lo hi, hi ≤ X.heap.size → ROut lo hi R → ROut lo hi R'
theorem RAdd_both (w : World) (R : RLg) (P : Pl) (x : Lop) (X : World) (h : ROf w R X) (hs : RSays R P) (hx : x.At w) (hsm : x.o.Small) (hl : R.ops.length < 1000000) :
    Calls Try.prog 42 #[.agg R.c, .agg x.c] X (RAddBoth w R P x.o X) := by
  refine (RLAdd_any R P x X hs h.at (hx.fresh h.k) hsm hl).mono fun e W' he => ?_
  unfold RAddPost at he
  unfold RAddBoth
  by_cases hz : P.addErr x.o = 0
  · rw [if_pos hz] at he
    obtain ⟨R', rfl, hr, hrow, hb, hbA, hbc, ho, hk⟩ := he
    refine ⟨R', by rw [hz], ⟨hs.good.add x.o, ?_, ?_⟩, ⟨h.k.trans hk fun _ _ e => e, ?_, own_base hrow h.k.size, fun y hy => ?_, hr.small, hr.bl, hr.ol⟩, hk, fun k e => .inr (hrow.lt k e).1, fun lo hi hhi hO => ⟨fun k e => hO.b k (by rwa [hb, hbA, hbc] at e), fun k e => by have := (hrow.lt k e).1; omega⟩⟩
    · rw [hb, hs.base]; unfold Pl.add; rw [if_pos hz]
    · rw [ho, List.map_append, hs.ops]; unfold Pl.add; rw [if_pos hz]; rfl
    · rw [hb, hbA, hbc]; exact hk.own h.rb fun _ _ => id
    · rw [ho] at hy
      rcases List.mem_append.1 hy with hy | hy
      · exact h.ats y hy
      · obtain rfl := List.mem_singleton.1 hy
        exact hx
  · rw [if_neg hz] at he
    have e1 : P.add x.o = P := by unfold Pl.add; rw [if_neg hz]
    exact ⟨R, he.1, by rw [e1]; exact hs, h.fresh he.2, he.2, fun k hk => .inl hk, fun _ _ _ hO => hO⟩
/-- What Cut answers and leaves. -/
def CutBoth (w : World) (p : Nat) (L : Lg) (hv : List Dt) (X : World) (e : Ending) (W' : World) : Prop :=
  ∃ (L' : Lg) (gs : List Lop) (A : Option Addr) (c lim : Nat), e = .returned (.tuple #[.slice A gs.length c, .int .i64 (L.d.cutErr hv)]) ∧ gs.map (·.o) = (if L.d.cutErr hv = 0 then L.d.ops.filter fun o => hasV hv o.dot else []) ∧
    L'.d = L.d.cut hv ∧ LogOf w p L' W' ∧ Kept (fun k => k = p ∨ L.oV.ownBlock = some k) X W' ∧ Goes X L.oV L'.oV ∧ Wi X.heap.size lim A gs.length c W' gs W' ∧ Out X.heap.size lim p L' ∧ lim ≤ W'.heap.size ∧ ∀ lo hi, hi ≤ X.heap.size → Out lo hi p L → Out lo hi p L'
theorem Cut_both (w : World) (p : Nat) (L : Lg) (H : Option Addr) (hv : List Dt) (hc : Nat) (X : World) (h : LogOf w p L X) (hh : DotsAt X H hv) (hlen : hv.length ≤ 1000000) (hH : 0 < hv.length → ∀ a, H = some a → L.oV.ownBlock ≠ some a.block) :
    Calls Try.prog 18 #[.pointer (some ⟨p, 0, none⟩), .slice H hv.length hc] X (CutBoth w p L hv X) := by
  have hee : L.d.cutErr hv = cutErr L hv := rfl
  unfold CutBoth Pl.cut
  rw [hee]
  by_cases hz : cutErr L hv = 0
  · refine (Cut_yesX p L H hv hc X h.l hh hlen hH hz).mono fun e W' he => ?_
    obtain ⟨L', gs, A, c, lim, rfl, hgs, hrow, hlan, hl', hb, ha, ho, hk, hg, h1, h2, h3, h4, h5, h6, h7⟩ := he
    refine ⟨L', gs, A, c, lim, by rw [hz], ?_, ?_, h.turn hl' hk hg, hk, hg, ⟨Kept.refl _ _, rfl, hrow, hlan, small_cut hgs h.l.small, fun x hx => (h1 x hx).1, fun x hx => (h1 x hx).2, h2, hk.size⟩, ?_, h6, fun lo hi hhi hO => ⟨hO.p, fun k e => by have := h3 k e; omega, fun k e => hO.a k (by rw [h4] at e; exact own_block e), fun k e => hO.o k (h7 k e), fun x hx => hO.l x (by rw [ho] at hx; exact (List.mem_filter.1 hx).1)⟩⟩
    · rw [if_pos hz, hgs]; exact lops_filter L.ops fun o => hasV hv o.dot
    · rw [if_pos hz]
      unfold Lg.d
      rw [hb, ha, ho]
      exact congrArg (Pl.mk _ _) (lops_filter L.ops fun o => !hasV hv o.dot)
    · have hp := h.l.box.lt
      refine ⟨fun e => by omega, fun k e => by have := h3 k e; omega, fun k e => ?_, fun k e => ?_, fun x hx => ?_⟩
      · rw [h4] at e
        have := (h.l.a.lt k (own_block e)).2
        omega
      · have := (h.l.o.lt k (h7 k e)).2
        omega
      · rw [ho] at hx
        have hx := h.l.own x (List.mem_filter.1 hx).1
        exact ⟨fun k e => by have := (hx.d.lt k e).2; omega, fun k e => by have := (hx.g.lt k e).2; omega⟩
  · refine (Cut_no p L H hv hc X h.l hh hlen hz).mono fun e W' he => ?_
    obtain ⟨rfl, hk⟩ := he
    have hs := hk.size
    refine ⟨L, [], none, 0, X.heap.size, rfl, by rw [if_neg hz]; rfl, by rw [if_neg hz], h.fresh hk, hk.more fun _ _ e => e.elim, fun k e => .inl e, ⟨Kept.refl _ _, rfl, World.ownsRow_nil _ _ _ _, OpLanes.nil, fun x hx => absurd hx (by simp), fun x hx => absurd hx (by simp), fun x hx => absurd hx (by simp), fun k e => (by cases e), hs⟩, Out.of h.l (Nat.le_refl _), hs, fun _ _ _ hO => hO⟩
def RCutBoth (w : World) (R : RLg) (P : Pl) (hv : List Dt) (X : World) (e : Ending) (W' : World) : Prop :=
  ∃ (R' : RLg) (gs : List Lop) (A : Option Addr) (c : Nat), e = .returned (.tuple #[.agg R'.c, .slice A gs.length c, .int .i64 (P.cutErr hv)]) ∧ gs.map (·.o) = (if P.cutErr hv = 0 then P.ops.filter fun o => hasV hv o.dot else []) ∧
    RowAt W' A c gs ∧ (∀ y ∈ gs, y.At w) ∧ RSays R' (P.cut hv) ∧ ROf w R' W' ∧ Kept (fun _ => False) X W' ∧ Goes X R.oV R'.oV ∧ ∀ lo hi, hi ≤ X.heap.size → ROut lo hi R → ROut lo hi R'
theorem RCut_both (w : World) (R : RLg) (P : Pl) (H : Option Addr) (hv : List Dt) (hc : Nat) (X : World) (h : ROf w R X) (hs : RSays R P) (hh : DotsAt X H hv) (hlen : hv.length ≤ 1000000) :
    Calls Try.prog 45 #[.agg R.c, .slice H hv.length hc] X (RCutBoth w R P hv X) := by
  refine (RCut_any R P H hv hc X hs h.at hh hlen).mono fun e W' he => ?_
  unfold RCutPost at he
  unfold RCutBoth
  by_cases hz : P.cutErr hv = 0
  · rw [if_pos hz] at he
    obtain ⟨R', gs, A, c, rfl, hr, hbase, hrow, hb, ho, hgs, hgo, hk⟩ := he
    refine ⟨R', gs, A, c, by rw [hz], ?_, ⟨own_base hgo (Nat.zero_le _), fun y hy => ?_⟩, fun y hy => ?_, ⟨hs.good.cut hv, ?_, ?_⟩, ⟨h.k.trans hk fun _ _ e => e, own_base hbase h.k.size, own_base hrow h.k.size, fun y hy => ?_, hr.small, hr.bl, hr.ol⟩, hk, fun k e => .inr (hrow.lt k e).1, fun lo hi hhi hO => ⟨fun k e => by have := (hbase.lt k e).1; omega, fun k e => by have := (hrow.lt k e).1; omega⟩⟩
    · rw [if_pos hz, hgs, ← hs.ops]; exact lops_filter R.ops fun o => hasV hv o.dot
    · rw [hgs] at hy
      exact (h.at.ats y (List.mem_filter.1 hy).1).fresh hk
    · rw [hgs] at hy
      exact h.ats y (List.mem_filter.1 hy).1
    · rw [hb, hs.base]; unfold Pl.cut; rw [if_pos hz]
    · rw [ho]; unfold Pl.cut; rw [if_pos hz, ← hs.ops]; exact lops_filter R.ops fun o => !hasV hv o.dot
    · rw [ho] at hy
      exact h.ats y (List.mem_filter.1 hy).1
  · rw [if_neg hz] at he
    obtain ⟨rfl, hk⟩ := he
    have e1 : P.cut hv = P := by unfold Pl.cut; rw [if_neg hz]
    exact ⟨R, [], none, 0, rfl, by rw [if_neg hz]; rfl, ⟨World.ownsRow_nil _ _ _ _, fun y hy => absurd hy (by simp)⟩, fun y hy => absurd hy (by simp), by rw [e1]; exact hs, h.fresh hk, hk, fun k hk => .inl hk, fun _ _ _ hO => hO⟩
end Go.Proofs.Ytnfehkncfjgeeaa

namespace Go.Proofs.Ytnfehkncfjgeeaa
open Go Go.RowKit

/-- m: how much memory there is ahead of the call's own work. -/
structure StAt (w W : World) (m p : Nat) (L0 L : Lg) (R : RLg) (ss : Array Value) (n : Nat) (V : Option Addr) (vc : Nat) (vl : List Dt) (X : World) : Prop where
  l : LogOf w p L X
  r : ROf w R X
  ap : Apart L.oV R.oV
  k : Kept (fun k => k = p ∨ L0.oV.ownBlock = some k) W X
  go : Goes W L0.oV L.oV
  pl : p < W.heap.size
  wl : w.heap.size ≤ W.heap.size
  b4 : Box X W.heap.size 35 R.c
  b5 : Box X (W.heap.size + 1) 47 ss
  b6 : Box X (W.heap.size + 2) 35 #[.slice none 0 0, .slice none 0 0]
  v : X.ownsRow W.heap.size 28 2 (.slice V (n + 1) vc) (n + 1) (dots vl)
  vlt : ∀ k, (Value.slice V (n + 1) vc).ownBlock = some k → k < m
  mlt : W.heap.size + 2 < m
  mle : m ≤ X.heap.size
  out : Out W.heap.size m p L
  rout : ROut W.heap.size m R
section
variable {w W X X1 X' : World} {m p n : Nat} {L0 L L' : Lg} {R R' : RLg} {ss cs : Array Value} {V : Option Addr} {vc : Nat} {vl vl' : List Dt} {g : Nat} {T : TypeId}
theorem LogOf.other (h : LogOf w p L X) (hb : Box X g T cs) (h1 : 51 ≠ T) (h2 : 45 ≠ T) (h3 : 28 ≠ T) (h4 : 87 ≠ T) (hk : Kept (fun k => k = g) X X') (hg : w.heap.size ≤ g) : LogOf w p L X' := by
  have hN : ∀ {E : TypeId}, E ≠ T → NoKind X (fun k => k = g) E := fun hne => NoKind.box hb hne
  refine ⟨⟨h.l.box.kept hk (Box.ne h.l.box hb h1), hk.own_kind (hN h3) h.l.b, hk.own_kind (hN h3) h.l.a, hk.own_kind (hN h2) h.l.o, fun x hx => (h.l.own x hx).kept hk (hN h3) (hN h4), h.l.small, h.l.bl, h.l.al, h.l.ol⟩, h.k.trans hk fun k hk e => by omega, h.ge, h.ov⟩
theorem ROf.other (h : ROf w R X) (hb : Box X g T cs) (h2 : 45 ≠ T) (h3 : 28 ≠ T) (hk : Kept (fun k => k = g) X X') (hg : w.heap.size ≤ g) : ROf w R X' := by
  have hN : ∀ {E : TypeId}, E ≠ T → NoKind X (fun k => k = g) E := fun hne => NoKind.box hb hne
  exact ⟨h.k.trans hk fun k hk e => by omega, hk.own_kind (hN h3) h.rb, hk.own_kind (hN h2) h.rr, h.ats, h.small, h.bl, h.ol⟩
theorem StAt.fresh (h : StAt w W m p L0 L R ss n V vc vl X) (hk : Kept (fun _ => False) X X') : StAt w W m p L0 L R ss n V vc vl X' :=
  ⟨h.l.fresh hk, h.r.fresh hk, h.ap, h.k.trans hk fun _ _ e => e.elim, h.go, h.pl, h.wl, h.b4.kept hk id, h.b5.kept hk id, h.b6.kept hk id, hk.own h.v fun _ _ => id, h.vlt, h.mlt, Nat.le_trans h.mle hk.size, h.out, h.rout⟩
theorem StAt.turnL (h : StAt w W m p L0 L R ss n V vc vl X) (hl : LogOf w p L' X') (hk : Kept (fun k => k = p ∨ L.oV.ownBlock = some k) X X') (hg : Goes X L.oV L'.oV) (hO : Out W.heap.size m p L') : StAt w W m p L0 L' R ss n V vc vl X' := by
  have hpl := h.pl
  have hs : ∀ {T : TypeId}, T ≠ 45 → T ≠ 51 → NoKind X (fun k => k = p ∨ L.oV.ownBlock = some k) T := fun h1 h2 k hk cs c hc => by
    rcases hk with rfl | hk
    · exact NoKind.box h.l.l.box h2 k rfl cs c hc
    · exact NoKind.own h.l.l.o h1 k hk cs c hc
  have hb : ∀ {g : Nat} {T : TypeId} {cs : Array Value}, Box X g T cs → 45 ≠ T → W.heap.size ≤ g → ¬ (g = p ∨ L.oV.ownBlock = some g) := fun hb hT hg e => by
    rcases e with e | e
    · omega
    · exact own_box_ne h.l.l.o hb hT e
  refine ⟨hl, h.r.stays h.l h.ap hk, h.ap.goes h.r hg, h.k.trans hk fun k hk e => ?_, h.go.trans hg h.k.size, h.pl, h.wl, h.b4.kept hk (hb h.b4 (by decide) (Nat.le_refl _)), h.b5.kept hk (hb h.b5 (by decide) (by omega)), h.b6.kept hk (hb h.b6 (by decide) (by omega)), hk.own_kind (hs (by decide) (by decide)) h.v, h.vlt, h.mlt, Nat.le_trans h.mle hk.size, hO, h.rout⟩
  rcases e with e | e
  · exact .inl e
  · rcases h.go k e with e | e
    · exact .inr e
    · omega
/-- The reference's new log is laid. -/
theorem StAt.set4 (h : StAt w W m p L0 L R ss n V vc vl X) (hk1 : Kept (fun _ => False) X X1) (hr : ROf w R' X1) (hg : Goes X R.oV R'.oV) (hO : ROut W.heap.size m R') (hb : Box X' W.heap.size 35 R'.c) (hk : Kept (fun k => k = W.heap.size) X1 X') : StAt w W m p L0 L R' ss n V vc vl X' := by
  have h1 := h.fresh hk1
  have hwl := h.wl
  refine ⟨h1.l.other h1.b4 (by decide) (by decide) (by decide) (by decide) hk h.wl, hr.other h1.b4 (by decide) (by decide) hk h.wl, h.ap.goesR h.l hg, h1.k.trans hk fun k hk e => by omega, h.go, h.pl, h.wl, hb, h1.b5.kept hk (by omega), h1.b6.kept hk (by omega), ?_, h.vlt, h.mlt, Nat.le_trans h1.mle hk.size, h.out, hO⟩
  exact hk.own_kind (NoKind.box h1.b4 (by decide)) h1.v
/-- Memory that is newer is written over. -/
theorem StAt.outside {lo hi : Nat} (h : StAt w W m p L0 L R ss n V vc vl X) (hO : Out lo hi p L) (hR : ROut lo hi R) (hlo : m ≤ lo) (hk : Kept (fun b => lo ≤ b ∧ b < hi) X X') : StAt w W m p L0 L R ss n V vc vl X' := by
  have hwl := h.wl
  have hml := h.mlt
  refine ⟨h.l.outside hO (by omega) hk, h.r.outside hR (by omega) hk, h.ap, h.k.trans hk fun k hk e => by omega, h.go, h.pl, h.wl, h.b4.kept hk (by omega), h.b5.kept hk (by omega), h.b6.kept hk (by omega), hk.own h.v fun k e1 e2 => ?_, h.vlt, h.mlt, Nat.le_trans h.mle hk.size, h.out, h.rout⟩
  have := h.vlt k e1
  omega
/-- A Dot of what was handed in is written over. -/
theorem StAt.dot (h : StAt w W m p L0 L R ss n V vc vl X) {k : Nat} (hk : k < n + 1) (x : Dt) : ∃ g a b, V = some ⟨g, 0, none⟩ ∧ X.cell? ⟨g, k * 2, none⟩ = some a ∧ X.cell? ⟨g, k * 2 + 1, none⟩ = some b ∧ (∀ j, X.frozen? ⟨g, j, none⟩ = false) ∧
    Kept (fun b => b = g) X ((X.setCell ⟨g, k * 2, none⟩ (.int .i64 x.site)).setCell ⟨g, k * 2 + 1, none⟩ (.int .i64 x.seq)) ∧
    StAt w W m p L0 L R ss n V vc (vl.set k x) ((X.setCell ⟨g, k * 2, none⟩ (.int .i64 x.site)).setCell ⟨g, k * 2 + 1, none⟩ (.int .i64 x.seq)) := by
  obtain ⟨g, a, b, hA, hb, y0, y1, f, ho, hK⟩ := dots_turn h.v hk x
  have h1 := (h.v.lt g hb).1
  have h2 := h.vlt g hb
  have hwl := h.wl
  have hK' : Kept (fun b => W.heap.size ≤ b ∧ b < m) X _ := hK.more fun k _ e => ⟨by omega, by omega⟩
  refine ⟨g, a, b, hA, y0, y1, f, hK, h.l.outside h.out hwl hK', h.r.outside h.rout hwl hK', h.ap, h.k.trans hK fun k hk e => by omega, h.go, h.pl, h.wl, h.b4.kept hK ?_, h.b5.kept hK ?_, h.b6.kept hK ?_, ho, h.vlt, h.mlt, Nat.le_trans h.mle hK.size, h.out, h.rout⟩
  · exact fun e => own_box_ne h.v h.b4 (by decide) (by rw [e]; exact hb)
  · exact fun e => own_box_ne h.v h.b5 (by decide) (by rw [e]; exact hb)
  · exact fun e => own_box_ne h.v h.b6 (by decide) (by rw [e]; exact hb)
/-- What was handed in, and the marked place behind. -/
theorem StAt.given {l : List Dt} (h : StAt w W m p L0 L R ss l.length V vc (l ++ [dotM]) X) : ∃ g, V = some ⟨g, 0, none⟩ ∧ l.length + 1 ≤ vc ∧ X.cell? ⟨g, l.length * 2 + 1, none⟩ = some (.int .i64 77) ∧ DotsAt X V l ∧ W.heap.size ≤ g := by
  obtain ⟨g, hA, hb, hc, -⟩ := own_cells h.v (by omega)
  refine ⟨g, hA, own_cap h.v, hc _ _ ?_, DotsAt.pre (DotsAt.of_own h.v), (h.v.lt g hb).1⟩
  obtain ⟨-, g1⟩ := dots_get (l ++ [dotM]) l.length (by simp)
  rw [g1]
  simp [dotM]
theorem StAt.cells4 (h : StAt w W m p L0 L R ss n V vc vl X) : X.cell? ⟨W.heap.size, 0, none⟩ = some (.slice R.bA R.base.length R.bc) ∧ X.cell? ⟨W.heap.size, 1, none⟩ = some (.slice R.oA R.ops.length R.oc) := ⟨by simpa [RLg.c] using h.b4.cell 0, by simpa [RLg.c] using h.b4.cell 1⟩
/-- The answer is laid. -/
theorem StAt.done (h : StAt w W m p L0 L R ss n V vc vl X) (hk : Kept (fun k => k = W.heap.size + 2) X X') : LogOf w p L X' ∧ ROf w R X' ∧ Kept (fun k => k = p ∨ L0.oV.ownBlock = some k) W X' := by
  have hwl := h.wl
  exact ⟨h.l.other h.b6 (by decide) (by decide) (by decide) (by decide) hk (by omega), h.r.other h.b6 (by decide) (by decide) hk (by omega), h.k.trans hk fun k hk e => by omega⟩
end
/-- What step answers and leaves. -/
def StepPost (w W : World) (p : Nat) (L0 : Lg) (R0 : RLg) (P' : Pl) (e : Ending) (W' : World) : Prop :=
  ∃ (L' : Lg) (R' : RLg), e = .returned (.tuple #[.agg R'.c, .bool true]) ∧ L'.d = P' ∧ Both w p L' R' W' ∧ Kept (fun k => k = p ∨ L0.oV.ownBlock = some k) W W' ∧ Goes W L0.oV L'.oV ∧ Goes W R0.oV R'.oV
theorem ItAt.of_log {w X : World} {p : Nat} {L : Lg} {v : List Dt} {B c : Nat} {A : Option Addr} (h : LogOf w p L X) (hb : Box X B 33 #[.slice A (lacks v L.ops).length c]) (hr : X.ownsRow 0 45 11 (.slice A (lacks v L.ops).length c) (lacks v L.ops).length (lops (lacks v L.ops))) : ItAt X B (lacks v L.ops) A c := by
  have hm : ∀ x ∈ lacks v L.ops, x ∈ L.ops := fun x hx => by
    unfold lacks at hx
    split at hx
    · exact (List.mem_filter.1 hx).1
    · cases hx
  have hl : (lacks v L.ops).length ≤ L.ops.length := by
    unfold lacks
    split
    · exact List.length_filter_le _ _
    · simp
  have := h.l.ol
  exact ⟨hb, hr, fun x hx => (h.l.own x (hm x hx)).at, fun x hx => h.l.small x (hm x hx), by omega⟩
theorem lacks_map {v : List Dt} {l m : List Lop} (h : l.map (·.o) = m.map (·.o)) : (lacks v l).map (·.o) = (lacks v m).map (·.o) := by
  unfold lacks
  split
  · rw [lops_filter l fun o => !hasV v o.dot, lops_filter m fun o => !hasV v o.dot, h]
  · rfl
end Go.Proofs.Ytnfehkncfjgeeaa
