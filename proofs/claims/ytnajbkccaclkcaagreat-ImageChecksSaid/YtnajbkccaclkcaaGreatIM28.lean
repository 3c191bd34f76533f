/- hearsaylaw9.lent walked: an image in lists of its own, each with a marked place behind. Conditions: the image lies in memory; nothing is longer than a million. · hearsaylaw9.bytes, ints, op and same at equal data walked. Conditions: all lies in memory; nothing is longer than a million. · hearsayref9.follows and log walked. Conditions: the image lies in memory; nothing is longer than a million; the vectors are right. -/
import Derived.Test.YtnajbkccaclkcaaGreatIM12
import Derived.Test.YtnajbkccaclkcaaGreatIM23
import Derived.Test.YtnajbkccaclkcaaGreatIM27
import Derived.Test.YtnajbkccaclkcaaGreatIM24
import Derived.Test.YtnajbkccaclkcaaGreatIM13
import Derived.Test.YtnajbkccaclkcaaGreatIM5
import Derived.Test.YtnajbkccaclkcaaGreatIM2
import Derived.Test.YtnajbkccaclkcaaGreatIM16
import Derived.Test.YtnajbkccaclkcaaGreatIM22
namespace Go.Proofs.YtnajbkccaclkcaaGreat
open Go Go.RowKit

/-- What an image that is handed in has beside its lists. -/
structure Im.Nil (m : Im) : Prop where
  v : m.vA = none → m.vc = 0
  b : m.bA = none → m.bc = 0
  ops : ∀ x ∈ m.log, x.Nil
  n : m.nA = none → m.nc = 0
  j : m.jA = none → m.jc = 0
  e : m.eA = none → m.ec = 0
def ndK : Nd := ⟨⟨0, 0⟩, ⟨0, 0⟩, 0, 906⟩
def opK : Array Value := #[.int .i64 0, .int .i64 0, .slice none 0 0, .int .i64 905, .int .i64 0, .int .i64 0, .int .i64 0, .int .i64 0, .string ⟨#[]⟩, .slice none 0 0, .int .i64 0]
/-- The lists of an operation, with marks behind them. -/
structure OpLent (W : World) (base : Nat) (y : Lop) : Prop where
  d : W.ownsRow base 59 2 (.slice y.dA (y.o.deps.length + 1) y.dc) (y.o.deps.length + 1) (dots y.o.deps ++ [.int .i64 903, .int .i64 0])
  g : W.ownsRow base 68 3 (.slice y.gA (y.o.gone.length + 1) y.gc) (y.o.gone.length + 1) (runs y.o.gone ++ [.int .i64 0, .int .i64 0, .int .i64 904])
structure LentAt (W : World) (base : Nat) (m x : Im) : Prop where
  ev : x.v = m.v
  eb : x.b = m.b
  ecl : x.clock = m.clock
  elog : x.log.map (·.o) = m.log.map (·.o)
  en : x.nodes = m.nodes
  ej : x.joined = m.joined
  ee : x.left = m.left
  eep : x.epoch = m.epoch
  v : W.ownsRow base 59 2 (.slice x.vA (x.v.length + 1) x.vc) (x.v.length + 1) (dots x.v ++ [.int .i64 901, .int .i64 0])
  b : W.ownsRow base 59 2 (.slice x.bA (x.b.length + 1) x.bc) (x.b.length + 1) (dots x.b ++ [.int .i64 902, .int .i64 0])
  l : W.ownsRow base 64 11 (.slice x.lA (x.log.length + 1) x.lc) (x.log.length + 1) (lops x.log ++ opK.toList)
  ops : ∀ y ∈ x.log, OpLent W base y
  n : W.ownsRow base 66 6 (.slice x.nA (x.nodes.length + 1) x.nc) (x.nodes.length + 1) (nds x.nodes ++ ndK.c.toList)
  j : W.ownsRow base 3 1 (.slice x.jA (x.joined.length + 1) x.jc) (x.joined.length + 1) (ints x.joined ++ [.int .i64 907])
  e : W.ownsRow base 3 1 (.slice x.eA (x.left.length + 1) x.ec) (x.left.length + 1) (ints x.left ++ [.int .i64 908])
def LentPost (w : World) (m : Im) (e : Ending) (w' : World) : Prop := ∃ x : Im, e = .returned (.agg x.c) ∧ LentAt w' w.heap.size m x ∧ Kept (fun _ => False) w w'
def imZ : Array Value := #[.slice none 0 0, .slice none 0 0, .int .i64 0, .slice none 0 0, .slice none 0 0, .slice none 0 0, .slice none 0 0, .int .i64 0]
theorem size_im : (Tryz.prog.info? 28).map (·.size) = some 8 := by kernel_rfl
theorem cells_nil {w : World} {A : Option Addr} {xs : List Value} {n k c : Nat} (h : CellsAt w A xs) (hl : xs.length = n * (k + 1)) (hn : A = none → c = 0) : A = none → n = 0 ∧ c = 0 := fun e => ⟨by
  have := congrArg List.length (h.none_nil e)
  rw [hl] at this
  simp only [List.length_nil] at this
  exact (Nat.mul_eq_zero.1 this).resolve_right (by omega), hn e⟩
theorem nokind_own {w : World} {b s n : Nat} {e T : TypeId} {v : Value} {xs : List Value} (h : w.ownsRow b e s v n xs) (hne : T ≠ e) : NoKind w (fun k => v.ownBlock = some k) T := fun k hk cs c hc => by
  rcases h.2 with ⟨rfl, _⟩ | ⟨g', cap, cur, rfl, _, hh, _⟩
  · simp [Value.ownBlock] at hk
  · have e1 : g' = k := by simpa [Value.ownBlock] using hk
    subst e1
    rw [hh] at hc
    injection hc with e1
    injection e1 with _ e2
    exact hne e2.symm
theorem im_one (x : Im) : x.c.all (·.oneCell') = true := by simp [Im.c, Value.oneCell']
theorem und_im : ∃ d, Tryz.prog.underlying 28 = some d ∧ d.isRow = true := ⟨.struct (Tryz.prog.fieldsOf 28), by kernel_rfl, rfl⟩
theorem wpList_load_im {ops : Array Oper} {rest : List Oper} {o : Oper} {a : Act} {w : World} {Q : Exit → Act → World → Prop} {t : TypeId} (hgd : o.guard = none) (x : Operand) (ho : o.op = .load 28 x) (g : Nat) (hx : a.eval x = .pointer (some ⟨g, 0, none⟩)) (cs : Array Value) (hs : cs.size = 8) (hg : Box w g t cs)
    (h : wpList Tryz.prog ops Q rest (a.put o.dst (.agg cs)) w) : wpList Tryz.prog ops Q (o :: rest) a w := by
  obtain ⟨d, hu, hd⟩ := und_im
  exact wpList_load_box hgd _ x ho g hx t cs d hg hu (by cases d <;> simp_all) (by rw [hs]; exact size_im) h
/-- In the middle of lent. -/
structure Ln (w : World) (m : Im) (g gx gr : Nat) (xs : Array Value) (W : World) : Prop where
  k : Kept (fun _ => False) w W
  m : Box W g 28 m.c
  x : Box W gx 28 xs
  r : Box W gr 28 imZ
theorem Ln.fresh {w W W' : World} {m : Im} {g gx gr : Nat} {xs : Array Value} (h : Ln w m g gx gr xs W) (hk : Kept (fun _ => False) W W') : Ln w m g gx gr xs W' := ⟨h.k.trans hk fun _ _ e => e, h.m.kept hk id, h.x.kept hk id, h.r.kept hk id⟩
theorem Ln.put {w W : World} {m : Im} {g gx gr : Nat} {xs : Array Value} (h : Ln w m g gx gr xs W) (h1 : g ≠ gx) (h2 : gr ≠ gx) (hw : w.heap.size ≤ gx) (i : Nat) (u : Value) : Ln w m g gx gr (xs.setIfInBounds i u) (W.setCell ⟨gx, i, none⟩ u) := ⟨h.k.at i u (.inr hw), h.m.far h1 u, h.x.set i u, h.r.far h2 u⟩
theorem row_put {W : World} {b s n gx i : Nat} {e t : TypeId} {v u : Value} {xs : List Value} {cs : Array Value} (h : W.ownsRow b e s v n xs) (hb : Box W gx t cs) (hne : e ≠ t) : (W.setCell ⟨gx, i, none⟩ u).ownsRow b e s v n xs := by
  have hk : Kept (fun k => k = gx) W (W.setCell ⟨gx, i, none⟩ u) := (Kept.refl _ _).at i u (.inl rfl)
  exact hk.own h fun k e1 e2 => own_box_ne h hb hne (by rw [e1, e2])

set_option maxRecDepth 100000 in
set_option maxHeartbeats 16000000 in
theorem lent_any (m : Im) (w : World) (h : m.At w) (hn : m.Nil) (hs : m.Small) : Calls Tryz.prog 8 #[.agg m.c] w (LentPost w m) := by
  obtain ⟨v, vA, vc, b, bA, bc, clock, log, lA, lc, nodes, nA, nc, joined, jA, jc, left, eA, ec, epoch⟩ := m
  have HSRC1 := Lib.hid (show ∀ W, Kept (fun _ => False) w W → CellsAt W vA (dots v) from fun W hW => (show CellsAt w vA (dots v) from h.v.cells).fresh hW)
  have HSRC2 := Lib.hid (show ∀ W, Kept (fun _ => False) w W → CellsAt W bA (dots b) from fun W hW => (show CellsAt w bA (dots b) from h.b.cells).fresh hW)
  have HSRC3 := Lib.hid (show ∀ W, Kept (fun _ => False) w W → CellsAt W nA (nds nodes) from fun W hW => h.nodes.fresh hW)
  have HSRC4 := Lib.hid (show ∀ W, Kept (fun _ => False) w W → CellsAt W jA (ints joined) from fun W hW => h.joined.fresh hW)
  have HSRC5 := Lib.hid (show ∀ W, Kept (fun _ => False) w W → CellsAt W eA (ints left) from fun W hW => h.left.fresh hW)
  have HLOG := Lib.hid (show ∀ W, Kept (fun _ => False) w W → CellsAt W lA (lops log) from fun W hW => h.log.fresh hW)
  have HOPS := Lib.hid (show ∀ W, Kept (fun _ => False) w W → ∀ x ∈ log, x.At W from fun W hW x hx => (h.ops x hx).fresh hW)
  have HNIL1 := Lib.hid (cells_nil (k := 1) (HSRC1.out w (Kept.refl _ _)) (dots_len v) hn.v)
  have HNIL2 := Lib.hid (cells_nil (k := 1) (HSRC2.out w (Kept.refl _ _)) (dots_len b) hn.b)
  have HNIL3 := Lib.hid (cells_nil (k := 5) (HSRC3.out w (Kept.refl _ _)) (nds_len nodes) hn.n)
  have HNIL4 := Lib.hid (cells_nil (k := 0) (HSRC4.out w (Kept.refl _ _)) (show (ints joined).length = joined.length * 1 by rw [ints_len, Nat.mul_one]) hn.j)
  have HNIL5 := Lib.hid (cells_nil (k := 0) (HSRC5.out w (Kept.refl _ _)) (show (ints left).length = left.length * 1 by rw [ints_len, Nat.mul_one]) hn.e)
  have HOPN := Lib.hid (show ∀ x ∈ log, x.Nil from hn.ops)
  have HOPS2 := Lib.hid (show ∀ x ∈ log, x.o.Small from hs.ops)
  have hl1 : v.length ≤ 1000000 := hs.v
  have hl2 : b.length ≤ 1000000 := hs.b
  have hl3 : log.length ≤ 1000000 := hs.log
  have hl4 : nodes.length ≤ 1000000 := hs.nodes
  have hl5 : joined.length ≤ 1000000 := hs.joined
  have hl6 : left.length ≤ 1000000 := hs.left
  have aM := Tryz.isAgg28
  have zM := Tryz.sizeOf28
  have HZ0 := Lib.hid (show Ln w ⟨v, vA, vc, b, bA, bc, clock, log, lA, lc, nodes, nA, nc, joined, jA, jc, left, eA, ec, epoch⟩ w.heap.size (w.heap.size + 2) (w.heap.size + 1) (Im.c ⟨v, vA, vc, b, bA, bc, clock, log, lA, lc, nodes, nA, nc, joined, jA, jc, left, eA, ec, epoch⟩) (((w.alloc (.cells (Im.c ⟨v, vA, vc, b, bA, bc, clock, log, lA, lc, nodes, nA, nc, joined, jA, jc, left, eA, ec, epoch⟩) 28)).alloc (.cells imZ 28)).alloc (.cells (Im.c ⟨v, vA, vc, b, bA, bc, clock, log, lA, lc, nodes, nA, nc, joined, jA, jc, left, eA, ec, epoch⟩) 28)) from
    ⟨(((Kept.refl _ _).alloc _).alloc _).alloc _, ((Box.new w _ _).alloc _).alloc _, (Box.new _ _ _).at_eq (show _ = w.heap.size + 2 by simp), ((Box.new _ _ _).at_eq (show _ = w.heap.size + 1 by simp)).alloc _⟩)
  unfold Im.c imZ at HZ0
  unfold Im.c
  clear h hn hs
  simp only at HZ0 ⊢
  go_enter Tryz.func8, Tryz.ntmps8
  go_upto_region 2 with (fail)
  generalize (((w.alloc (.cells #[.slice vA v.length vc, .slice bA b.length bc, .int .i64 clock, .slice lA log.length lc, .slice nA nodes.length nc, .slice jA joined.length jc, .slice eA left.length ec, .int .i64 epoch] 28)).alloc (.cells #[.slice none 0 0, .slice none 0 0, .int .i64 0, .slice none 0 0, .slice none 0 0, .slice none 0 0, .slice none 0 0, .int .i64 0] 28)).alloc (.cells #[.slice vA v.length vc, .slice bA b.length bc, .int .i64 clock, .slice lA log.length lc, .slice nA nodes.length nc, .slice jA joined.length jc, .slice eA left.length ec, .int .i64 epoch] 28)) = w1 at HZ0 ⊢
  have HWB := Lib.hid (show w.heap.size ≤ w1.heap.size from HZ0.out.k.size)
  obtain ⟨g, hg⟩ : ∃ g, w.heap.size = g := ⟨_, rfl⟩
  rw [hg] at HZ0 ⊢
  have HZ := Lib.hid (show Ln w ⟨v, vA, vc, b, bA, bc, clock, log, lA, lc, nodes, nA, nc, joined, jA, jc, left, eA, ec, epoch⟩ g (g + 1 + 1) (g + 1) #[.slice vA v.length vc, .slice bA b.length bc, .int .i64 clock, .slice lA log.length lc, .slice nA nodes.length nc, .slice jA joined.length jc, .slice eA left.length ec, .int .i64 epoch] w1 from HZ0.out)
  have HG := Lib.hid hg
  clear HZ0 hg
  have HSZ := Lib.hid (Nat.le_refl w1.heap.size)
  have c0 : w1.cell? ⟨g, 0, none⟩ = some (.slice vA v.length vc) := (HZ.out.m.cell 0).trans rfl
  go_upto_region 2 with (fail)
  obtain ⟨w6, hw6⟩ : ∃ w6, w1.drew = w6 := ⟨_, rfl⟩
  have hk6 : Kept (fun _ => False) w1 w6 := hw6 ▸ (Kept.refl _ _).drew
  refine wp_region_G (S := fun Wz => Wz.cell? ⟨g, 0, none⟩ = some (.slice vA v.length vc)) 12 (by kernel_rfl) c0 fun hS => ?_
  rw [hw6] at hS ⊢
  refine AnyG.takeTo 9 (i := 1) (v := .pointer (some ⟨g, 0, none⟩)) rfl rfl rfl (by kernel_rfl) (by kernel_rfl) (by kernel_rfl) (by kernel_rfl) (fun _ _ _ h => h) rfl hS (fun Wz hW => by go_simp) ?_
  simp only [List.setIfInBounds_toArray, List.set_cons_zero, List.set_cons_succ]
  refine AnyG.takeTo 10 (i := 2) (v := .slice vA v.length vc) rfl rfl rfl (by kernel_rfl) (by kernel_rfl) (by kernel_rfl) (by kernel_rfl) (fun _ _ _ h => h) rfl hS (fun Wz hW => by (have hc := hW; go_simp)) ?_
  simp only [List.setIfInBounds_toArray, List.set_cons_zero, List.set_cons_succ]
  refine AnyG.takeTo 12 (i := 4) (v := .agg #[.int .i64 901, .int .i64 0]) rfl rfl rfl (by kernel_rfl) (by kernel_rfl) (by kernel_rfl) (by kernel_rfl) (fun _ _ _ h => h) rfl hS (fun Wz hW => by go_simp) ?_
  simp only [List.setIfInBounds_toArray, List.set_cons_zero, List.set_cons_succ]
  refine AnyG.takeTo 15 (i := 7) (v := .pointer (some ⟨g, 0, none⟩)) rfl rfl rfl (by kernel_rfl) (by kernel_rfl) (by kernel_rfl) (by kernel_rfl) (fun _ _ _ h => h) rfl hS (fun Wz hW => by go_simp) ?_
  simp only [List.setIfInBounds_toArray, List.set_cons_zero, List.set_cons_succ]
  refine AnyG.takeTo 16 (i := 8) (v := .slice vA v.length vc) rfl rfl rfl (by kernel_rfl) (by kernel_rfl) (by kernel_rfl) (by kernel_rfl) (fun _ _ _ h => h) rfl hS (fun Wz hW => by (have hc := hW; go_simp)) ?_
  simp only [List.setIfInBounds_toArray, List.set_cons_zero, List.set_cons_succ]
  refine AnyG.takeTo 17 (i := 9) (v := .int .i64 v.length) rfl rfl rfl (by kernel_rfl) (by kernel_rfl) (by kernel_rfl) (by kernel_rfl) (fun _ _ _ h => h) rfl hS (fun Wz hW => by go_simp) ?_
  simp only [List.setIfInBounds_toArray, List.set_cons_zero, List.set_cons_succ]
  refine held_lent eltDots (i0 := 0) (i3 := 3) (i5 := 5) (i6 := 6) (s0 := 8) (s3 := 11) (s4 := 12) (s5 := 13) (s6 := 14) (sx := 10) (w0 := w1) (cs := #[.int .i64 901, .int .i64 0]) (A := vA) (n := v.length) (c := vc) (xs := dots v) rfl rfl rfl rfl rfl rfl rfl rfl rfl rfl (fun Q' a' W' hq => lit0_dot rfl rfl rfl hq) (fun Q' a' W' ha hq => lit1_dot rfl rfl _ rfl 901 0 (ha.trans rfl) hq) (by kernel_rfl) (by kernel_rfl) (by kernel_rfl) (by kernel_rfl) (by kernel_rfl) (by kernel_rfl) ⟨Nat.le_of_ble_eq_true rfl, Nat.le_of_ble_eq_true rfl, Nat.le_of_ble_eq_true rfl⟩ (by decide) rfl HNIL1.out (HSRC1.out _ HZ.out.k) (dots_len v) (dots_one v) rfl (by decide) (by omega) (fun W' hW => (hW.cellF c0)) hk6 ?_
  intro A1 c1 v0 v3 v5 w7 HO hk7
  simp only [Act.put, List.setIfInBounds_toArray, List.set_cons_zero, List.set_cons_succ]
  have hcap := (own_caps HO.out).1
  have hle : v.length ≤ c1 := by omega
  have hleI : (v.length : Int) ≤ (c1 : Int) := by omega
  refine AnyG.one (i := 10) (by kernel_rfl) rfl fun K hK => ?_
  go_wp2_with (fail)
  refine hK.out _ _ (fun _ => (hk7.cellF c0)) ?_
  clear hK K
  refine AnyG.takeTo 19 (i := 11) (v := .pointer (some ⟨g + 1 + 1, 0, none⟩)) rfl rfl rfl (by kernel_rfl) (by kernel_rfl) (by kernel_rfl) (by kernel_rfl) (fun _ _ _ h => h) rfl (hk7.cellF c0) (fun Wz hW => by go_simp) ?_
  simp only [List.setIfInBounds_toArray, List.set_cons_zero, List.set_cons_succ]
  have hz7 := HZ.out.fresh hk7
  have cx := (hz7.x.cell 0).trans rfl
  have fx := hz7.x.frozen 0
  refine AnyG.one (i := 12) (by kernel_rfl) rfl fun K hK => ?_
  go_wp2_with (fail)
  refine hK.out _ _ (fun e => absurd rfl e) ?_
  clear hK K
  refine AnyG.done (by kernel_rfl) ?_ _
  have HZN := Lib.hid (hz7.put (by omega) (by omega) (by have := HG.out; omega) 0 (.slice A1 v.length c1))
  have HRN1 := Lib.hid (own_base (row_put (i := 0) (u := .slice A1 v.length c1) HO.out hz7.x (by decide)) (Nat.le_trans HWB.out (show w1.heap.size ≤ w1.heap.size from HSZ.out)))
  have HSZN := Lib.hid (show w1.heap.size ≤ (w7.setCell ⟨g + 1 + 1, 0, none⟩ (.slice A1 v.length c1)).heap.size by rw [World.size_setCell]; exact Nat.le_trans HSZ.out hk7.size)
  simp only [List.setIfInBounds_toArray, List.set_cons_zero] at HZN
  clear HZ hz7 hk7 HO hk6 hw6 hcap hle hleI cx fx c0 hS HSZ 
  obtain ⟨wn1, hwn⟩ : ∃ wn, w7.setCell ⟨g + 1 + 1, 0, none⟩ (.slice A1 v.length c1) = wn := ⟨_, rfl⟩
  rw [hwn] at HZN HRN1 HSZN  ⊢
  have HZ := HZN
  have HSZ := HSZN
  clear hwn HZN HSZN 
  have c1 : wn1.cell? ⟨g, 1, none⟩ = some (.slice bA b.length bc) := (HZ.out.m.cell 1).trans rfl
  go_upto_region 3 with (fail)
  obtain ⟨w6, hw6⟩ : ∃ w6, wn1.drew = w6 := ⟨_, rfl⟩
  have hk6 : Kept (fun _ => False) wn1 w6 := hw6 ▸ (Kept.refl _ _).drew
  refine wp_region_G (S := fun Wz => Wz.cell? ⟨g, 1, none⟩ = some (.slice bA b.length bc)) 12 (by kernel_rfl) c1 fun hS => ?_
  rw [hw6] at hS ⊢
  refine AnyG.takeTo 21 (i := 1) (v := .pointer (some ⟨g, 1, none⟩)) rfl rfl rfl (by kernel_rfl) (by kernel_rfl) (by kernel_rfl) (by kernel_rfl) (fun _ _ _ h => h) rfl hS (fun Wz hW => by go_simp) ?_
  simp only [List.setIfInBounds_toArray, List.set_cons_zero, List.set_cons_succ]
  refine AnyG.takeTo 22 (i := 2) (v := .slice bA b.length bc) rfl rfl rfl (by kernel_rfl) (by kernel_rfl) (by kernel_rfl) (by kernel_rfl) (fun _ _ _ h => h) rfl hS (fun Wz hW => by (have hc := hW; go_simp)) ?_
  simp only [List.setIfInBounds_toArray, List.set_cons_zero, List.set_cons_succ]
  refine AnyG.takeTo 24 (i := 4) (v := .agg #[.int .i64 902, .int .i64 0]) rfl rfl rfl (by kernel_rfl) (by kernel_rfl) (by kernel_rfl) (by kernel_rfl) (fun _ _ _ h => h) rfl hS (fun Wz hW => by go_simp) ?_
  simp only [List.setIfInBounds_toArray, List.set_cons_zero, List.set_cons_succ]
  refine AnyG.takeTo 27 (i := 7) (v := .pointer (some ⟨g, 1, none⟩)) rfl rfl rfl (by kernel_rfl) (by kernel_rfl) (by kernel_rfl) (by kernel_rfl) (fun _ _ _ h => h) rfl hS (fun Wz hW => by go_simp) ?_
  simp only [List.setIfInBounds_toArray, List.set_cons_zero, List.set_cons_succ]
  refine AnyG.takeTo 28 (i := 8) (v := .slice bA b.length bc) rfl rfl rfl (by kernel_rfl) (by kernel_rfl) (by kernel_rfl) (by kernel_rfl) (fun _ _ _ h => h) rfl hS (fun Wz hW => by (have hc := hW; go_simp)) ?_
  simp only [List.setIfInBounds_toArray, List.set_cons_zero, List.set_cons_succ]
  refine AnyG.takeTo 29 (i := 9) (v := .int .i64 b.length) rfl rfl rfl (by kernel_rfl) (by kernel_rfl) (by kernel_rfl) (by kernel_rfl) (fun _ _ _ h => h) rfl hS (fun Wz hW => by go_simp) ?_
  simp only [List.setIfInBounds_toArray, List.set_cons_zero, List.set_cons_succ]
  refine held_lent eltDots (i0 := 0) (i3 := 3) (i5 := 5) (i6 := 6) (s0 := 20) (s3 := 23) (s4 := 24) (s5 := 25) (s6 := 26) (sx := 22) (w0 := wn1) (cs := #[.int .i64 902, .int .i64 0]) (A := bA) (n := b.length) (c := bc) (xs := dots b) rfl rfl rfl rfl rfl rfl rfl rfl rfl rfl (fun Q' a' W' hq => lit0_dot rfl rfl rfl hq) (fun Q' a' W' ha hq => lit1_dot rfl rfl _ rfl 902 0 (ha.trans rfl) hq) (by kernel_rfl) (by kernel_rfl) (by kernel_rfl) (by kernel_rfl) (by kernel_rfl) (by kernel_rfl) ⟨Nat.le_of_ble_eq_true rfl, Nat.le_of_ble_eq_true rfl, Nat.le_of_ble_eq_true rfl⟩ (by decide) rfl HNIL2.out (HSRC2.out _ HZ.out.k) (dots_len b) (dots_one b) rfl (by decide) (by omega) (fun W' hW => (hW.cellF c1)) hk6 ?_
  intro A2 c2 v0 v3 v5 w7 HO hk7
  simp only [Act.put, List.setIfInBounds_toArray, List.set_cons_zero, List.set_cons_succ]
  have hcap := (own_caps HO.out).1
  have hle : b.length ≤ c2 := by omega
  have hleI : (b.length : Int) ≤ (c2 : Int) := by omega
  refine AnyG.one (i := 10) (by kernel_rfl) rfl fun K hK => ?_
  go_wp2_with (fail)
  refine hK.out _ _ (fun _ => (hk7.cellF c1)) ?_
  clear hK K
  refine AnyG.takeTo 31 (i := 11) (v := .pointer (some ⟨g + 1 + 1, 1, none⟩)) rfl rfl rfl (by kernel_rfl) (by kernel_rfl) (by kernel_rfl) (by kernel_rfl) (fun _ _ _ h => h) rfl (hk7.cellF c1) (fun Wz hW => by go_simp) ?_
  simp only [List.setIfInBounds_toArray, List.set_cons_zero, List.set_cons_succ]
  have hz7 := HZ.out.fresh hk7
  have cx := (hz7.x.cell 1).trans rfl
  have fx := hz7.x.frozen 1
  refine AnyG.one (i := 12) (by kernel_rfl) rfl fun K hK => ?_
  go_wp2_with (fail)
  refine hK.out _ _ (fun e => absurd rfl e) ?_
  clear hK K
  refine AnyG.done (by kernel_rfl) ?_ _
  have HZN := Lib.hid (hz7.put (by omega) (by omega) (by have := HG.out; omega) 1 (.slice A2 b.length c2))
  have HRN2 := Lib.hid (own_base (row_put (i := 1) (u := .slice A2 b.length c2) HO.out hz7.x (by decide)) (Nat.le_trans HWB.out (show w1.heap.size ≤ wn1.heap.size from HSZ.out)))
  have HSZN := Lib.hid (show w1.heap.size ≤ (w7.setCell ⟨g + 1 + 1, 1, none⟩ (.slice A2 b.length c2)).heap.size by rw [World.size_setCell]; exact Nat.le_trans HSZ.out hk7.size)
  have HRN1N := Lib.hid (row_put (i := 1) (u := .slice A2 b.length c2) (hk7.own HRN1.out fun _ _ => id) hz7.x (by decide))
  simp only [List.setIfInBounds_toArray, List.set_cons_zero, List.set_cons_succ] at HZN
  clear HZ hz7 hk7 HO hk6 hw6 hcap hle hleI cx fx c1 hS HSZ HRN1
  obtain ⟨wn2, hwn⟩ : ∃ wn, w7.setCell ⟨g + 1 + 1, 1, none⟩ (.slice A2 b.length c2) = wn := ⟨_, rfl⟩
  rw [hwn] at HZN HRN2 HSZN HRN1N ⊢
  have HZ := HZN
  have HSZ := HSZN
  have HRN1 := HRN1N
  clear hwn HZN HSZN HRN1N
  obtain ⟨N, hN⟩ : ∃ N, log.length = N := ⟨_, rfl⟩
  have HN := Lib.hid hN
  rw [hN] at hl3
  clear hN
  have HRN1b := HRN1
  have HRN2b := HRN2
  clear HRN1 HRN2
  go_wp2_with (fail)
  go_loopw [4, 5] (fun vl vi wr => ∃ (k : Nat) (ys : List Lop) (A : Option Addr) (c : Nat), vl = .slice A ys.length c ∧ vi = .int .i64 k ∧ k ≤ N ∧ ys.length = k ∧ ys.map (·.o) = (log.take k).map (·.o) ∧ Ln w ⟨v, vA, vc, b, bA, bc, clock, log, lA, lc, nodes, nA, nc, joined, jA, jc, left, eA, ec, epoch⟩ g (g + 1 + 1) (g + 1) #[.slice A1 v.length c1, .slice A2 b.length c2, .int .i64 clock, .slice lA log.length lc, .slice nA nodes.length nc, .slice jA joined.length jc, .slice eA left.length ec, .int .i64 epoch] wr ∧ wr.ownsRow w.heap.size 59 2 (.slice A1 (v.length + 1) c1) (v.length + 1) (dots v ++ [.int .i64 901, .int .i64 0]) ∧ wr.ownsRow w.heap.size 59 2 (.slice A2 (b.length + 1) c2) (b.length + 1) (dots b ++ [.int .i64 902, .int .i64 0]) ∧ wr.ownsRow w.heap.size 64 11 (.slice A ys.length c) ys.length (lops ys) ∧ (∀ y ∈ ys, OpLent wr w.heap.size y) ∧ w1.heap.size ≤ wr.heap.size) (fun _ vi _ => N - (intOf vi).toNat)
  case atStart => exact ⟨0, [], none, 0, rfl, rfl, Nat.zero_le _, rfl, rfl, HZ.out, HRN1b.out, HRN2b.out, World.ownsRow_nil _ _ _ _, fun y hy => (by cases hy), HSZ.out⟩
  case round =>
    obtain ⟨k, ys, A, c, rfl, rfl, hk, hyl, hym, hz, hr1, hr2, hrow, hys, hsz⟩ := hrel
    have HZ := Lib.hid hz
    have HR1 := Lib.hid hr1
    have HR2 := Lib.hid hr2
    have HROW := Lib.hid hrow
    have HYS := Lib.hid hys
    have HSZ := Lib.hid hsz
    have HYL := Lib.hid hyl
    have HYM := Lib.hid hym
    have m3 : wr.cell? ⟨g, 3, none⟩ = some (.slice lA N lc) := by rw [← HN.out]; exact (hz.m.cell 3).trans rfl
    rw [hyl] at hrow ⊢
    clear hz hr1 hr2 hrow hys hsz hyl hym
    by_cases hlt : k < N
    · as_aux_lemma =>
      have hin : (k : Int) < (N : Int) := by omega
      have hkl : k < log.length := by rw [HN.out]; exact hlt
      obtain ⟨bb, ff, hlA, hc⟩ := (HLOG.out w (Kept.refl _ _)).some_ (by rw [lops_len]; omega)
      subst hlA
      have hr := lop_range (w := wr) (fun j u hj => HZ.out.k.cellF (hc j u hj)) k hkl
      have ht := List.take_succ_eq_append_getElem hkl
      have hx1 := HOPS.out wr HZ.out.k _ (List.getElem_mem hkl)
      have hx2 := HOPS2.out _ (List.getElem_mem hkl)
      have hx3 := HOPN.out _ (List.getElem_mem hkl)
      obtain ⟨x, hx⟩ : ∃ x, log[k] = x := ⟨_, rfl⟩
      rw [hx] at hr ht hx1 hx2 hx3
      have HT := Lib.hid ht
      have HR := Lib.hid hr
      obtain ⟨o, dA, dc, gA, gc⟩ := x
      obtain ⟨⟨ds, dq⟩, deps, kind, ⟨it, is⟩, ⟨rt, rs⟩, text, gone, site⟩ := o
      have hdl := hx2.dl
      have hgl := hx2.gl
      simp only at hdl hgl
      have HNIL6 := Lib.hid (show dA = none → deps.length = 0 ∧ dc = 0 from hx1.d.nilness hx3.d)
      have HNIL7 := Lib.hid (show gA = none → gone.length = 0 ∧ gc = 0 from hx1.g.nilness hx3.g)
      have HX1 := Lib.hid hx1
      clear hr ht hx hc hx1 hx2 hx3 HLOG HOPS HOPS2 HOPN
      go_upto_region 9 with (first | refine wpList_load_lopM rfl _ rfl bb (ff + k * 11) rfl _ HR.out (Opr.cells ⟨⟨ds, dq⟩, deps, kind, ⟨it, is⟩, ⟨rt, rs⟩, text, gone, site⟩ dA dc gA gc) rfl ?_ | (refine wpList_store_newbox size_op rfl _ _ rfl wr _ rfl rfl opZ rfl rfl rfl (Opr.cells_one _ _ _ _ _) ?_; refine Hid.out ?_))
      refine Lib.hid ?_
      have hbd := Box.new wr 64 (Opr.cells ⟨⟨ds, dq⟩, deps, kind, ⟨it, is⟩, ⟨rt, rs⟩, text, gone, site⟩ dA dc gA gc)
      have hko := (Kept.refl (fun _ => False) wr).alloc (.cells (Opr.cells ⟨⟨ds, dq⟩, deps, kind, ⟨it, is⟩, ⟨rt, rs⟩, text, gone, site⟩ dA dc gA gc) 64)
      unfold Opr.cells at hbd hko
      unfold Opr.cells
      simp only at hbd hko ⊢
      generalize wr.alloc (.cells #[.int .i64 ds, .int .i64 dq, .slice dA deps.length dc, .int .i64 kind, .int .i64 it, .int .i64 is, .int .i64 rt, .int .i64 rs, .string text, .slice gA gone.length gc, .int .i64 site] 64) = wo at hbd hko ⊢
      obtain ⟨D, hD⟩ : ∃ D, wr.heap.size = D := ⟨_, rfl⟩
      have HD := Lib.hid hD
      rw [hD] at hbd ⊢
      have HBD := Lib.hid hbd
      have HKO := Lib.hid hko
      have HSRC6 := Lib.hid (show CellsAt wo dA (dots deps) from (HX1.out.fresh hko).d.cells)
      have c2' : wo.cell? ⟨D, 2, none⟩ = some (.slice dA deps.length dc) := (hbd.cell 2).trans rfl
      have c2 := c2'
      clear hbd hko hD m3 HR
      go_upto_region 9 with (fail)
      obtain ⟨w6, hw6⟩ : ∃ w6, wo.drew = w6 := ⟨_, rfl⟩
      have hk6 : Kept (fun _ => False) wo w6 := hw6 ▸ (Kept.refl _ _).drew
      refine wp_region_G (S := fun Wz => Wz.cell? ⟨D, 2, none⟩ = some (.slice dA deps.length dc)) 12 (by kernel_rfl) c2 fun hS => ?_
      rw [hw6] at hS ⊢
      refine AnyG.takeTo 45 (i := 1) (v := .pointer (some ⟨D, 2, none⟩)) rfl rfl rfl (by kernel_rfl) (by kernel_rfl) (by kernel_rfl) (by kernel_rfl) (fun _ _ _ h => h) rfl hS (fun Wz hW => by go_simp) ?_
      simp only [List.setIfInBounds_toArray, List.set_cons_zero, List.set_cons_succ]
      refine AnyG.takeTo 46 (i := 2) (v := .slice dA deps.length dc) rfl rfl rfl (by kernel_rfl) (by kernel_rfl) (by kernel_rfl) (by kernel_rfl) (fun _ _ _ h => h) rfl hS (fun Wz hW => by (have hc := hW; go_simp)) ?_
      simp only [List.setIfInBounds_toArray, List.set_cons_zero, List.set_cons_succ]
      refine AnyG.takeTo 48 (i := 4) (v := .agg #[.int .i64 903, .int .i64 0]) rfl rfl rfl (by kernel_rfl) (by kernel_rfl) (by kernel_rfl) (by kernel_rfl) (fun _ _ _ h => h) rfl hS (fun Wz hW => by go_simp) ?_
      simp only [List.setIfInBounds_toArray, List.set_cons_zero, List.set_cons_succ]
      refine AnyG.takeTo 51 (i := 7) (v := .pointer (some ⟨D, 2, none⟩)) rfl rfl rfl (by kernel_rfl) (by kernel_rfl) (by kernel_rfl) (by kernel_rfl) (fun _ _ _ h => h) rfl hS (fun Wz hW => by go_simp) ?_
      simp only [List.setIfInBounds_toArray, List.set_cons_zero, List.set_cons_succ]
      refine AnyG.takeTo 52 (i := 8) (v := .slice dA deps.length dc) rfl rfl rfl (by kernel_rfl) (by kernel_rfl) (by kernel_rfl) (by kernel_rfl) (fun _ _ _ h => h) rfl hS (fun Wz hW => by (have hc := hW; go_simp)) ?_
      simp only [List.setIfInBounds_toArray, List.set_cons_zero, List.set_cons_succ]
      refine AnyG.takeTo 53 (i := 9) (v := .int .i64 deps.length) rfl rfl rfl (by kernel_rfl) (by kernel_rfl) (by kernel_rfl) (by kernel_rfl) (fun _ _ _ h => h) rfl hS (fun Wz hW => by go_simp) ?_
      simp only [List.setIfInBounds_toArray, List.set_cons_zero, List.set_cons_succ]
      refine held_lent eltDots (i0 := 0) (i3 := 3) (i5 := 5) (i6 := 6) (s0 := 44) (s3 := 47) (s4 := 48) (s5 := 49) (s6 := 50) (sx := 46) (w0 := wo) (cs := #[.int .i64 903, .int .i64 0]) (A := dA) (n := deps.length) (c := dc) (xs := dots deps) rfl rfl rfl rfl rfl rfl rfl rfl rfl rfl (fun Q' a' W' hq => lit0_dot rfl rfl rfl hq) (fun Q' a' W' ha hq => lit1_dot rfl rfl _ rfl 903 0 (ha.trans rfl) hq) (by kernel_rfl) (by kernel_rfl) (by kernel_rfl) (by kernel_rfl) (by kernel_rfl) (by kernel_rfl) ⟨Nat.le_of_ble_eq_true rfl, Nat.le_of_ble_eq_true rfl, Nat.le_of_ble_eq_true rfl⟩ (by decide) rfl HNIL6.out HSRC6.out (dots_len deps) (dots_one deps) rfl (by decide) (by omega) (fun W' hW => (hW.cellF c2)) hk6 ?_
      intro A6 c6 v0 v3 v5 w7 HO hk7
      simp only [Act.put, List.setIfInBounds_toArray, List.set_cons_zero, List.set_cons_succ]
      have hcap := (own_caps HO.out).1
      have hle : deps.length ≤ c6 := by omega
      have hleI : (deps.length : Int) ≤ (c6 : Int) := by omega
      refine AnyG.one (i := 10) (by kernel_rfl) rfl fun K hK => ?_
      go_wp2_with (fail)
      refine hK.out _ _ (fun _ => (hk7.cellF c2)) ?_
      clear hK K
      refine AnyG.takeTo 55 (i := 11) (v := .pointer (some ⟨D, 2, none⟩)) rfl rfl rfl (by kernel_rfl) (by kernel_rfl) (by kernel_rfl) (by kernel_rfl) (fun _ _ _ h => h) rfl (hk7.cellF c2) (fun Wz hW => by go_simp) ?_
      simp only [List.setIfInBounds_toArray, List.set_cons_zero, List.set_cons_succ]
      have hb7 := HBD.out.kept hk7 id
      have cx := (hb7.cell 2).trans rfl
      have fx := hb7.frozen 2
      refine AnyG.one (i := 12) (by kernel_rfl) rfl fun K hK => ?_
      go_wp2_with (fail)
      refine hK.out _ _ (fun e => absurd rfl e) ?_
      clear hK K
      refine AnyG.done (by kernel_rfl) ?_ _
      have hb8 := hb7.set 2 (.slice A6 deps.length c6)
      have hk8 : Kept (fun _ => False) wr (w7.setCell ⟨D, 2, none⟩ (.slice A6 deps.length c6)) := (HKO.out.trans hk7 fun _ _ e => e).at 2 _ (.inr (Nat.le_of_eq HD.out))
      have HO8 := Lib.hid (own_base (row_put (i := 2) (u := .slice A6 deps.length c6) HO.out hb7 (by decide)) (show w.heap.size ≤ wo.heap.size from Nat.le_trans HZ.out.k.size HKO.out.size))
      have HSRC7 := Lib.hid (show CellsAt _ gA (runs gone) from (HX1.out.fresh hk8).g.cells)
      simp only [List.setIfInBounds_toArray, List.set_cons_zero, List.set_cons_succ] at hb8
      obtain ⟨w8, hw8⟩ : ∃ w8, w7.setCell ⟨D, 2, none⟩ (.slice A6 deps.length c6) = w8 := ⟨_, rfl⟩
      rw [hw8] at hb8 hk8 HO8 HSRC7 ⊢
      have HBE := Lib.hid hb8
      have HK8 := Lib.hid hk8
      have c9' : w8.cell? ⟨D, 9, none⟩ = some (.slice gA gone.length gc) := (hb8.cell 9).trans rfl
      have c9 := c9'
      clear hb7 hb8 hk8 hk7 HO hk6 hw6 hcap hle hleI cx fx c2 hS hw8 HBD HSRC6 HNIL6
      go_upto_region 10 with (fail)
      obtain ⟨w6, hw6⟩ : ∃ w6, w8.drew = w6 := ⟨_, rfl⟩
      have hk6 : Kept (fun _ => False) w8 w6 := hw6 ▸ (Kept.refl _ _).drew
      refine wp_region_G (S := fun Wz => Wz.cell? ⟨D, 9, none⟩ = some (.slice gA gone.length gc)) 12 (by kernel_rfl) c9 fun hS => ?_
      rw [hw6] at hS ⊢
      refine AnyG.takeTo 57 (i := 1) (v := .pointer (some ⟨D, 9, none⟩)) rfl rfl rfl (by kernel_rfl) (by kernel_rfl) (by kernel_rfl) (by kernel_rfl) (fun _ _ _ h => h) rfl hS (fun Wz hW => by go_simp) ?_
      simp only [List.setIfInBounds_toArray, List.set_cons_zero, List.set_cons_succ]
      refine AnyG.takeTo 58 (i := 2) (v := .slice gA gone.length gc) rfl rfl rfl (by kernel_rfl) (by kernel_rfl) (by kernel_rfl) (by kernel_rfl) (fun _ _ _ h => h) rfl hS (fun Wz hW => by (have hc := hW; go_simp)) ?_
      simp only [List.setIfInBounds_toArray, List.set_cons_zero, List.set_cons_succ]
      refine AnyG.takeTo 60 (i := 4) (v := .agg #[.int .i64 0, .int .i64 0, .int .i64 904]) rfl rfl rfl (by kernel_rfl) (by kernel_rfl) (by kernel_rfl) (by kernel_rfl) (fun _ _ _ h => h) rfl hS (fun Wz hW => by go_simp) ?_
      simp only [List.setIfInBounds_toArray, List.set_cons_zero, List.set_cons_succ]
      refine AnyG.takeTo 63 (i := 7) (v := .pointer (some ⟨D, 9, none⟩)) rfl rfl rfl (by kernel_rfl) (by kernel_rfl) (by kernel_rfl) (by kernel_rfl) (fun _ _ _ h => h) rfl hS (fun Wz hW => by go_simp) ?_
      simp only [List.setIfInBounds_toArray, List.set_cons_zero, List.set_cons_succ]
      refine AnyG.takeTo 64 (i := 8) (v := .slice gA gone.length gc) rfl rfl rfl (by kernel_rfl) (by kernel_rfl) (by kernel_rfl) (by kernel_rfl) (fun _ _ _ h => h) rfl hS (fun Wz hW => by (have hc := hW; go_simp)) ?_
      simp only [List.setIfInBounds_toArray, List.set_cons_zero, List.set_cons_succ]
      refine AnyG.takeTo 65 (i := 9) (v := .int .i64 gone.length) rfl rfl rfl (by kernel_rfl) (by kernel_rfl) (by kernel_rfl) (by kernel_rfl) (fun _ _ _ h => h) rfl hS (fun Wz hW => by go_simp) ?_
      simp only [List.setIfInBounds_toArray, List.set_cons_zero, List.set_cons_succ]
      refine held_lent eltRuns (i0 := 0) (i3 := 3) (i5 := 5) (i6 := 6) (s0 := 56) (s3 := 59) (s4 := 60) (s5 := 61) (s6 := 62) (sx := 58) (w0 := w8) (cs := #[.int .i64 0, .int .i64 0, .int .i64 904]) (A := gA) (n := gone.length) (c := gc) (xs := runs gone) rfl rfl rfl rfl rfl rfl rfl rfl rfl rfl (fun Q' a' W' hq => lit0_run rfl rfl rfl hq) (fun Q' a' W' ha hq => lit1_run rfl rfl _ rfl 0 0 904 (ha.trans rfl) hq) (by kernel_rfl) (by kernel_rfl) (by kernel_rfl) (by kernel_rfl) (by kernel_rfl) (by kernel_rfl) ⟨Nat.le_of_ble_eq_true rfl, Nat.le_of_ble_eq_true rfl, Nat.le_of_ble_eq_true rfl⟩ (by decide) rfl HNIL7.out HSRC7.out (runs_len gone) (runs_one gone) rfl (by decide) (by omega) (fun W' hW => (hW.cellF c9)) hk6 ?_
      intro A7 c7 v0 v3 v5 w7 HO hk7
      simp only [Act.put, List.setIfInBounds_toArray, List.set_cons_zero, List.set_cons_succ]
      have hcap := (own_caps HO.out).1
      have hle : gone.length ≤ c7 := by omega
      have hleI : (gone.length : Int) ≤ (c7 : Int) := by omega
      refine AnyG.one (i := 10) (by kernel_rfl) rfl fun K hK => ?_
      go_wp2_with (fail)
      refine hK.out _ _ (fun _ => (hk7.cellF c9)) ?_
      clear hK K
      refine AnyG.takeTo 67 (i := 11) (v := .pointer (some ⟨D, 9, none⟩)) rfl rfl rfl (by kernel_rfl) (by kernel_rfl) (by kernel_rfl) (by kernel_rfl) (fun _ _ _ h => h) rfl (hk7.cellF c9) (fun Wz hW => by go_simp) ?_
      simp only [List.setIfInBounds_toArray, List.set_cons_zero, List.set_cons_succ]
      have hb7 := HBE.out.kept hk7 id
      have cx := (hb7.cell 9).trans rfl
      have fx := hb7.frozen 9
      refine AnyG.one (i := 12) (by kernel_rfl) rfl fun K hK => ?_
      go_wp2_with (fail)
      refine hK.out _ _ (fun e => absurd rfl e) ?_
      clear hK K
      refine AnyG.done (by kernel_rfl) ?_ _
      have hb9 := hb7.set 9 (.slice A7 gone.length c7)
      have hk9 : Kept (fun _ => False) wr (w7.setCell ⟨D, 9, none⟩ (.slice A7 gone.length c7)) := (HK8.out.trans hk7 fun _ _ e => e).at 9 _ (.inr (Nat.le_of_eq HD.out))
      have HO9 := Lib.hid (own_base (row_put (i := 9) (u := .slice A7 gone.length c7) HO.out hb7 (by decide)) (show w.heap.size ≤ w8.heap.size from Nat.le_trans HZ.out.k.size HK8.out.size))
      have HO8b := Lib.hid (row_put (i := 9) (u := .slice A7 gone.length c7) (hk7.own HO8.out fun _ _ => id) hb7 (by decide))
      simp only [List.setIfInBounds_toArray, List.set_cons_zero, List.set_cons_succ] at hb9
      obtain ⟨w9, hw9⟩ : ∃ w9, w7.setCell ⟨D, 9, none⟩ (.slice A7 gone.length c7) = w9 := ⟨_, rfl⟩
      rw [hw9] at hb9 hk9 HO9 HO8b ⊢
      have HZ9 := Lib.hid (HZ.out.fresh hk9)
      have HR19 := Lib.hid (hk9.own HR1.out fun _ _ => id)
      have HR29 := Lib.hid (hk9.own HR2.out fun _ _ => id)
      have HROW9 := Lib.hid (hk9.own HROW.out fun _ _ => id)
      have HYS9 := Lib.hid (show ∀ y ∈ ys, OpLent w9 w.heap.size y from fun y hy => ⟨hk9.own (HYS.out y hy).d fun _ _ => id, hk9.own (HYS.out y hy).g fun _ _ => id⟩)
      have HS9 := Lib.hid (Nat.le_trans HSZ.out hk9.size)
      have HBF := Lib.hid hb9
      obtain ⟨z, hz⟩ : ∃ z : Lop, z = ⟨⟨⟨ds, dq⟩, deps, kind, ⟨it, is⟩, ⟨rt, rs⟩, text, gone, site⟩, A6, c6, A7, c7⟩ := ⟨_, rfl⟩
      have HZC := Lib.hid (show z.c = #[.int .i64 ds, .int .i64 dq, .slice A6 deps.length c6, .int .i64 kind, .int .i64 it, .int .i64 is, .int .i64 rt, .int .i64 rs, .string text, .slice A7 gone.length c7, .int .i64 site] by rw [hz]; rfl)
      have HZO := Lib.hid (show z.o = ⟨⟨ds, dq⟩, deps, kind, ⟨it, is⟩, ⟨rt, rs⟩, text, gone, site⟩ by rw [hz])
      have HZL := Lib.hid (show OpLent w9 w.heap.size z by rw [hz]; exact ⟨HO8b.out, HO9.out⟩)
      have HYL2 := HYL.out
      clear hb7 hb9 hk9 hk7 HO hk6 hw6 hcap hle hleI cx fx c9 hS hw9 HBE HSRC7 HNIL7 HO8 HO8b HO9 HK8 HKO HZ HR1 HR2 HROW HYS HX1 hz
      rw [HYL.out] at HROW9
      go_wp2_with (first | refine wpList_load_op rfl _ rfl D rfl _ _ rfl HBF.out ?_ | refine wpList_one_op rfl _ rfl z _ HZC.out rfl ?_ | (at_builtin; refine Hid.out ?_))
      refine Lib.hid ?_
      refine wpList_append_new eltOps rfl _ _ rfl w.heap.size _ k (lops ys) rfl HROW9.out 1 1 rfl rfl rfl (by omega) HZ9.out.k.size ?_
      intro A10 c10 w10 HO10 HK10 HG10
      have hNK : ∀ {T : TypeId}, T ≠ 64 → NoKind w9 (fun b => (Value.slice A k c).ownBlock = some b) T := fun h1 => nokind_own HROW9.out h1
      have hz10 : Ln w _ g (g + 1 + 1) (g + 1) _ w10 := ⟨HZ9.out.k.trans HK10.out fun j hj e => (by have := (HROW9.out.lt j e).1; omega), HZ9.out.m.kept HK10.out (own_box_ne HROW9.out HZ9.out.m (by decide)), HZ9.out.x.kept HK10.out (own_box_ne HROW9.out HZ9.out.x (by decide)), HZ9.out.r.kept HK10.out (own_box_ne HROW9.out HZ9.out.r (by decide))⟩
      have HZA := Lib.hid hz10
      have HR1A := Lib.hid (HK10.out.own_kind (hNK (by decide)) HR19.out)
      have HR2A := Lib.hid (HK10.out.own_kind (hNK (by decide)) HR29.out)
      have hys10 : ∀ y ∈ ys ++ [z], OpLent w10 w.heap.size y := fun y hy => by
        rcases List.mem_append.1 hy with hy | hy
        · exact ⟨HK10.out.own_kind (hNK (by decide)) (HYS9.out y hy).d, HK10.out.own_kind (hNK (by decide)) (HYS9.out y hy).g⟩
        · obtain rfl := List.mem_singleton.1 hy
          exact ⟨HK10.out.own_kind (hNK (by decide)) HZL.out.d, HK10.out.own_kind (hNK (by decide)) HZL.out.g⟩
      have HYSA := Lib.hid hys10
      have HSA := Lib.hid (Nat.le_trans HS9.out HK10.out.size)
      have hla : (ys ++ [z]).length = k + 1 := by rw [List.length_append, HYL.out]; rfl
      have HROWA := Lib.hid (show w10.ownsRow w.heap.size 64 11 (.slice A10 (ys ++ [z]).length c10) (ys ++ [z]).length (lops (ys ++ [z])) by rw [hla, lops_app, HZC.out]; exact HO10.out)
      have HYMA := Lib.hid (show (ys ++ [z]).map (·.o) = (log.take (k + 1)).map (·.o) by rw [HT.out, List.map_append, List.map_append, HYM.out]; simp [HZO.out])
      have HLA := Lib.hid hla
      clear hz10 hys10 hla hNK HO10 HK10 HG10 HZ9 HR19 HR29 HROW9 HYS9 HBF
      go_wp2_with (fail)
      go_roundw
      case rel => exact ⟨k + 1, ys ++ [z], A10, c10, by rw [HLA.out], by go_num, by omega, HLA.out, HYMA.out, HZA.out, HR1A.out, HR2A.out, HROWA.out, HYSA.out, HSA.out⟩
      case measure => simp [intOf]; omega
    · have hkN : N = ys.length := by have := HYL.out; omega
      have hk2 : k = ys.length := HYL.out.symm
      subst hkN hk2
      have hym : ys.map (·.o) = log.map (·.o) := by
        have := HYM.out
        rwa [List.take_of_length_le (by rw [HN.out]; exact Nat.le_refl _)] at this
      have HYM2 := Lib.hid hym
      have hyl3 : ys.length ≤ 1000000 := hl3
      have hin : ¬ (ys.length : Int) < (ys.length : Int) := by omega
      clear hlt hym HYM HLOG HOPS HOPS2 HOPN HYL
      go_upto_region 12 with (fail)
      obtain ⟨w6, hw6⟩ : ∃ w6, wr.drew = w6 := ⟨_, rfl⟩
      have hk6 : Kept (fun _ => False) wr w6 := hw6 ▸ (Kept.refl _ _).drew
      refine wp_region_G (S := fun Wz => Wz.cell? ⟨g, 3, none⟩ = some (.slice lA ys.length lc)) 9 (by kernel_rfl) m3 fun hS => ?_
      rw [hw6] at hS ⊢
      refine AnyG.takeTo 72 (i := 0) (v := .slice A ys.length c) rfl rfl rfl (by kernel_rfl) (by kernel_rfl) (by kernel_rfl) (by kernel_rfl) (fun _ _ _ h => h) rfl hS (fun Wz hW => by go_simp) ?_
      simp only [List.setIfInBounds_toArray, List.set_cons_zero, List.set_cons_succ]
      refine AnyG.takeTo 73 (i := 1) (v := .agg #[.int .i64 0, .int .i64 0, .slice none 0 0, .int .i64 905, .int .i64 0, .int .i64 0, .int .i64 0, .int .i64 0, .string ⟨#[]⟩, .slice none 0 0, .int .i64 0]) rfl rfl rfl (by kernel_rfl) (by kernel_rfl) (by kernel_rfl) (by kernel_rfl) (fun _ _ _ h => h) rfl hS (fun Wz hW => by go_simp) ?_
      simp only [List.setIfInBounds_toArray, List.set_cons_zero, List.set_cons_succ]
      refine AnyG.takeTo 76 (i := 4) (v := .pointer (some ⟨g, 3, none⟩)) rfl rfl rfl (by kernel_rfl) (by kernel_rfl) (by kernel_rfl) (by kernel_rfl) (fun _ _ _ h => h) rfl hS (fun Wz hW => by go_simp) ?_
      simp only [List.setIfInBounds_toArray, List.set_cons_zero, List.set_cons_succ]
      refine AnyG.takeTo 77 (i := 5) (v := .slice lA ys.length lc) rfl rfl rfl (by kernel_rfl) (by kernel_rfl) (by kernel_rfl) (by kernel_rfl) (fun _ _ _ h => h) rfl hS (fun Wz hW => by (have hc := hW; go_simp)) ?_
      simp only [List.setIfInBounds_toArray, List.set_cons_zero, List.set_cons_succ]
      refine AnyG.takeTo 78 (i := 6) (v := .int .i64 ys.length) rfl rfl rfl (by kernel_rfl) (by kernel_rfl) (by kernel_rfl) (by kernel_rfl) (fun _ _ _ h => h) rfl hS (fun Wz hW => by go_simp) ?_
      simp only [List.setIfInBounds_toArray, List.set_cons_zero, List.set_cons_succ]
      have hrow6 := hk6.own HROW.out fun _ _ => id
      have hz6 := HZ.out.fresh hk6
      refine AnyG.one (i := 2) (by kernel_rfl) rfl fun K hK => ?_
      refine wpList_one_op rfl _ rfl ⟨⟨⟨0, 0⟩, [], 905, ⟨0, 0⟩, ⟨0, 0⟩, ⟨#[]⟩, [], 0⟩, none, 0, none, 0⟩ opK rfl rfl ?_
      refine wpList_nil ?_
      refine hK.out _ _ (fun _ => (hk6.alloc _).cellF m3) ?_
      clear hK K
      simp only [Act.put, List.setIfInBounds_toArray]
      refine AnyG.one (i := 3) (by kernel_rfl) rfl fun K hK => ?_
      refine wpList_append_new eltOps rfl _ _ rfl w.heap.size _ ys.length (lops ys) rfl hrow6 1 1 rfl rfl rfl (by omega) hz6.k.size ?_
      intro A10 c10 w10 HO10 HK10 HG10
      have hNK : ∀ {T : TypeId}, T ≠ 64 → NoKind w6 (fun b => (Value.slice A ys.length c).ownBlock = some b) T := fun h1 => nokind_own hrow6 h1
      have hz10 : Ln w _ g (g + 1 + 1) (g + 1) _ w10 := ⟨hz6.k.trans HK10.out fun j hj e => (by have := (hrow6.lt j e).1; omega), hz6.m.kept HK10.out (own_box_ne hrow6 hz6.m (by decide)), hz6.x.kept HK10.out (own_box_ne hrow6 hz6.x (by decide)), hz6.r.kept HK10.out (own_box_ne hrow6 hz6.r (by decide))⟩
      have m10 : w10.cell? ⟨g, 3, none⟩ = some (.slice lA ys.length lc) := (hz10.m.cell 3).trans (by rw [← HN.out]; rfl)
      refine wpList_nil ?_
      refine hK.out _ _ (fun _ => m10) ?_
      clear hK K
      simp only [Act.put]
      have hcap := (own_caps HO10.out).1
      have hle : ys.length ≤ c10 := by omega
      have hleI : (ys.length : Int) ≤ (c10 : Int) := by omega
      refine AnyG.one (i := 7) (by kernel_rfl) rfl fun K hK => ?_
      go_wp2_with (fail)
      refine hK.out _ _ (fun _ => m10) ?_
      clear hK K
      refine AnyG.takeTo 80 (i := 8) (v := .pointer (some ⟨g + 1 + 1, 3, none⟩)) rfl rfl rfl (by kernel_rfl) (by kernel_rfl) (by kernel_rfl) (by kernel_rfl) (fun _ _ _ h => h) rfl m10 (fun Wz hW => by go_simp) ?_
      simp only [List.setIfInBounds_toArray, List.set_cons_zero, List.set_cons_succ]
      have cx := (hz10.x.cell 3).trans rfl
      have fx := hz10.x.frozen 3
      refine AnyG.one (i := 9) (by kernel_rfl) rfl fun K hK => ?_
      go_wp2_with (fail)
      refine hK.out _ _ (fun e => absurd rfl e) ?_
      clear hK K
      refine AnyG.done (by kernel_rfl) ?_ _
      have hyz : ∀ y ∈ ys, OpLent (w10.setCell ⟨g + 1 + 1, 3, none⟩ (.slice A10 ys.length c10)) w.heap.size y := fun y hy => ⟨row_put (HK10.out.own_kind (hNK (by decide)) (hk6.own (HYS.out y hy).d fun _ _ => id)) hz10.x (by decide), row_put (HK10.out.own_kind (hNK (by decide)) (hk6.own (HYS.out y hy).g fun _ _ => id)) hz10.x (by decide)⟩
      have HYSN := Lib.hid hyz
      have HRN1 := Lib.hid (row_put (i := 3) (u := .slice A10 ys.length c10) (HK10.out.own_kind (hNK (by decide)) (hk6.own HR1.out fun _ _ => id)) hz10.x (by decide))
      have HRN2 := Lib.hid (row_put (i := 3) (u := .slice A10 ys.length c10) (HK10.out.own_kind (hNK (by decide)) (hk6.own HR2.out fun _ _ => id)) hz10.x (by decide))
      have HRL := Lib.hid (row_put (i := 3) (u := .slice A10 ys.length c10) HO10.out hz10.x (by decide))
      have HZN := Lib.hid (hz10.put (by omega) (by omega) (by have := HG.out; omega) 3 (.slice A10 ys.length c10))
      have HSZN := Lib.hid (show w1.heap.size ≤ (w10.setCell ⟨g + 1 + 1, 3, none⟩ (.slice A10 ys.length c10)).heap.size by rw [World.size_setCell]; exact Nat.le_trans HSZ.out (Nat.le_trans hk6.size HK10.out.size))
      simp only [List.setIfInBounds_toArray, List.set_cons_zero, List.set_cons_succ] at HZN
      clear HZ hz6 hz10 HK10 HO10 HG10 hrow6 hk6 hw6 hcap hle hleI cx fx m3 m10 hS HSZ HR1 HR2 HROW HYS hyz hNK
      obtain ⟨wl, hwl⟩ : ∃ wl, w10.setCell ⟨g + 1 + 1, 3, none⟩ (.slice A10 ys.length c10) = wl := ⟨_, rfl⟩
      rw [hwl] at HZN HYSN HRN1 HRN2 HRL HSZN ⊢
      have HZ := HZN
      have HSZ := HSZN
      have HYS := HYSN
      clear hwl HZN HSZN HYSN
      have c4 : wl.cell? ⟨g, 4, none⟩ = some (.slice nA nodes.length nc) := (HZ.out.m.cell 4).trans rfl
      go_upto_region 13 with (fail)
      obtain ⟨w6, hw6⟩ : ∃ w6, wl.drew = w6 := ⟨_, rfl⟩
      have hk6 : Kept (fun _ => False) wl w6 := hw6 ▸ (Kept.refl _ _).drew
      refine wp_region_G (S := fun Wz => Wz.cell? ⟨g, 4, none⟩ = some (.slice nA nodes.length nc)) 12 (by kernel_rfl) c4 fun hS => ?_
      rw [hw6] at hS ⊢
      refine AnyG.takeTo 82 (i := 1) (v := .pointer (some ⟨g, 4, none⟩)) rfl rfl rfl (by kernel_rfl) (by kernel_rfl) (by kernel_rfl) (by kernel_rfl) (fun _ _ _ h => h) rfl hS (fun Wz hW => by go_simp) ?_
      simp only [List.setIfInBounds_toArray, List.set_cons_zero, List.set_cons_succ]
      refine AnyG.takeTo 83 (i := 2) (v := .slice nA nodes.length nc) rfl rfl rfl (by kernel_rfl) (by kernel_rfl) (by kernel_rfl) (by kernel_rfl) (fun _ _ _ h => h) rfl hS (fun Wz hW => by (have hc := hW; go_simp)) ?_
      simp only [List.setIfInBounds_toArray, List.set_cons_zero, List.set_cons_succ]
      refine AnyG.takeTo 85 (i := 4) (v := .agg #[.int .i64 0, .int .i64 0, .int .i64 0, .int .i64 0, .int .i32 0, .int .i64 906]) rfl rfl rfl (by kernel_rfl) (by kernel_rfl) (by kernel_rfl) (by kernel_rfl) (fun _ _ _ h => h) rfl hS (fun Wz hW => by go_simp) ?_
      simp only [List.setIfInBounds_toArray, List.set_cons_zero, List.set_cons_succ]
      refine AnyG.takeTo 88 (i := 7) (v := .pointer (some ⟨g, 4, none⟩)) rfl rfl rfl (by kernel_rfl) (by kernel_rfl) (by kernel_rfl) (by kernel_rfl) (fun _ _ _ h => h) rfl hS (fun Wz hW => by go_simp) ?_
      simp only [List.setIfInBounds_toArray, List.set_cons_zero, List.set_cons_succ]
      refine AnyG.takeTo 89 (i := 8) (v := .slice nA nodes.length nc) rfl rfl rfl (by kernel_rfl) (by kernel_rfl) (by kernel_rfl) (by kernel_rfl) (fun _ _ _ h => h) rfl hS (fun Wz hW => by (have hc := hW; go_simp)) ?_
      simp only [List.setIfInBounds_toArray, List.set_cons_zero, List.set_cons_succ]
      refine AnyG.takeTo 90 (i := 9) (v := .int .i64 nodes.length) rfl rfl rfl (by kernel_rfl) (by kernel_rfl) (by kernel_rfl) (by kernel_rfl) (fun _ _ _ h => h) rfl hS (fun Wz hW => by go_simp) ?_
      simp only [List.setIfInBounds_toArray, List.set_cons_zero, List.set_cons_succ]
      refine held_lent eltNds (i0 := 0) (i3 := 3) (i5 := 5) (i6 := 6) (s0 := 81) (s3 := 84) (s4 := 85) (s5 := 86) (s6 := 87) (sx := 83) (w0 := wl) (cs := (ndK : Nd).c) (A := nA) (n := nodes.length) (c := nc) (xs := nds nodes) rfl rfl rfl rfl rfl rfl rfl rfl rfl rfl (fun Q' a' W' hq => lit0_nd rfl rfl rfl hq) (fun Q' a' W' ha hq => lit1_nd rfl rfl _ rfl ndK (ha.trans rfl) hq) (by kernel_rfl) (by kernel_rfl) (by kernel_rfl) (by kernel_rfl) (by kernel_rfl) (by kernel_rfl) ⟨Nat.le_of_ble_eq_true rfl, Nat.le_of_ble_eq_true rfl, Nat.le_of_ble_eq_true rfl⟩ (by decide) rfl HNIL3.out (HSRC3.out _ HZ.out.k) (nds_len nodes) (nds_one nodes) rfl (by decide) (by omega) (fun W' hW => (hW.cellF c4)) hk6 ?_
      intro A3 c3 v0 v3 v5 w7 HO hk7
      simp only [Act.put, List.setIfInBounds_toArray, List.set_cons_zero, List.set_cons_succ]
      have hcap := (own_caps HO.out).1
      have hle : nodes.length ≤ c3 := by omega
      have hleI : (nodes.length : Int) ≤ (c3 : Int) := by omega
      refine AnyG.one (i := 10) (by kernel_rfl) rfl fun K hK => ?_
      go_wp2_with (fail)
      refine hK.out _ _ (fun _ => (hk7.cellF c4)) ?_
      clear hK K
      refine AnyG.takeTo 92 (i := 11) (v := .pointer (some ⟨g + 1 + 1, 4, none⟩)) rfl rfl rfl (by kernel_rfl) (by kernel_rfl) (by kernel_rfl) (by kernel_rfl) (fun _ _ _ h => h) rfl (hk7.cellF c4) (fun Wz hW => by go_simp) ?_
      simp only [List.setIfInBounds_toArray, List.set_cons_zero, List.set_cons_succ]
      have hz7 := HZ.out.fresh hk7
      have cx := (hz7.x.cell 4).trans rfl
      have fx := hz7.x.frozen 4
      refine AnyG.one (i := 12) (by kernel_rfl) rfl fun K hK => ?_
      go_wp2_with (fail)
      refine hK.out _ _ (fun e => absurd rfl e) ?_
      clear hK K
      refine AnyG.done (by kernel_rfl) ?_ _
      have HZN := Lib.hid (hz7.put (by omega) (by omega) (by have := HG.out; omega) 4 (.slice A3 nodes.length c3))
      have HRN3 := Lib.hid (own_base (row_put (i := 4) (u := .slice A3 nodes.length c3) HO.out hz7.x (by decide)) (Nat.le_trans HWB.out (show w1.heap.size ≤ wl.heap.size from HSZ.out)))
      have HSZN := Lib.hid (show w1.heap.size ≤ (w7.setCell ⟨g + 1 + 1, 4, none⟩ (.slice A3 nodes.length c3)).heap.size by rw [World.size_setCell]; exact Nat.le_trans HSZ.out hk7.size)
      have HRN1N := Lib.hid (row_put (i := 4) (u := .slice A3 nodes.length c3) (hk7.own HRN1.out fun _ _ => id) hz7.x (by decide))
      have HRN2N := Lib.hid (row_put (i := 4) (u := .slice A3 nodes.length c3) (hk7.own HRN2.out fun _ _ => id) hz7.x (by decide))
      have HRLN := Lib.hid (row_put (i := 4) (u := .slice A3 nodes.length c3) (hk7.own HRL.out fun _ _ => id) hz7.x (by decide))
      have HYSN := Lib.hid (show ∀ y ∈ ys, OpLent _ w.heap.size y from fun y hy => ⟨row_put (i := 4) (u := .slice A3 nodes.length c3) (hk7.own (HYS.out y hy).d fun _ _ => id) hz7.x (by decide), row_put (i := 4) (u := .slice A3 nodes.length c3) (hk7.own (HYS.out y hy).g fun _ _ => id) hz7.x (by decide)⟩)
      simp only [List.setIfInBounds_toArray, List.set_cons_zero, List.set_cons_succ] at HZN
      clear HZ hz7 hk7 HO hk6 hw6 hcap hle hleI cx fx c4 hS HSZ HRN1 HRN2 HRL HYS
      obtain ⟨wn3, hwn⟩ : ∃ wn, w7.setCell ⟨g + 1 + 1, 4, none⟩ (.slice A3 nodes.length c3) = wn := ⟨_, rfl⟩
      rw [hwn] at HZN HRN3 HSZN HRN1N HRN2N HRLN HYSN ⊢
      have HZ := HZN
      have HSZ := HSZN
      have HRN1 := HRN1N
      have HRN2 := HRN2N
      have HRL := HRLN
      have HYS := HYSN
      clear hwn HZN HSZN HRN1N HRN2N HRLN HYSN
      have c5 : wn3.cell? ⟨g, 5, none⟩ = some (.slice jA joined.length jc) := (HZ.out.m.cell 5).trans rfl
      go_upto_region 14 with (fail)
      obtain ⟨w6, hw6⟩ : ∃ w6, wn3.drew = w6 := ⟨_, rfl⟩
      have hk6 : Kept (fun _ => False) wn3 w6 := hw6 ▸ (Kept.refl _ _).drew
      refine wp_region_G (S := fun Wz => Wz.cell? ⟨g, 5, none⟩ = some (.slice jA joined.length jc)) 11 (by kernel_rfl) c5 fun hS => ?_
      rw [hw6] at hS ⊢
      refine AnyG.takeTo 94 (i := 1) (v := .pointer (some ⟨g, 5, none⟩)) rfl rfl rfl (by kernel_rfl) (by kernel_rfl) (by kernel_rfl) (by kernel_rfl) (fun _ _ _ h => h) rfl hS (fun Wz hW => by go_simp) ?_
      simp only [List.setIfInBounds_toArray, List.set_cons_zero, List.set_cons_succ]
      refine AnyG.takeTo 95 (i := 2) (v := .slice jA joined.length jc) rfl rfl rfl (by kernel_rfl) (by kernel_rfl) (by kernel_rfl) (by kernel_rfl) (fun _ _ _ h => h) rfl hS (fun Wz hW => by (have hc := hW; go_simp)) ?_
      simp only [List.setIfInBounds_toArray, List.set_cons_zero, List.set_cons_succ]
      refine AnyG.takeTo 99 (i := 6) (v := .pointer (some ⟨g, 5, none⟩)) rfl rfl rfl (by kernel_rfl) (by kernel_rfl) (by kernel_rfl) (by kernel_rfl) (fun _ _ _ h => h) rfl hS (fun Wz hW => by go_simp) ?_
      simp only [List.setIfInBounds_toArray, List.set_cons_zero, List.set_cons_succ]
      refine AnyG.takeTo 100 (i := 7) (v := .slice jA joined.length jc) rfl rfl rfl (by kernel_rfl) (by kernel_rfl) (by kernel_rfl) (by kernel_rfl) (fun _ _ _ h => h) rfl hS (fun Wz hW => by (have hc := hW; go_simp)) ?_
      simp only [List.setIfInBounds_toArray, List.set_cons_zero, List.set_cons_succ]
      refine AnyG.takeTo 101 (i := 8) (v := .int .i64 joined.length) rfl rfl rfl (by kernel_rfl) (by kernel_rfl) (by kernel_rfl) (by kernel_rfl) (fun _ _ _ h => h) rfl hS (fun Wz hW => by go_simp) ?_
      simp only [List.setIfInBounds_toArray, List.set_cons_zero, List.set_cons_succ]
      refine held_lent eltInts (i0 := 0) (i3 := 3) (i5 := 4) (i6 := 5) (s0 := 93) (s3 := 96) (s4 := 94) (s5 := 97) (s6 := 98) (sx := 95) (w0 := wn3) (cs := #[.int .i64 907]) (A := jA) (n := joined.length) (c := jc) (xs := ints joined) rfl rfl rfl rfl rfl rfl rfl rfl rfl rfl (fun Q' a' W' hq => lit0_int rfl rfl rfl hq) (fun Q' a' W' _ hq => lit1_int rfl rfl 907 rfl hq) (by kernel_rfl) (by kernel_rfl) (by kernel_rfl) (by kernel_rfl) (by kernel_rfl) (by kernel_rfl) ⟨Nat.le_of_ble_eq_true rfl, Nat.le_of_ble_eq_true rfl, Nat.le_of_ble_eq_true rfl⟩ (by decide) rfl HNIL4.out (HSRC4.out _ HZ.out.k) (by rw [ints_len, Nat.mul_one]) (ints_one joined) rfl (by decide) (by omega) (fun W' hW => (hW.cellF c5)) hk6 ?_
      intro A4 c4 v0 v3 v5 w7 HO hk7
      simp only [Act.put, List.setIfInBounds_toArray, List.set_cons_zero, List.set_cons_succ]
      have hcap := (own_caps HO.out).1
      have hle : joined.length ≤ c4 := by omega
      have hleI : (joined.length : Int) ≤ (c4 : Int) := by omega
      refine AnyG.one (i := 9) (by kernel_rfl) rfl fun K hK => ?_
      go_wp2_with (fail)
      refine hK.out _ _ (fun _ => (hk7.cellF c5)) ?_
      clear hK K
      refine AnyG.takeTo 103 (i := 10) (v := .pointer (some ⟨g + 1 + 1, 5, none⟩)) rfl rfl rfl (by kernel_rfl) (by kernel_rfl) (by kernel_rfl) (by kernel_rfl) (fun _ _ _ h => h) rfl (hk7.cellF c5) (fun Wz hW => by go_simp) ?_
      simp only [List.setIfInBounds_toArray, List.set_cons_zero, List.set_cons_succ]
      have hz7 := HZ.out.fresh hk7
      have cx := (hz7.x.cell 5).trans rfl
      have fx := hz7.x.frozen 5
      refine AnyG.one (i := 11) (by kernel_rfl) rfl fun K hK => ?_
      go_wp2_with (fail)
      refine hK.out _ _ (fun e => absurd rfl e) ?_
      clear hK K
      refine AnyG.done (by kernel_rfl) ?_ _
      have HZN := Lib.hid (hz7.put (by omega) (by omega) (by have := HG.out; omega) 5 (.slice A4 joined.length c4))
      have HRN4 := Lib.hid (own_base (row_put (i := 5) (u := .slice A4 joined.length c4) HO.out hz7.x (by decide)) (Nat.le_trans HWB.out (show w1.heap.size ≤ wn3.heap.size from HSZ.out)))
      have HSZN := Lib.hid (show w1.heap.size ≤ (w7.setCell ⟨g + 1 + 1, 5, none⟩ (.slice A4 joined.length c4)).heap.size by rw [World.size_setCell]; exact Nat.le_trans HSZ.out hk7.size)
      have HRN1N := Lib.hid (row_put (i := 5) (u := .slice A4 joined.length c4) (hk7.own HRN1.out fun _ _ => id) hz7.x (by decide))
      have HRN2N := Lib.hid (row_put (i := 5) (u := .slice A4 joined.length c4) (hk7.own HRN2.out fun _ _ => id) hz7.x (by decide))
      have HRLN := Lib.hid (row_put (i := 5) (u := .slice A4 joined.length c4) (hk7.own HRL.out fun _ _ => id) hz7.x (by decide))
      have HYSN := Lib.hid (show ∀ y ∈ ys, OpLent _ w.heap.size y from fun y hy => ⟨row_put (i := 5) (u := .slice A4 joined.length c4) (hk7.own (HYS.out y hy).d fun _ _ => id) hz7.x (by decide), row_put (i := 5) (u := .slice A4 joined.length c4) (hk7.own (HYS.out y hy).g fun _ _ => id) hz7.x (by decide)⟩)
      have HRN3N := Lib.hid (row_put (i := 5) (u := .slice A4 joined.length c4) (hk7.own HRN3.out fun _ _ => id) hz7.x (by decide))
      simp only [List.setIfInBounds_toArray, List.set_cons_zero, List.set_cons_succ] at HZN
      clear HZ hz7 hk7 HO hk6 hw6 hcap hle hleI cx fx c5 hS HSZ HRN1 HRN2 HRL HYS HRN3
      obtain ⟨wn4, hwn⟩ : ∃ wn, w7.setCell ⟨g + 1 + 1, 5, none⟩ (.slice A4 joined.length c4) = wn := ⟨_, rfl⟩
      rw [hwn] at HZN HRN4 HSZN HRN1N HRN2N HRLN HYSN HRN3N ⊢
      have HZ := HZN
      have HSZ := HSZN
      have HRN1 := HRN1N
      have HRN2 := HRN2N
      have HRL := HRLN
      have HYS := HYSN
      have HRN3 := HRN3N
      clear hwn HZN HSZN HRN1N HRN2N HRLN HYSN HRN3N
      have c6 : wn4.cell? ⟨g, 6, none⟩ = some (.slice eA left.length ec) := (HZ.out.m.cell 6).trans rfl
      go_upto_region 15 with (fail)
      obtain ⟨w6, hw6⟩ : ∃ w6, wn4.drew = w6 := ⟨_, rfl⟩
      have hk6 : Kept (fun _ => False) wn4 w6 := hw6 ▸ (Kept.refl _ _).drew
      refine wp_region_G (S := fun Wz => Wz.cell? ⟨g, 6, none⟩ = some (.slice eA left.length ec)) 11 (by kernel_rfl) c6 fun hS => ?_
      rw [hw6] at hS ⊢
      refine AnyG.takeTo 105 (i := 1) (v := .pointer (some ⟨g, 6, none⟩)) rfl rfl rfl (by kernel_rfl) (by kernel_rfl) (by kernel_rfl) (by kernel_rfl) (fun _ _ _ h => h) rfl hS (fun Wz hW => by go_simp) ?_
      simp only [List.setIfInBounds_toArray, List.set_cons_zero, List.set_cons_succ]
      refine AnyG.takeTo 106 (i := 2) (v := .slice eA left.length ec) rfl rfl rfl (by kernel_rfl) (by kernel_rfl) (by kernel_rfl) (by kernel_rfl) (fun _ _ _ h => h) rfl hS (fun Wz hW => by (have hc := hW; go_simp)) ?_
      simp only [List.setIfInBounds_toArray, List.set_cons_zero, List.set_cons_succ]
      refine AnyG.takeTo 110 (i := 6) (v := .pointer (some ⟨g, 6, none⟩)) rfl rfl rfl (by kernel_rfl) (by kernel_rfl) (by kernel_rfl) (by kernel_rfl) (fun _ _ _ h => h) rfl hS (fun Wz hW => by go_simp) ?_
      simp only [List.setIfInBounds_toArray, List.set_cons_zero, List.set_cons_succ]
      refine AnyG.takeTo 111 (i := 7) (v := .slice eA left.length ec) rfl rfl rfl (by kernel_rfl) (by kernel_rfl) (by kernel_rfl) (by kernel_rfl) (fun _ _ _ h => h) rfl hS (fun Wz hW => by (have hc := hW; go_simp)) ?_
      simp only [List.setIfInBounds_toArray, List.set_cons_zero, List.set_cons_succ]
      refine AnyG.takeTo 112 (i := 8) (v := .int .i64 left.length) rfl rfl rfl (by kernel_rfl) (by kernel_rfl) (by kernel_rfl) (by kernel_rfl) (fun _ _ _ h => h) rfl hS (fun Wz hW => by go_simp) ?_
      simp only [List.setIfInBounds_toArray, List.set_cons_zero, List.set_cons_succ]
      refine held_lent eltInts (i0 := 0) (i3 := 3) (i5 := 4) (i6 := 5) (s0 := 104) (s3 := 107) (s4 := 105) (s5 := 108) (s6 := 109) (sx := 106) (w0 := wn4) (cs := #[.int .i64 908]) (A := eA) (n := left.length) (c := ec) (xs := ints left) rfl rfl rfl rfl rfl rfl rfl rfl rfl rfl (fun Q' a' W' hq => lit0_int rfl rfl rfl hq) (fun Q' a' W' _ hq => lit1_int rfl rfl 908 rfl hq) (by kernel_rfl) (by kernel_rfl) (by kernel_rfl) (by kernel_rfl) (by kernel_rfl) (by kernel_rfl) ⟨Nat.le_of_ble_eq_true rfl, Nat.le_of_ble_eq_true rfl, Nat.le_of_ble_eq_true rfl⟩ (by decide) rfl HNIL5.out (HSRC5.out _ HZ.out.k) (by rw [ints_len, Nat.mul_one]) (ints_one left) rfl (by decide) (by omega) (fun W' hW => (hW.cellF c6)) hk6 ?_
      intro A5 c5 v0 v3 v5 w7 HO hk7
      simp only [Act.put, List.setIfInBounds_toArray, List.set_cons_zero, List.set_cons_succ]
      have hcap := (own_caps HO.out).1
      have hle : left.length ≤ c5 := by omega
      have hleI : (left.length : Int) ≤ (c5 : Int) := by omega
      refine AnyG.one (i := 9) (by kernel_rfl) rfl fun K hK => ?_
      go_wp2_with (fail)
      refine hK.out _ _ (fun _ => (hk7.cellF c6)) ?_
      clear hK K
      refine AnyG.takeTo 114 (i := 10) (v := .pointer (some ⟨g + 1 + 1, 6, none⟩)) rfl rfl rfl (by kernel_rfl) (by kernel_rfl) (by kernel_rfl) (by kernel_rfl) (fun _ _ _ h => h) rfl (hk7.cellF c6) (fun Wz hW => by go_simp) ?_
      simp only [List.setIfInBounds_toArray, List.set_cons_zero, List.set_cons_succ]
      have hz7 := HZ.out.fresh hk7
      have cx := (hz7.x.cell 6).trans rfl
      have fx := hz7.x.frozen 6
      refine AnyG.one (i := 11) (by kernel_rfl) rfl fun K hK => ?_
      go_wp2_with (fail)
      refine hK.out _ _ (fun e => absurd rfl e) ?_
      clear hK K
      refine AnyG.done (by kernel_rfl) ?_ _
      have HZN := Lib.hid (hz7.put (by omega) (by omega) (by have := HG.out; omega) 6 (.slice A5 left.length c5))
      have HRN5 := Lib.hid (own_base (row_put (i := 6) (u := .slice A5 left.length c5) HO.out hz7.x (by decide)) (Nat.le_trans HWB.out (show w1.heap.size ≤ wn4.heap.size from HSZ.out)))
      have HSZN := Lib.hid (show w1.heap.size ≤ (w7.setCell ⟨g + 1 + 1, 6, none⟩ (.slice A5 left.length c5)).heap.size by rw [World.size_setCell]; exact Nat.le_trans HSZ.out hk7.size)
      have HRN1N := Lib.hid (row_put (i := 6) (u := .slice A5 left.length c5) (hk7.own HRN1.out fun _ _ => id) hz7.x (by decide))
      have HRN2N := Lib.hid (row_put (i := 6) (u := .slice A5 left.length c5) (hk7.own HRN2.out fun _ _ => id) hz7.x (by decide))
      have HRLN := Lib.hid (row_put (i := 6) (u := .slice A5 left.length c5) (hk7.own HRL.out fun _ _ => id) hz7.x (by decide))
      have HYSN := Lib.hid (show ∀ y ∈ ys, OpLent _ w.heap.size y from fun y hy => ⟨row_put (i := 6) (u := .slice A5 left.length c5) (hk7.own (HYS.out y hy).d fun _ _ => id) hz7.x (by decide), row_put (i := 6) (u := .slice A5 left.length c5) (hk7.own (HYS.out y hy).g fun _ _ => id) hz7.x (by decide)⟩)
      have HRN3N := Lib.hid (row_put (i := 6) (u := .slice A5 left.length c5) (hk7.own HRN3.out fun _ _ => id) hz7.x (by decide))
      have HRN4N := Lib.hid (row_put (i := 6) (u := .slice A5 left.length c5) (hk7.own HRN4.out fun _ _ => id) hz7.x (by decide))
      simp only [List.setIfInBounds_toArray, List.set_cons_zero, List.set_cons_succ] at HZN
      clear HZ hz7 hk7 HO hk6 hw6 hcap hle hleI cx fx c6 hS HSZ HRN1 HRN2 HRL HYS HRN3 HRN4
      obtain ⟨wn5, hwn⟩ : ∃ wn, w7.setCell ⟨g + 1 + 1, 6, none⟩ (.slice A5 left.length c5) = wn := ⟨_, rfl⟩
      rw [hwn] at HZN HRN5 HSZN HRN1N HRN2N HRLN HYSN HRN3N HRN4N ⊢
      have HZ := HZN
      have HSZ := HSZN
      have HRN1 := HRN1N
      have HRN2 := HRN2N
      have HRL := HRLN
      have HYS := HYSN
      have HRN3 := HRN3N
      have HRN4 := HRN4N
      clear hwn HZN HSZN HRN1N HRN2N HRLN HYSN HRN3N HRN4N
      go_wp2_with (first | (refine wpList_load_im rfl _ rfl (g + 1 + 1) rfl _ rfl HZ.out.x ?_) | (refine wpList_store_box rfl 28 _ _ rfl (g + 1) #[.slice A1 v.length c1, .slice A2 b.length c2, .int .i64 clock, .slice A10 ys.length c10, .slice A3 nodes.length c3, .slice A4 joined.length c4, .slice A5 left.length c5, .int .i64 epoch] rfl rfl 28 _ HZ.out.r (size_im.trans rfl) rfl (im_one ⟨v, A1, c1, b, A2, c2, clock, ys, A10, c10, nodes, A3, c3, joined, A4, c4, left, A5, c5, epoch⟩) ?_; intro w20 HRB hk20))
      have HKF := Lib.hid (HZ.out.k.trans hk20 fun k hk e => by have := HG.out; omega)
      have hr20 : ∀ {e : TypeId} {b s n : Nat} {v : Value} {xs : List Value}, e ≠ 28 → wn5.ownsRow b e s v n xs → w20.ownsRow b e s v n xs := fun hne hr => hk20.own hr fun k e1 e2 => own_box_ne hr HZ.out.r hne (by rw [e1, e2])
      refine bodyPost_ret (results_cell_row rfl _ _ (g + 1) 28 #[.slice A1 v.length c1, .slice A2 b.length c2, .int .i64 clock, .slice A10 ys.length c10, .slice A3 nodes.length c3, .slice A4 joined.length c4, .slice A5 left.length c5, .int .i64 epoch] (0, 0) _ rfl HRB.out Tryz.underlying28 rfl (size_im.trans rfl)) rfl ?_
      exact ⟨⟨v, A1, c1, b, A2, c2, clock, ys, A10, c10, nodes, A3, c3, joined, A4, c4, left, A5, c5, epoch⟩, rfl, ⟨rfl, rfl, rfl, HYM2.out, rfl, rfl, rfl, rfl, hr20 (by decide) HRN1.out, hr20 (by decide) HRN2.out, hr20 (by decide) HRL.out, fun y hy => ⟨hr20 (by decide) (HYS.out y hy).d, hr20 (by decide) (HYS.out y hy).g⟩, hr20 (by decide) HRN3.out, hr20 (by decide) HRN4.out, hr20 (by decide) HRN5.out⟩, HKF.out⟩
end Go.Proofs.YtnajbkccaclkcaaGreat

namespace Go.Proofs.YtnajbkccaclkcaaGreat
open Go Go.RowKit

set_option maxHeartbeats 1600000 in
theorem Bytes9_any (A B : Option Addr) (l m : List Int) (c d : Nat) (w : World) (hl : BytesAt w A l) (hm : BytesAt w B m) (hlen : l.length ≤ 4611686018427387904) :
    Calls Tryz.prog 24 #[.slice A l.length c, .slice B m.length d] w (SamePost w (decide (l = m))) := by
  by_cases hn : l.length = m.length
  · have HL := Lib.hid hl
    have HM := Lib.hid hm
    clear hl hm
    obtain ⟨b, hb⟩ : ∃ b, decide (l = m) = b := ⟨_, rfl⟩
    rw [hb, ← hn]
    have HN := Lib.hid hn
    have HBB := Lib.hid hb
    clear hn hb
    go_enter Tryz.func24, Tryz.ntmps24
    go_wp2_with (fail)
    go_loopw [5] (fun i wr => ∃ k : Nat, i = .int .i64 k ∧ k ≤ l.length ∧ l.take k = m.take k ∧ Kept (fun _ => False) w wr) (fun i _ => l.length - (intOf i).toNat)
    case atStart => exact ⟨0, rfl, Nat.zero_le _, rfl, Kept.refl _ _⟩
    case round =>
      obtain ⟨k, rfl, hk, hat, hkk⟩ := hrel
      have HK := Lib.hid hkk
      have HAT := Lib.hid hat
      by_cases hlt : k < l.length
      · obtain ⟨ad, rfl, x0⟩ := HL.out.fresh hkk k hlt
        obtain ⟨ad', rfl, y0⟩ := HM.out.fresh hkk k (by rw [← HN.out]; exact hlt)
        generalize hd : l[k] = d1 at x0
        generalize hd' : m[k]'(by rw [← HN.out]; exact hlt) = d2 at y0
        have HD := Lib.hid hd
        have HD' := Lib.hid hd'
        clear hd hd' hkk hat
        by_cases he : d1 = d2
        · have hx : (d1 != d2) = false := by simp [he]
          have HE := Lib.hid he
          clear he
          go_wp2_with (fail)
          go_quiet (fail)
          go_wp2
          go_roundw
          case rel =>
            refine ⟨k + 1, by go_num, by omega, ?_, HK.out.trans (Kept.drewN_eq nq) fun _ _ e => e⟩
            have hm' : k < m.length := by rw [← HN.out]; exact hlt
            rw [List.take_succ_eq_append_getElem hlt, List.take_succ_eq_append_getElem hm', HAT.out, HD.out, HD'.out, HE.out]
          case measure => simp [intOf]; omega
        · have hx : (d1 != d2) = true := by simp [he]
          have HE := Lib.hid he
          clear he
          go_wp2_with (fail)
          go_quiet (fail)
          go_wp2
          go_ret
          refine ⟨?_, HK.out.trans (Kept.drewN_eq nq) fun _ _ e => e⟩
          rw [← HBB.out]
          refine (ret_bool (decide_eq_false fun e => HE.out ?_)).symm
          subst e
          exact HD.out.symm.trans HD'.out
      · obtain rfl : k = l.length := by omega
        have hkk' := HK.out
        clear hat hkk
        go_wp2
        go_ret
        refine ⟨?_, hkk'⟩
        rw [← HBB.out]
        refine (ret_bool (decide_eq_true ?_)).symm
        have := HAT.out
        rwa [List.take_length, HN.out, List.take_length] at this
  · have hn' : (l.length : Int) ≠ m.length := by omega
    have hb : decide (l = m) = false := decide_eq_false fun e => hn (by rw [e])
    rw [hb]
    generalize l.length = p at *
    generalize m.length = q at *
    clear hb hl hm
    go_enter Tryz.func24, Tryz.ntmps24
    go_wp2
    go_ret
    exact ⟨rfl, Kept.refl _ _⟩

set_option maxRecDepth 100000 in
set_option maxHeartbeats 1600000 in
theorem ints9_true (A B : Option Addr) (l : List Int) (c d : Nat) (w : World) (hl : CellsAt w A (ints l)) (hm : CellsAt w B (ints l)) (hn : l.length ≤ 1000000) : Calls Tryz.prog 50 #[.slice A l.length c, .slice B l.length d] w (SamePost w true) := by
  have HL := Lib.hid hl
  have HM := Lib.hid hm
  obtain ⟨N, hN⟩ : ∃ N, l.length = N := ⟨_, rfl⟩
  rw [hN] at hn ⊢
  have HN := Lib.hid hN
  clear hl hm hN
  go_enter Tryz.func50, Tryz.ntmps50
  go_wp2_with (fail)
  go_loopw [5] (fun i wr => ∃ k : Nat, i = .int .i64 k ∧ k ≤ N ∧ Kept (fun _ => False) w wr) (fun i _ => N - (intOf i).toNat)
  case atStart => exact ⟨0, rfl, Nat.zero_le _, Kept.refl _ _⟩
  case round =>
    obtain ⟨k, rfl, hk, hkw⟩ := hrel
    have HKW := Lib.hid hkw
    clear hkw
    by_cases hlt : k < N
    · as_aux_lemma =>
      have hin : (k : Int) < (N : Int) := by omega
      have hkl : k < l.length := by rw [HN.out]; exact hlt
      obtain ⟨b, f, rfl, hc⟩ := ints_cell HL.out (by omega)
      obtain ⟨b', f', rfl, hc'⟩ := ints_cell HM.out (by omega)
      have x0 := HKW.out.cellF (hc k hkl)
      have y0 := HKW.out.cellF (hc' k hkl)
      obtain ⟨x, hx⟩ : ∃ x, l[k] = x := ⟨_, rfl⟩
      rw [hx] at x0 y0
      clear hc hc' hx
      go_upto_region 6 with (fail)
      go_quiet (fail)
      go_wp2_with (fail)
      go_roundw
      case rel => exact ⟨k + 1, by go_num, by omega, HKW.out.drewN nq⟩
      case measure => simp [intOf]; omega
    · as_aux_lemma =>
      have hin : ¬ (k : Int) < (N : Int) := by omega
      go_wp2_with (fail)
      go_ret
      exact ⟨rfl, HKW.out⟩

set_option maxRecDepth 100000 in
set_option maxHeartbeats 4000000 in
theorem op9_true (x y : Lop) (w : World) (hx : x.At w) (hy : y.At w) (hxy : y.o = x.o) (hs : x.o.Small) : Calls Tryz.prog 51 #[.agg x.c, .agg y.c] w (SamePost w true) := by
  obtain ⟨o, dA, dc, gA, gc⟩ := x
  obtain ⟨o', dB, dd, gB, gd⟩ := y
  simp only at hxy
  subst hxy
  obtain ⟨⟨ds, dq⟩, deps, kind, ⟨it, is⟩, ⟨rt, rs⟩, text, gone, site⟩ := o'
  have hgl := hs.gl
  have hdl := hs.dl
  have HSD := Lib.hid (fun W (hW : Kept (fun _ => False) w W) => Same_any dA dB deps deps dc dd W (hx.d.fresh hW) (hy.d.fresh hW) (by simp only at hdl; omega))
  rw [decide_eq_true rfl] at HSD
  have HGX := Lib.hid hx.g
  have HGY := Lib.hid hy.g
  unfold Lop.c Opr.cells
  simp only at hgl hdl HSD HGX HGY ⊢
  have hk : Kept (fun _ => False) w ((w.alloc (.cells #[.int .i64 ds, .int .i64 dq, .slice dA deps.length dc, .int .i64 kind, .int .i64 it, .int .i64 is, .int .i64 rt, .int .i64 rs, .string text, .slice gA gone.length gc, .int .i64 site] 64)).alloc (.cells #[.int .i64 ds, .int .i64 dq, .slice dB deps.length dd, .int .i64 kind, .int .i64 it, .int .i64 is, .int .i64 rt, .int .i64 rs, .string text, .slice gB gone.length gd, .int .i64 site] 64)) := ((Kept.refl _ _).alloc _).alloc _
  have hb1 := (Box.new w 64 #[.int .i64 ds, .int .i64 dq, .slice dA deps.length dc, .int .i64 kind, .int .i64 it, .int .i64 is, .int .i64 rt, .int .i64 rs, .string text, .slice gA gone.length gc, .int .i64 site]).alloc (.cells #[.int .i64 ds, .int .i64 dq, .slice dB deps.length dd, .int .i64 kind, .int .i64 it, .int .i64 is, .int .i64 rt, .int .i64 rs, .string text, .slice gB gone.length gd, .int .i64 site] 64)
  have hb2 := Box.new (w.alloc (.cells #[.int .i64 ds, .int .i64 dq, .slice dA deps.length dc, .int .i64 kind, .int .i64 it, .int .i64 is, .int .i64 rt, .int .i64 rs, .string text, .slice gA gone.length gc, .int .i64 site] 64)) 64 #[.int .i64 ds, .int .i64 dq, .slice dB deps.length dd, .int .i64 kind, .int .i64 it, .int .i64 is, .int .i64 rt, .int .i64 rs, .string text, .slice gB gone.length gd, .int .i64 site]
  rw [World.size_alloc] at hb2
  go_enter Tryz.func51, Tryz.ntmps51
  go_upto_region 1 with (fail)
  generalize (w.alloc (.cells #[.int .i64 ds, .int .i64 dq, .slice dA deps.length dc, .int .i64 kind, .int .i64 it, .int .i64 is, .int .i64 rt, .int .i64 rs, .string text, .slice gA gone.length gc, .int .i64 site] 64)).alloc (.cells #[.int .i64 ds, .int .i64 dq, .slice dB deps.length dd, .int .i64 kind, .int .i64 it, .int .i64 is, .int .i64 rt, .int .i64 rs, .string text, .slice gB gone.length gd, .int .i64 site] 64) = w1 at hk hb1 hb2 ⊢
  obtain ⟨g, hg⟩ : ∃ g, w.heap.size = g := ⟨_, rfl⟩
  rw [hg] at hb1 hb2 ⊢
  have HB1 := Lib.hid hb1
  have HB2 := Lib.hid hb2
  have HK := Lib.hid hk
  have x0 : w1.cell? ⟨g, 0, none⟩ = some (.int .i64 ds) := by simpa using hb1.cell 0
  have x1 : w1.cell? ⟨g, 1, none⟩ = some (.int .i64 dq) := by simpa using hb1.cell 1
  have x2 : w1.cell? ⟨g, 2, none⟩ = some (.slice dA deps.length dc) := by simpa using hb1.cell 2
  have x3 : w1.cell? ⟨g, 3, none⟩ = some (.int .i64 kind) := by simpa using hb1.cell 3
  have x4 : w1.cell? ⟨g, 4, none⟩ = some (.int .i64 it) := by simpa using hb1.cell 4
  have x5 : w1.cell? ⟨g, 5, none⟩ = some (.int .i64 is) := by simpa using hb1.cell 5
  have x6 : w1.cell? ⟨g, 6, none⟩ = some (.int .i64 rt) := by simpa using hb1.cell 6
  have x7 : w1.cell? ⟨g, 7, none⟩ = some (.int .i64 rs) := by simpa using hb1.cell 7
  have x8 : w1.cell? ⟨g, 8, none⟩ = some (.string text) := by simpa using hb1.cell 8
  have x9 : w1.cell? ⟨g, 9, none⟩ = some (.slice gA gone.length gc) := by simpa using hb1.cell 9
  have x10 : w1.cell? ⟨g, 10, none⟩ = some (.int .i64 site) := by simpa using hb1.cell 10
  have y0 : w1.cell? ⟨g + 1, 0, none⟩ = some (.int .i64 ds) := by simpa using hb2.cell 0
  have y1 : w1.cell? ⟨g + 1, 1, none⟩ = some (.int .i64 dq) := by simpa using hb2.cell 1
  have y2 : w1.cell? ⟨g + 1, 2, none⟩ = some (.slice dB deps.length dd) := by simpa using hb2.cell 2
  have y3 : w1.cell? ⟨g + 1, 3, none⟩ = some (.int .i64 kind) := by simpa using hb2.cell 3
  have y4 : w1.cell? ⟨g + 1, 4, none⟩ = some (.int .i64 it) := by simpa using hb2.cell 4
  have y5 : w1.cell? ⟨g + 1, 5, none⟩ = some (.int .i64 is) := by simpa using hb2.cell 5
  have y6 : w1.cell? ⟨g + 1, 6, none⟩ = some (.int .i64 rt) := by simpa using hb2.cell 6
  have y7 : w1.cell? ⟨g + 1, 7, none⟩ = some (.int .i64 rs) := by simpa using hb2.cell 7
  have y8 : w1.cell? ⟨g + 1, 8, none⟩ = some (.string text) := by simpa using hb2.cell 8
  have y9 : w1.cell? ⟨g + 1, 9, none⟩ = some (.slice gB gone.length gd) := by simpa using hb2.cell 9
  have y10 : w1.cell? ⟨g + 1, 10, none⟩ = some (.int .i64 site) := by simpa using hb2.cell 10
  have aD := Tryz.isAgg59
  have zD := Tryz.sizeOf59
  have aI := Tryz.isAgg61
  have zI := Tryz.sizeOf61
  clear hb1 hb2 hk hg hx hy hs
  go_wp2_with (fail)
  refine (HSD.out _ HK.out).mono ?_
  unfold SamePost
  rintro r w2 ⟨rfl, hk2⟩
  have HK2 := Lib.hid hk2
  clear x0 x1 x2 x3 x4 x5 x6 x7 x8 x9 x10 y0 y1 y2 y3 y4 y5 y6 y7 y8 y9 y10 hk2
  obtain ⟨N, hN⟩ : ∃ N, gone.length = N := ⟨_, rfl⟩
  rw [hN] at hgl HB1 HB2 ⊢
  have HN := Lib.hid hN
  clear hN
  go_wp2_with (fail)
  go_loopw [5] (fun i wr => ∃ k : Nat, i = .int .i64 k ∧ k ≤ N ∧ Kept (fun _ => False) w1 wr) (fun i _ => N - (intOf i).toNat)
  case atStart => exact ⟨0, rfl, Nat.zero_le _, HK2.out⟩
  case round =>
    obtain ⟨k, rfl, hk, hkw⟩ := hrel
    have HKW := Lib.hid hkw
    have x9 : wr.cell? ⟨g, 9, none⟩ = some (.slice gA N gc) := by simpa using (HB1.out.kept hkw id).cell 9
    have y9 : wr.cell? ⟨g + 1, 9, none⟩ = some (.slice gB N gd) := by simpa using (HB2.out.kept hkw id).cell 9
    clear hkw
    by_cases hlt : k < N
    · as_aux_lemma =>
      have hin : (k : Int) < (N : Int) := by omega
      have hkl : k < gone.length := by rw [HN.out]; exact hlt
      obtain ⟨b, f, hA, hc⟩ := (show CellsAt w gA (runs gone) from HGX.out.cells).some_ (by rw [runs_len]; omega)
      obtain ⟨b', f', hB, hc'⟩ := (show CellsAt w gB (runs gone) from HGY.out.cells).some_ (by rw [runs_len]; omega)
      subst hA hB
      obtain ⟨r0, r1, r2⟩ := runs_get gone k hkl
      obtain ⟨x, hx⟩ : ∃ x, gone[k] = x := ⟨_, rfl⟩
      rw [hx] at r0 r1 r2
      obtain ⟨⟨t0, t1⟩, t2⟩ := x
      have a0 := HKW.out.cellF (HK.out.cellF (hc _ _ r0))
      have a1 := HKW.out.cellF (HK.out.cellF (hc _ _ r1))
      have a2 := HKW.out.cellF (HK.out.cellF (hc _ _ r2))
      have b0 := HKW.out.cellF (HK.out.cellF (hc' _ _ r0))
      have b1 := HKW.out.cellF (HK.out.cellF (hc' _ _ r1))
      have b2 := HKW.out.cellF (HK.out.cellF (hc' _ _ r2))
      rw [← Nat.add_assoc] at a1 a2 b1 b2
      simp only at a0 a1 a2 b0 b1 b2
      have aR := Tryz.isAgg68
      have zR := Tryz.sizeOf68
      clear r0 r1 r2 hx hc hc'
      go_upto_region 6 with (fail)
      go_quiet (fail)
      go_wp2_with (fail)
      go_roundw
      case rel => exact ⟨k + 1, by go_num, by omega, HKW.out.drewN nq⟩
      case measure => simp [intOf]; omega
    · as_aux_lemma =>
      have hin : ¬ (k : Int) < (N : Int) := by omega
      go_wp2_with (fail)
      go_ret
      exact ⟨rfl, HK.out.trans HKW.out fun _ _ e => e⟩
end Go.Proofs.YtnajbkccaclkcaaGreat

namespace Go.Proofs.YtnajbkccaclkcaaGreat
open Go Go.RowKit

theorem addE_zero9 {l : List Dt} {d : Dt} (h1 : 1 ≤ d.site) (h2 : d.site ≤ 16) (h3 : 1 ≤ d.seq) (h4 : d.seq ≤ 2147483647) : addE l d = 0 ↔ getV l d.site = d.seq - 1 := by
  have hs : siteB d.site = true := by simp [siteB]; exact ⟨h1, h2⟩
  unfold addE
  rw [if_neg (by simp [hs]; omega), if_neg (by omega)]
  by_cases e : d.seq ≠ getV l d.site + 1
  · rw [if_pos e]
    constructor
    · intro h; simp at h
    · intro h; omega
  · rw [if_neg e]
    constructor
    · intro _; omega
    · intro _; rfl
/-- Why an operation does not come next behind a vector (the reference's words). -/
def followsE (v : List Dt) (o : Opr) : Int := if opE o ≠ 0 then opE o else if (!coversR (says v) (says o.deps) || decide (getV v o.dot.site ≠ o.dot.seq - 1)) = true then 9 else 0
theorem step_follows (clock : Int) (v : List Dt) (o : Opr) : stepE clock v o = if followsE v o ≠ 0 then followsE v o else if clock < lastO o then 9 else 0 := by
  unfold stepE followsE
  by_cases h : okOp o = true
  · have f := okOp_f h
    have h0 : opE o = 0 := by unfold opE; rw [if_pos h]
    have hz := addE_zero9 (l := v) f.s1 f.s2 f.q1 f.q2
    by_cases hg : getV v o.dot.site = o.dot.seq - 1
    · have hz' := hz.2 hg
      cases hc : coversR (says v) (says o.deps) <;> simp [h0, hg, hz', firstE]
    · have hz' : ¬ addE v o.dot = 0 := fun e => hg (hz.1 e)
      simp [h0, hg, hz', firstE]
  · have h0 : opE o = 10 := by unfold opE; rw [if_neg h]
    simp [h0, firstE]

set_option maxRecDepth 100000 in
set_option maxHeartbeats 4000000 in
theorem follows9_any (A : Option Addr) (u : List Dt) (c : Nat) (x : Lop) (w : World) (hu : DotsAt w A u) (hul : u.length ≤ 4611686018427387904) (hx : x.At w) (hs : x.o.Small) : Calls Tryz.prog 67 #[.slice A u.length c, .agg x.c] w (IntPost w (followsE u x.o)) := by
  have HX := Lib.hid hx
  have HSM := Lib.hid hs
  obtain ⟨se, hse⟩ : ∃ se, followsE u x.o = se := ⟨_, rfl⟩
  rw [hse]
  obtain ⟨o, dA, dc, gA, gc⟩ := x
  obtain ⟨⟨ds, dq⟩, deps, kind, ⟨it, is⟩, ⟨rt, rs⟩, text, gone, site⟩ := o
  have HBO := Lib.hid (Box.new w 64 (Opr.cells ⟨⟨ds, dq⟩, deps, kind, ⟨it, is⟩, ⟨rt, rs⟩, text, gone, site⟩ dA dc gA gc))
  have HKO := Lib.hid ((Kept.refl (fun _ => False) w).alloc (.cells (Opr.cells ⟨⟨ds, dq⟩, deps, kind, ⟨it, is⟩, ⟨rt, rs⟩, text, gone, site⟩ dA dc gA gc) 64))
  have HC := Lib.hid (fun W (hW : Kept (fun _ => False) w W) => RefCheck_any _ dA gA dc gc W ((HX.out.fresh hW).opr HSM.out))
  have HC2 := Lib.hid (fun W (hW : Kept (fun _ => False) w W) => RCovers_any A dA u deps c dc W (hu.fresh hW) ((HX.out.fresh hW).d) hul (by have := HSM.out.dl; simp only at this; omega))
  have HC3 := Lib.hid (fun W (hW : Kept (fun _ => False) w W) => RGet_any A u c ds W (hu.fresh hW) hul)
  unfold Lop.c
  simp only at hse ⊢
  unfold followsE at hse
  simp only at hse
  obtain ⟨w1, hw1⟩ : ∃ w1, w.alloc (.cells (Opr.cells ⟨⟨ds, dq⟩, deps, kind, ⟨it, is⟩, ⟨rt, rs⟩, text, gone, site⟩ dA dc gA gc) 64) = w1 := ⟨_, rfl⟩
  rw [hw1] at HBO HKO
  have HW := Lib.hid hw1
  obtain ⟨cs, hcs⟩ : ∃ cs, Opr.cells ⟨⟨ds, dq⟩, deps, kind, ⟨it, is⟩, ⟨rt, rs⟩, text, gone, site⟩ dA dc gA gc = cs := ⟨_, rfl⟩
  have HSZ := Lib.hid (show cs.size = 11 by rw [← hcs]; rfl)
  have z0 : cs[0]? = some (.int .i64 ds) := by rw [← hcs]; rfl
  have z1 : cs[1]? = some (.int .i64 dq) := by rw [← hcs]; rfl
  have z2 : cs[2]? = some (.slice dA deps.length dc) := by rw [← hcs]; rfl
  rw [hcs] at HBO HC HW ⊢
  have HD := Lib.hid (show ∀ W, Kept (fun _ => False) w1 W → W.cell? ⟨w.heap.size, 0, none⟩ = some (.int .i64 ds) ∧ W.cell? ⟨w.heap.size, 1, none⟩ = some (.int .i64 dq) ∧ W.cell? ⟨w.heap.size, 2, none⟩ = some (.slice dA deps.length dc) from fun W hW => by
    have hb := HBO.out.kept hW id
    exact ⟨(hb.cell 0).trans z0, (hb.cell 1).trans z1, (hb.cell 2).trans z2⟩)
  obtain ⟨e1, he1⟩ : ∃ e1, opE ⟨⟨ds, dq⟩, deps, kind, ⟨it, is⟩, ⟨rt, rs⟩, text, gone, site⟩ = e1 := ⟨_, rfl⟩
  obtain ⟨cv, hcv⟩ : ∃ cv, coversR (says u) (says deps) = cv := ⟨_, rfl⟩
  obtain ⟨gv, hgv⟩ : ∃ gv, getV u ds = gv := ⟨_, rfl⟩
  have hq : e1 = 0 → IntKind.i64.wrap (dq - 1) = dq - 1 := fun e => by
    have hok : okOp ⟨⟨ds, dq⟩, deps, kind, ⟨it, is⟩, ⟨rt, rs⟩, text, gone, site⟩ = true := by
      unfold opE at he1
      split at he1
      · assumption
      · omega
    have f := okOp_f hok
    have f1 := f.q1
    have f2 := f.q2
    simp only at f1 f2
    exact IntWalk.i64_in _ ⟨by omega, by omega⟩
  rw [he1] at HC hse
  rw [hcv] at HC2 hse
  rw [hgv] at HC3 hse
  have HSE := Lib.hid hse
  have HQ := Lib.hid hq
  clear hse he1 hcv hgv hq z0 z1 z2 hcs hw1 hx hs hu hul
  go_enter Tryz.func67, Tryz.ntmps67
  go_upto_region 1 with (fail)
  rw [HW.out]
  go_wp2_with (refine wpList_load_op rfl _ rfl w.heap.size rfl _ cs HSZ.out HBO.out ?_)
  refine (HC.out _ HKO.out).mono ?_
  unfold IntPost
  rintro r w2 ⟨rfl, hk2⟩
  have HK2 := Lib.hid hk2
  have HKR := Lib.hid (HKO.out.trans hk2 fun _ _ e => e)
  clear hk2
  by_cases h0 : e1 = 0
  · subst h0
    have hse := HSE.out
    simp only [ne_eq, not_true_eq_false, if_false] at hse
    have HSE2 := Lib.hid hse
    have hw := HQ.out rfl
    obtain ⟨d0, d1, d2⟩ := HD.out _ HK2.out
    clear hse
    have hcase : (cv = false) ∨ (cv = true ∧ ¬ gv = dq - 1 ∧ (gv == dq - 1) = false ∧ (gv != dq - 1) = true) ∨ (cv = true ∧ gv = dq - 1) := by
      cases cv with
      | false => exact .inl rfl
      | true =>
        by_cases h0 : gv = dq - 1
        · exact .inr (.inr ⟨rfl, h0⟩)
        · exact .inr (.inl ⟨rfl, h0, by simp [h0], by simp [h0]⟩)
    go_upto_region 4 with (fail)
    rcases hcase with rfl | ⟨rfl, g1, g2, g3⟩ | ⟨rfl, rfl⟩
    · as_aux_lemma =>
      have hs : se = 9 := by have := HSE2.out; simpa using this.symm
      have HS9 := Lib.hid hs
      clear hs
      refine wp_region_class (C := fun w' => Kept (fun _ => False) w2 w') (by kernel_rfl) (by kernel_rfl) (Kept.refl _ _).drew ?_
      iterate 17
        first | go_big_quiet_skip | (go_big_quiet_want; first | (go_big_quiet_op; go_big_quiet_on) | (apply Exists.intro; refine ⟨fun w' hS => ?_, ?_⟩; (have k0 := hS.cellF d0; have k1 := hS.cellF d1; have k2 := hS.cellF d2; go_simp; first | rfl | exact ⟨rfl, rfl⟩ | ((with_reducible refine (HC2.out _ (HKR.out.trans hS fun _ _ e => e)).mono ?_); unfold BoolPost; rintro e w2 ⟨rfl, hk⟩; exact ⟨rfl, hS.trans hk fun _ _ e => e⟩) | ((with_reducible refine (HC3.out _ (HKR.out.trans hS fun _ _ e => e)).mono ?_); unfold IntPost; rintro e w2 ⟨rfl, hk⟩; exact ⟨rfl, hS.trans hk fun _ _ e => e⟩)); (try simp only [Act.put, List.setIfInBounds_toArray, List.set_cons_zero, List.set_cons_succ]); go_big_quiet_on))
      refine wpQuiet_nil ?_
      intro w5 hS
      have HS := Lib.hid hS
      clear hS d0 d1 d2
      go_wp2_with (fail)
      go_ret
      exact ⟨ret_int HS9.out.symm, HKR.out.trans HS.out fun _ _ e => e⟩
    · as_aux_lemma =>
      have hs : se = 9 := by have := HSE2.out; simpa [g1] using this.symm
      have HS9 := Lib.hid hs
      clear hs
      refine wp_region_class (C := fun w' => Kept (fun _ => False) w2 w') (by kernel_rfl) (by kernel_rfl) (Kept.refl _ _).drew ?_
      iterate 17
        first | go_big_quiet_skip | (go_big_quiet_want; first | (go_big_quiet_op; go_big_quiet_on) | (apply Exists.intro; refine ⟨fun w' hS => ?_, ?_⟩; (have k0 := hS.cellF d0; have k1 := hS.cellF d1; have k2 := hS.cellF d2; go_simp; first | rfl | exact ⟨rfl, rfl⟩ | ((with_reducible refine (HC2.out _ (HKR.out.trans hS fun _ _ e => e)).mono ?_); unfold BoolPost; rintro e w2 ⟨rfl, hk⟩; exact ⟨rfl, hS.trans hk fun _ _ e => e⟩) | ((with_reducible refine (HC3.out _ (HKR.out.trans hS fun _ _ e => e)).mono ?_); unfold IntPost; rintro e w2 ⟨rfl, hk⟩; exact ⟨rfl, hS.trans hk fun _ _ e => e⟩)); (try simp only [Act.put, List.setIfInBounds_toArray, List.set_cons_zero, List.set_cons_succ]); go_big_quiet_on))
      refine wpQuiet_nil ?_
      intro w5 hS
      have HS := Lib.hid hS
      clear hS d0 d1 d2
      go_wp2_with (fail)
      go_ret
      exact ⟨ret_int HS9.out.symm, HKR.out.trans HS.out fun _ _ e => e⟩
    · as_aux_lemma =>
      have hs : se = 0 := by have := HSE2.out; simpa using this.symm
      have HS9 := Lib.hid hs
      clear hs
      refine wp_region_class (C := fun w' => Kept (fun _ => False) w2 w') (by kernel_rfl) (by kernel_rfl) (Kept.refl _ _).drew ?_
      iterate 17
        first | go_big_quiet_skip | (go_big_quiet_want; first | (go_big_quiet_op; go_big_quiet_on) | (apply Exists.intro; refine ⟨fun w' hS => ?_, ?_⟩; (have k0 := hS.cellF d0; have k1 := hS.cellF d1; have k2 := hS.cellF d2; go_simp; first | rfl | exact ⟨rfl, rfl⟩ | ((with_reducible refine (HC2.out _ (HKR.out.trans hS fun _ _ e => e)).mono ?_); unfold BoolPost; rintro e w2 ⟨rfl, hk⟩; exact ⟨rfl, hS.trans hk fun _ _ e => e⟩) | ((with_reducible refine (HC3.out _ (HKR.out.trans hS fun _ _ e => e)).mono ?_); unfold IntPost; rintro e w2 ⟨rfl, hk⟩; exact ⟨rfl, hS.trans hk fun _ _ e => e⟩)); (try simp only [Act.put, List.setIfInBounds_toArray, List.set_cons_zero, List.set_cons_succ]); go_big_quiet_on))
      refine wpQuiet_nil ?_
      intro w5 hS
      have HS := Lib.hid hS
      clear hS d0 d1 d2
      go_wp2_with (fail)
      go_ret
      exact ⟨ret_int HS9.out.symm, HKR.out.trans HS.out fun _ _ e => e⟩
  · as_aux_lemma =>
    have hs : se = e1 := by have := HSE.out; rw [if_pos h0] at this; exact this.symm
    have HS9 := Lib.hid hs
    have b1 : (e1 != 0) = true := by simp [h0]
    have b2 : (e1 == 0) = false := by simp [h0]
    clear hs h0
    go_wp2_with (fail)
    go_ret
    exact ⟨ret_int HS9.out.symm, HKR.out⟩
end Go.Proofs.YtnajbkccaclkcaaGreat
