/- The walk of the law's stands, of a twin. Conditions: the twin and the operation lie in memory; nothing is longer than a million. · One dot, one run of a twin's lists is written over. Conditions: none. · A twin whose lists are written over: what stays. Conditions: none. -/
import Derived.Test.YtnlklhlnnoihiaaMO37
namespace Go.Proofs.Ytnlklhlnnoihiaa
open Go Go.RowKit

theorem TwinAt.dep2 {W : World} {base : Nat} {o : Opr} {y : Lop} (h : TwinAt W base o y) : ∃ gd, y.dA = some ⟨gd, 0, none⟩ ∧ o.deps.length + 1 ≤ y.dc ∧ W.cell? ⟨gd, o.deps.length * 2, none⟩ = some (.int .i64 77) ∧ W.cell? ⟨gd, o.deps.length * 2 + 1, none⟩ = some (.int .i64 77) := by
  obtain ⟨g, hA, -, hc, -⟩ := own_cells h.d (by omega)
  obtain ⟨g0, g1⟩ := dots_get (o.deps ++ [dotM]) o.deps.length (by simp)
  refine ⟨g, hA, (own_cap h.d).1, hc _ _ ?_, hc _ _ ?_⟩
  · rw [g0]; simp [dotM]
  · rw [g1]; simp [dotM]
set_option maxRecDepth 100000 in
set_option maxHeartbeats 3200000 in
theorem Stands8_any (x y : Lop) (base : Nat) (w : World) (hy : TwinAt w base x.o y) (hx : x.At w) (hdl : x.o.deps.length ≤ 1000000) (hgl : x.o.gone.length ≤ 1000000) :
    Calls Try.prog 19 #[.agg y.c, .agg x.c] w (KnownPost w) := by
  have hk0 : Kept (fun _ => False) w ((w.alloc (.cells y.c 30)).alloc (.cells x.c 30)) := ((Kept.refl _ _).alloc _).alloc _
  have HK := Lib.hid hk0
  have HY := Lib.hid (hy.fresh hk0)
  have HX := Lib.hid (hx.fresh hk0)
  have HB := Lib.hid ((Box.new w 30 y.c).alloc (.cells x.c 30))
  have HC := Lib.hid ((Box.new (w.alloc (.cells y.c 30)) 30 x.c).at_eq (show _ = w.heap.size + 1 by simp))
  have HEQ := Lib.hid hy.eq
  have HSZ := Lib.hid (show y.c.size = 11 from rfl)
  have HSZ' := Lib.hid (show x.c.size = 11 from rfl)
  have HY2 := Lib.hid (show y.c[2]? = some (.slice y.dA x.o.deps.length y.dc) by rw [← HEQ.out]; rfl)
  have HY9 := Lib.hid (show y.c[9]? = some (.slice y.gA x.o.gone.length y.gc) by rw [← HEQ.out]; rfl)
  have HX2 := Lib.hid (show x.c[2]? = some (.slice x.dA x.o.deps.length x.dc) from rfl)
  have HX9 := Lib.hid (show x.c[9]? = some (.slice x.gA x.o.gone.length x.gc) from rfl)
  have HSM := Lib.hid (fun (W : World) (h1 : y.At W) (h2 : x.At W) => Same8_any y x W h1 h2 (by rw [HEQ.out]; exact hdl) (by rw [HEQ.out]; exact hgl))
  obtain ⟨cs, hcs⟩ : ∃ cs, y.c = cs := ⟨_, rfl⟩
  obtain ⟨ds, hds⟩ : ∃ ds, x.c = ds := ⟨_, rfl⟩
  rw [hcs, hds] at HSM HK HY HX HB HC ⊢
  rw [hcs] at HSZ HY2 HY9
  rw [hds] at HSZ' HX2 HX9
  clear hk0 hy hx hcs hds
  go_enter Try.func19, Try.ntmps19
  go_upto_region 1 with (fail)
  generalize (w.alloc (.cells cs 30)).alloc (.cells ds 30) = w0 at HK HY HX HB HC ⊢
  have d2 : w0.cell? ⟨w.heap.size + 1, 2, none⟩ = some (.slice x.dA x.o.deps.length x.dc) := (HC.out.cell 2).trans HX2.out
  have d9 : w0.cell? ⟨w.heap.size + 1, 9, none⟩ = some (.slice x.gA x.o.gone.length x.gc) := (HC.out.cell 9).trans HX9.out
  go_wp2_with (first | refine wpList_load_op rfl _ rfl w.heap.size rfl _ cs HSZ.out HB.out ?_ | refine wpList_load_op rfl _ rfl (w.heap.size + 1) rfl _ ds HSZ'.out HC.out ?_)
  refine (HSM.out w0 HY.out.at HX.out).mono ?_
  rintro r w1 ⟨b, rfl, hb, hk⟩
  obtain rfl : b = true := hb.2 HEQ.out
  have hy1 := HY.out.fresh hk
  obtain ⟨gd, hdA, hdc, z0, z1⟩ := hy1.dep2
  obtain ⟨gg, hgA, hgc, z2⟩ := hy1.gone
  have c2 : w1.cell? ⟨w.heap.size, 2, none⟩ = some (.slice y.dA x.o.deps.length y.dc) := ((HB.out.kept hk id).cell 2).trans HY2.out
  have c9 : w1.cell? ⟨w.heap.size, 9, none⟩ = some (.slice y.gA x.o.gone.length y.gc) := ((HB.out.kept hk id).cell 9).trans HY9.out
  rw [hdA] at c2
  rw [hgA] at c9
  have HK1 := Lib.hid (HK.out.trans hk fun _ _ e => e)
  clear hk hy1 hb hdA hgA d2 d9 HSM HY HX HB HC HEQ
  generalize x.o.deps.length = n at *
  generalize x.o.gone.length = k at *
  have hq := fun W => eql_dot 77 77 77 77 W
  have hqd : decide ((77 : Int) = 77 ∧ (77 : Int) = 77) = true := by decide
  rw [hqd] at hq
  have h1 : IntKind.i64.wrap ((n : Int) + 1) = ((n + 1 : Nat) : Int) := IntWalk.i64_in _ ⟨by omega, by omega⟩
  have h2 : IntKind.i64.wrap ((k : Int) + 1) = ((k + 1 : Nat) : Int) := IntWalk.i64_in _ ⟨by omega, by omega⟩
  go_wp2_with (fail)
  go_ret
  exact ⟨rfl, HK1.out⟩
end Go.Proofs.Ytnlklhlnnoihiaa

namespace Go.Proofs.Ytnlklhlnnoihiaa
open Go Go.RowKit

theorem dots_store (l : List Dt) (k : Nat) (hk : k < l.length) (d : Dt) : dots (l.set k d) = ((dots l).set (k * 2) (.int .i64 d.site)).set (k * 2 + 1) (.int .i64 d.seq) := by
  induction l generalizing k with
  | nil => simp at hk
  | cons x l ih =>
    cases k with
    | zero => rfl
    | succ k =>
      have e2 : (k + 1) * 2 = k * 2 + 2 := by omega
      have := ih k (by simpa using hk)
      rw [e2]
      simpa [dots] using this
theorem runs_store (l : List Rn) (k : Nat) (hk : k < l.length) (d : Rn) : runs (l.set k d) = (((runs l).set (k * 3) (.int .i64 d.id.time)).set (k * 3 + 1) (.int .i64 d.id.site)).set (k * 3 + 2) (.int .i64 d.count) := by
  induction l generalizing k with
  | nil => simp at hk
  | cons x l ih =>
    cases k with
    | zero => rfl
    | succ k =>
      have e2 : (k + 1) * 3 = k * 3 + 3 := by omega
      have := ih k (by simpa using hk)
      rw [e2]
      simpa [runs] using this
theorem dots_turn {w : World} {base n c : Nat} {A : Option Addr} {l : List Dt} (h : w.ownsRow base 23 2 (.slice A n c) n (dots l)) {k : Nat} (hk : k < n) (d : Dt) :
    ∃ g a b, A = some ⟨g, 0, none⟩ ∧ (Value.slice A n c).ownBlock = some g ∧ w.cell? ⟨g, k * 2, none⟩ = some a ∧ w.cell? ⟨g, k * 2 + 1, none⟩ = some b ∧ (∀ j, w.frozen? ⟨g, j, none⟩ = false) ∧
      ((w.setCell ⟨g, k * 2, none⟩ (.int .i64 d.site)).setCell ⟨g, k * 2 + 1, none⟩ (.int .i64 d.seq)).ownsRow base 23 2 (.slice A n c) n (dots (l.set k d)) ∧
      Kept (fun b => b = g) w ((w.setCell ⟨g, k * 2, none⟩ (.int .i64 d.site)).setCell ⟨g, k * 2 + 1, none⟩ (.int .i64 d.seq)) := by
  have hn := h.1
  rw [dots_len] at hn
  have hl : k < l.length := by omega
  obtain ⟨g, hA, hb, hc, hf⟩ := own_cells h (by omega)
  obtain ⟨g0, g1⟩ := dots_get l k hl
  subst hA
  have h1 := World.ownsRow.stored h (k * 2) (.int .i64 d.site)
  have h2 := World.ownsRow.stored h1.1 (k * 2 + 1) (.int .i64 d.seq)
  rw [← dots_store _ k hl] at h2
  exact ⟨g, _, _, rfl, hb, hc _ _ g0, hc _ _ g1, hf, h2.1, Kept.at (g := g) (Kept.at (g := g) (Kept.refl (fun b => b = g) _) _ _ (.inl rfl)) _ _ (.inl rfl)⟩
theorem runs_turn {w : World} {base n c : Nat} {A : Option Addr} {l : List Rn} (h : w.ownsRow base 32 3 (.slice A n c) n (runs l)) {k : Nat} (hk : k < n) (d : Rn) :
    ∃ g a b e, A = some ⟨g, 0, none⟩ ∧ (Value.slice A n c).ownBlock = some g ∧ w.cell? ⟨g, k * 3, none⟩ = some a ∧ w.cell? ⟨g, k * 3 + 1, none⟩ = some b ∧ w.cell? ⟨g, k * 3 + 2, none⟩ = some e ∧ (∀ j, w.frozen? ⟨g, j, none⟩ = false) ∧
      (((w.setCell ⟨g, k * 3, none⟩ (.int .i64 d.id.time)).setCell ⟨g, k * 3 + 1, none⟩ (.int .i64 d.id.site)).setCell ⟨g, k * 3 + 2, none⟩ (.int .i64 d.count)).ownsRow base 32 3 (.slice A n c) n (runs (l.set k d)) ∧
      Kept (fun b => b = g) w (((w.setCell ⟨g, k * 3, none⟩ (.int .i64 d.id.time)).setCell ⟨g, k * 3 + 1, none⟩ (.int .i64 d.id.site)).setCell ⟨g, k * 3 + 2, none⟩ (.int .i64 d.count)) := by
  have hn := h.1
  rw [runs_len] at hn
  have hl : k < l.length := by omega
  obtain ⟨g, hA, hb, hc, hf⟩ := own_cells h (by omega)
  obtain ⟨g0, g1, g2⟩ := runs_get l k hl
  subst hA
  have h1 := World.ownsRow.stored h (k * 3) (.int .i64 d.id.time)
  have h2 := World.ownsRow.stored h1.1 (k * 3 + 1) (.int .i64 d.id.site)
  have h3 := World.ownsRow.stored h2.1 (k * 3 + 2) (.int .i64 d.count)
  rw [← runs_store _ k hl] at h3
  exact ⟨g, _, _, _, rfl, hb, hc _ _ g0, hc _ _ g1, hc _ _ g2, hf, h3.1, Kept.at (g := g) (Kept.at (g := g) (Kept.at (g := g) (Kept.refl (fun b => b = g) _) _ _ (.inl rfl)) _ _ (.inl rfl)) _ _ (.inl rfl)⟩
end Go.Proofs.Ytnlklhlnnoihiaa

namespace Go.Proofs.Ytnlklhlnnoihiaa
open Go Go.RowKit

def dotC (d : Dt) : Array Value := #[.int .i64 d.site, .int .i64 d.seq]
def runC (g : Rn) : Array Value := #[.int .i64 g.id.time, .int .i64 g.id.site, .int .i64 g.count]
/-- OpChecks' memory: the twin's box at M, its lists holding dl and gl, the two things that are laid into them. -/
structure TuAt (w : World) (x y : Lop) (ys : Array Value) (M : Nat) (d : Dt) (g : Rn) (dl : List Dt) (gl : List Rn) (W : World) : Prop where
  b : Box W M 30 ys
  bd : Box W (w.heap.size + 1) 23 (dotC d)
  bg : Box W (w.heap.size + 2) 32 (runC g)
  rd : W.ownsRow (w.heap.size + 3) 23 2 (.slice y.dA (x.o.deps.length + 1) y.dc) (x.o.deps.length + 1) (dots (dl ++ [dotM]))
  rg : W.ownsRow (w.heap.size + 3) 32 3 (.slice y.gA (x.o.gone.length + 1) y.gc) (x.o.gone.length + 1) (runs (gl ++ [runM]))
  ld : dl.length = x.o.deps.length
  lg : gl.length = x.o.gone.length
  gc : ∀ r ∈ gl, inI r.count
  k : Kept (fun _ => False) w W
section
variable {w W W' : World} {x y : Lop} {ys : Array Value} {M : Nat} {d : Dt} {g : Rn} {dl : List Dt} {gl : List Rn}
theorem TuAt.fresh (h : TuAt w x y ys M d g dl gl W) (hk : Kept (fun _ => False) W W') : TuAt w x y ys M d g dl gl W' :=
  ⟨h.b.kept hk id, h.bd.kept hk id, h.bg.kept hk id, hk.own h.rd fun _ _ => id, hk.own h.rg fun _ _ => id, h.ld, h.lg, h.gc, h.k.trans hk fun _ _ e => e⟩
theorem TuAt.turnD (h : TuAt w x y ys M d g dl gl W) {k : Nat} (hk : k < x.o.deps.length) : ∃ gd a b, y.dA = some ⟨gd, 0, none⟩ ∧ gd ≠ M ∧ gd ≠ w.heap.size + 1 ∧ W.cell? ⟨gd, k * 2, none⟩ = some a ∧ W.cell? ⟨gd, k * 2 + 1, none⟩ = some b ∧ (∀ j, W.frozen? ⟨gd, j, none⟩ = false) ∧
    TuAt w x y ys M d g (dl.set k d) gl ((W.setCell ⟨gd, k * 2, none⟩ (.int .i64 d.site)).setCell ⟨gd, k * 2 + 1, none⟩ (.int .i64 d.seq)) ∧
    Kept (fun b => b = gd) W ((W.setCell ⟨gd, k * 2, none⟩ (.int .i64 d.site)).setCell ⟨gd, k * 2 + 1, none⟩ (.int .i64 d.seq)) := by
  obtain ⟨gd, a, b, hA, hb, c0, c1, hf, ho, hK⟩ := dots_turn h.rd (k := k) (by omega) d
  have n1 : gd ≠ M := fun e => own_box_ne h.rd h.b (by decide) (by rw [hb, e])
  have n3 : gd ≠ w.heap.size + 2 := fun e => own_box_ne h.rd h.bg (by decide) (by rw [hb, e])
  have hge := (h.rd.lt gd hb).1
  have n2 : gd ≠ w.heap.size + 1 := by omega
  rw [List.set_append_left _ _ (by rw [h.ld]; exact hk)] at ho
  exact ⟨gd, a, b, hA, n1, n2, c0, c1, hf, ⟨h.b.kept hK (Ne.symm n1), h.bd.kept hK (Ne.symm n2), h.bg.kept hK (Ne.symm n3), ho, hK.own h.rg fun j e1 e2 => own_other h.rd h.rg (by decide) j (by rw [hb, e2]) e1, by rw [List.length_set]; exact h.ld, h.lg, h.gc, h.k.trans hK fun j hj e => by omega⟩, hK⟩
theorem TuAt.turnG (h : TuAt w x y ys M d g dl gl W) (hi : inI g.count) {k : Nat} (hk : k < x.o.gone.length) : ∃ gg a b e, y.gA = some ⟨gg, 0, none⟩ ∧ gg ≠ M ∧ gg ≠ w.heap.size + 2 ∧ W.cell? ⟨gg, k * 3, none⟩ = some a ∧ W.cell? ⟨gg, k * 3 + 1, none⟩ = some b ∧ W.cell? ⟨gg, k * 3 + 2, none⟩ = some e ∧ (∀ j, W.frozen? ⟨gg, j, none⟩ = false) ∧
    TuAt w x y ys M d g dl (gl.set k g) (((W.setCell ⟨gg, k * 3, none⟩ (.int .i64 g.id.time)).setCell ⟨gg, k * 3 + 1, none⟩ (.int .i64 g.id.site)).setCell ⟨gg, k * 3 + 2, none⟩ (.int .i64 g.count)) ∧
    Kept (fun b => b = gg) W (((W.setCell ⟨gg, k * 3, none⟩ (.int .i64 g.id.time)).setCell ⟨gg, k * 3 + 1, none⟩ (.int .i64 g.id.site)).setCell ⟨gg, k * 3 + 2, none⟩ (.int .i64 g.count)) := by
  obtain ⟨gg, a, b, e, hA, hb, c0, c1, c2, hf, ho, hK⟩ := runs_turn h.rg (k := k) (by omega) g
  have n1 : gg ≠ M := fun e => own_box_ne h.rg h.b (by decide) (by rw [hb, e])
  have n3 : gg ≠ w.heap.size + 1 := fun e => own_box_ne h.rg h.bd (by decide) (by rw [hb, e])
  have hge := (h.rg.lt gg hb).1
  have n2 : gg ≠ w.heap.size + 2 := by omega
  rw [List.set_append_left _ _ (by rw [h.lg]; exact hk)] at ho
  refine ⟨gg, a, b, e, hA, n1, n2, c0, c1, c2, hf, ⟨h.b.kept hK (Ne.symm n1), h.bd.kept hK (Ne.symm n3), h.bg.kept hK (Ne.symm n2), hK.own h.rd fun j e1 e2 => own_other h.rg h.rd (by decide) j (by rw [hb, e2]) e1, ho, h.ld, by rw [List.length_set]; exact h.lg, fun r hr => ?_, h.k.trans hK fun j hj e => by omega⟩, hK⟩
  rcases List.mem_or_eq_of_mem_set hr with hr | rfl
  · exact h.gc r hr
  · exact hi
/-- The twin as it stands now. -/
def turnedL (x y : Lop) (dl : List Dt) (gl : List Rn) : Lop := ⟨{ x.o with deps := dl, gone := gl }, y.dA, y.dc, y.gA, y.gc⟩
theorem TuAt.lop (h : TuAt w x y ys M d g dl gl W) : (turnedL x y dl gl).At W := ⟨DotsAt.pre (DotsAt.of_own h.rd), RunsAt.pre (RunsAt.of_own h.rg)⟩
theorem TuAt.small (h : TuAt w x y ys M d g dl gl W) (hs : x.o.Small) : (turnedL x y dl gl).o.Small := by
  have h1 := hs.dl
  have h2 := hs.gl
  exact ⟨h.gc, by show dl.length ≤ _; rw [h.ld]; exact h1, by show gl.length ≤ _; rw [h.lg]; exact h2, hs.tl⟩
theorem TuAt.cells (h : TuAt w x y ys M d g dl gl W) (hy : y.o = x.o) (hys : y.c = ys) : (turnedL x y dl gl).c = ys := by
  rw [← hys]
  show ({ x.o with deps := dl, gone := gl } : Opr).cells y.dA y.dc y.gA y.gc = y.o.cells y.dA y.dc y.gA y.gc
  rw [hy]
  unfold Opr.cells
  simp only
  rw [h.ld, h.lg]
end
end Go.Proofs.Ytnlklhlnnoihiaa
