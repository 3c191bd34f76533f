/- In the middle of image.Take: the image that grows, the error, the Reader. Conditions: the Reader lies in memory. · image.Take of the bytes of an image that may be, walked: new memory of the same data. Conditions: the Reader lies in memory; nothing is longer than a million; the numbers are Go's. · hearsaylaw9.great walked. Condition: the image lies in memory. -/
import Derived.Test.YtnajbkccaclkcaaGreatIM33
namespace Go.Proofs.YtnajbkccaclkcaaGreat
open Go Go.RowKit

/-- The image's box, the error's, the Reader. -/
structure Tk (w : World) (d g N M : Nat) (cs : Array Value) (l : List Int) (W : World) : Prop where
  k : Kept (fun k => k = g) w W
  m : Box W N 28 cs
  e : Box W M 32 #[.int .i64 0]
  r : RdAt W d g ⟨l, 0⟩
/-- Where the boxes lie. -/
structure TkB (w : World) (d g N M : Nat) : Prop where
  g : g < w.heap.size
  d : d < w.heap.size
  n : w.heap.size ≤ N
  m : w.heap.size ≤ M
  ne : N ≠ M
def KT (g N M : Nat) (W W' : World) : Prop := Kept (fun k => k = g ∨ k = N ∨ k = M) W W'
section
variable {w W W' W2 : World} {d g N M : Nat} {cs : Array Value} {l l' : List Int}
theorem KT.refl (W : World) : KT g N M W W := Kept.refl _ _
theorem KT.trans (h : KT g N M W W') (h' : KT g N M W' W2) : KT g N M W W2 := Kept.trans h h' fun _ _ e => e
theorem KT.fresh (h : Kept (fun _ => False) W W') : KT g N M W W' := h.more fun _ _ e => e.elim
theorem KT.rd (h : Kept (fun k => k = g) W W') : KT g N M W W' := h.more fun _ _ e => .inl e
theorem KT.putN (i : Nat) (u : Value) : KT g N M W (W.setCell ⟨N, i, none⟩ u) := (Kept.refl _ _).at i u (.inl (.inr (.inl rfl)))
theorem KT.putM (i : Nat) (u : Value) : KT g N M W (W.setCell ⟨M, i, none⟩ u) := (Kept.refl _ _).at i u (.inl (.inr (.inr rfl)))
theorem KT.new (h : Kept (fun k => W.heap.size ≤ k) W W') : KT g N M W W' := h.more fun k hk e => by omega
theorem Tk.fresh (h : Tk w d g N M cs l W) (hk : Kept (fun _ => False) W W') : Tk w d g N M cs l W' := ⟨h.k.trans hk fun _ _ e => e.elim, h.m.kept hk id, h.e.kept hk id, h.r.fresh hk⟩
theorem Tk.rd (h : Tk w d g N M cs l W) (hb : TkB w d g N M) (hk : Kept (fun k => k = g) W W') (hr : RdAt W' d g ⟨l', 0⟩) : Tk w d g N M cs l' W' := ⟨h.k.trans hk fun _ _ e => e, h.m.kept hk (by have := hb.g; have := hb.n; omega), h.e.kept hk (by have := hb.g; have := hb.m; omega), hr⟩
theorem Tk.other {S : Nat → Prop} (h : Tk w d g N M cs l W) (hk : Kept S W W') (h1 : ∀ k, S k → w.heap.size ≤ k ∧ k ≠ N ∧ k ≠ M) (hb : TkB w d g N M) : Tk w d g N M cs l W' := ⟨h.k.trans hk fun k h2 e => by have := h1 k e; omega, h.m.kept hk fun e => (h1 N e).2.1 rfl, h.e.kept hk fun e => (h1 M e).2.2 rfl, h.r.kept hk (fun e => by have := h1 g e; have := hb.g; omega) (fun e => by have := h1 d e; have := hb.d; omega)⟩
theorem Tk.put (h : Tk w d g N M cs l W) (hb : TkB w d g N M) (i : Nat) (u : Value) : Tk w d g N M (cs.setIfInBounds i u) l (W.setCell ⟨N, i, none⟩ u) := by
  have hk : Kept (fun k => k = N) W (W.setCell ⟨N, i, none⟩ u) := (Kept.refl _ _).at i u (.inl rfl)
  have h1 := hb.g
  have h2 := hb.d
  have h3 := hb.n
  have h4 := hb.ne
  exact ⟨h.k.trans hk fun k h2 e => by omega, h.m.set i u, h.e.kept hk (by omega), h.r.kept hk (by omega) (by omega)⟩
theorem Tk.sete (h : Tk w d g N M cs l W) (hb : TkB w d g N M) : Tk w d g N M cs l (W.setCell ⟨M, 0, none⟩ (.int .i64 0)) := by
  have hk : Kept (fun k => k = M) W (W.setCell ⟨M, 0, none⟩ (.int .i64 0)) := (Kept.refl _ _).at 0 _ (.inl rfl)
  have h1 := hb.g
  have h2 := hb.d
  have h3 := hb.m
  have h4 := hb.ne
  exact ⟨h.k.trans hk fun k h2 e => by omega, h.m.kept hk (by omega), by simpa using h.e.set 0 (.int .i64 0), h.r.kept hk (by omega) (by omega)⟩
/-- A row that was made since stays where only the Reader and the boxes turn. -/
theorem Tk.row (h : Tk w d g N M cs l W) (hb : TkB w d g N M) {s n : Nat} {e : TypeId} {v : Value} {xs : List Value} (hr : W.ownsRow w.heap.size e s v n xs) (h1 : e ≠ 28) (h2 : e ≠ 32) (hk : KT g N M W W') : W'.ownsRow w.heap.size e s v n xs :=
  Kept.own hk hr fun k e1 e2 => by
    rcases e2 with rfl | rfl | rfl
    · have := (hr.lt _ e1).1; have := hb.g; omega
    · exact own_box_ne hr h.m h1 e1
    · exact own_box_ne hr h.e h2 e1
theorem Tk.own (h : Tk w d g N M cs l W) (hb : TkB w d g N M) {y : Lop} (hy : y.Own W w.heap.size) (hk : KT g N M W W') : y.Own W' w.heap.size := ⟨h.row hb hy.d (by decide) (by decide) hk, h.row hb hy.g (by decide) (by decide) hk⟩
theorem Tk.box (h : Tk w d g N M cs l W) (hb : TkB w d g N M) {P : Nat} {T : TypeId} {xs : Array Value} (hr : Box W P T xs) (hP : w.heap.size ≤ P) (h1 : T ≠ 28) (h2 : T ≠ 32) (hk : KT g N M W W') : Box W' P T xs :=
  hr.kept hk fun e2 => by
    rcases e2 with rfl | rfl | rfl
    · have := hb.g; omega
    · exact Box.ne hr h.m h1 rfl
    · exact Box.ne hr h.e h2 rfl
end
theorem info_ptr (T : TypeId) (h : (Tryz.prog.info? T).map (fun i => (i.zero, i.size, i.bytes)) = some (some (.pointer none), 1, 8)) (a b : Option Addr) : Tryz.prog.builtSlice T 2 [(0, .pointer a), (1, .pointer b)] = some #[.pointer a, .pointer b] := by
  obtain ⟨i, hi, hz, hsz, hby⟩ := info_parts h
  unfold Program.builtSlice
  simp only [hi, hz, hsz]
  rw [if_neg (by decide)]
  kernel_rfl
theorem wpList_2p {ops : Array Oper} {rest : List Oper} {o : Oper} {a : Act} {w : World} {Q : Exit → Act → World → Prop} {t e : TypeId} (hu : Tryz.prog.underlying t = some (.slice e)) (hi : (Tryz.prog.info? e).map (fun i => (i.zero, i.size, i.bytes)) = some (some (.pointer none), 1, 8)) (hg : o.guard = none) (x0 x1 : Operand)
    (ho : o.op = .buildSlice t 2 #[(0, x0), (1, x1)]) (A B : Option Addr) (h0 : a.eval x0 = .pointer A) (h1 : a.eval x1 = .pointer B)
    (h : wpList Tryz.prog ops Q rest (a.put o.dst (.slice (some ⟨w.heap.size, 0, none⟩) 2 2)) (w.alloc (.cells #[.pointer A, .pointer B] e))) :
    wpList Tryz.prog ops Q (o :: rest) a w := by
  refine Great.wpList_buildSliceTo hg _ e 2 _ ho _ rfl _ rfl hu _ ?_ h
  have e' : (#[(0, x0), (1, x1)].map fun ((i, x) : Nat × Operand) => (i, a.eval x)).toList = [(0, a.eval x0), (1, a.eval x1)] := by simp
  rw [e', h0, h1]
  exact info_ptr e hi A B
theorem info_pv : (Tryz.prog.info? 81).map (fun i => (i.zero, i.size, i.bytes)) = some (some (.pointer none), 1, 8) := by kernel_rfl
theorem info_pi : (Tryz.prog.info? 91).map (fun i => (i.zero, i.size, i.bytes)) = some (some (.pointer none), 1, 8) := by kernel_rfl
end Go.Proofs.YtnajbkccaclkcaaGreat

namespace Go.Proofs.YtnajbkccaclkcaaGreat
open Go Go.RowKit

/-- All lists of an image are its own. -/
structure Im.Own (W : World) (base : Nat) (y : Im) : Prop where
  v : W.ownsRow base 59 2 (.slice y.vA y.v.length y.vc) y.v.length (dots y.v)
  b : W.ownsRow base 59 2 (.slice y.bA y.b.length y.bc) y.b.length (dots y.b)
  l : W.ownsRow base 64 11 (.slice y.lA y.log.length y.lc) y.log.length (lops y.log)
  ops : ∀ z ∈ y.log, z.Own W base
  n : W.ownsRow base 66 6 (.slice y.nA y.nodes.length y.nc) y.nodes.length (nds y.nodes)
  j : W.ownsRow base 3 1 (.slice y.jA y.joined.length y.jc) y.joined.length (ints y.joined)
  e : W.ownsRow base 3 1 (.slice y.eA y.left.length y.ec) y.left.length (ints y.left)
theorem Im.Own.at {W : World} {base : Nat} {y : Im} (h : y.Own W base) : y.At W := ⟨DotsAt.of_own h.v, DotsAt.of_own h.b, CellsAt.of_own h.l, fun z hz => (h.ops z hz).at, CellsAt.of_own h.n, CellsAt.of_own h.j, CellsAt.of_own h.e⟩
theorem logFrom_same (clock : Int) (mv : List Dt) : ∀ (l l' : List Lop) (v : List Dt), l'.map (·.o) = l.map (·.o) → logFrom clock mv v l' = logFrom clock mv v l := by
  intro l
  induction l with
  | nil =>
    intro l' v h
    cases l' with
    | nil => rfl
    | cons y t => simp at h
  | cons x t ih =>
    intro l' v h
    cases l' with
    | nil => simp at h
    | cons y t' =>
      simp only [List.map_cons, List.cons.injEq] at h
      rw [logFrom_cons, logFrom_cons, h.1, ih t' _ h.2]
theorem checkI_same {x y : Im} (h : SameIm x y) : checkI y = checkI x := by
  unfold checkI
  rw [h.v, h.b, h.clock, h.nodes, h.joined, h.left, h.epoch, logFrom_same _ _ _ _ _ h.log]
theorem ris_len (l : List Int) (last : Int) (h0 : 0 ≤ last) (h1 : last ≤ 16) (h : risFrom last l = true) : (l.length : Int) ≤ 16 - last := by
  induction l generalizing last with
  | nil => simp; omega
  | cons y t ih =>
    unfold risFrom at h
    split at h
    · cases h
    · have := ih y (by omega) (by omega) h
      simp
      omega
theorem encL9_len (l : List Lop) : l.length ≤ (encL9 l).length := by
  induction l with
  | nil => simp
  | cons x t ih =>
    have e : encL9 (x :: t) = encOp x.o ++ encL9 t := by simp [encL9]
    have h : 1 ≤ (encOp x.o).length := by
      unfold encOp
      rw [List.length_append]
      have := enc_pos x.o.kind.toNat
      simp only [encs, List.flatMap_cons, List.length_append]
      omega
    rw [e, List.length_append, List.length_cons]
    omega
theorem encN9_len (l : List Nd) : l.length ≤ (encN9 l).length := by
  induction l with
  | nil => simp
  | cons x t ih =>
    have e : encN9 (x :: t) = encZ (ndNums x) ++ encN9 t := by simp [encN9]
    have h : 1 ≤ (encZ (ndNums x)).length := by
      have := enc_pos x.id.time.toNat
      simp only [encZ, ndNums, List.flatMap_cons, List.length_append]
      omega
    rw [e, List.length_append, List.length_cons]
    omega
def TakeI9 (w : World) (d g : Nat) (m : Im) (t : List Int) (r : Ending) (W : World) : Prop := ∃ y : Im, r = .returned (.tuple #[.agg y.c, .int .i64 0]) ∧ SameIm m y ∧ y.Own W w.heap.size ∧ Kept (fun k => k = g) w W ∧ RdAt W d g ⟨t, 0⟩

theorem oneE_ru : ∀ (l : List Nd) (S : List Idt), oneE S l = 0 → ∀ n ∈ l, n.ru ≤ 1114111 := by
  intro l
  induction l with
  | nil => intro S _ n hn; cases hn
  | cons y t ih =>
    intro S h n hn
    rw [oneE_cons] at h
    split at h
    · rename_i h0
      rcases List.mem_cons.1 hn with rfl | hn
      · have a2 := firstE_zero h0 _ (List.mem_cons_of_mem _ (List.mem_cons_self ..))
        by_cases c : (!isRuneB n.ru || decide (n.st < 1) || decide (3 < n.st)) = true
        · rw [if_pos c] at a2; omega
        · simp at c
          have b3 := c.1.1
          rw [isRuneB_eq] at b3
          simp at b3
          omega
      · exact ih _ h n hn
    · contradiction
theorem nodes_ru {m : Im} (h : checkI m = 0) : ∀ n ∈ m.nodes, n.ru ≤ 1114111 := by
  have h3 := firstE_zero h (nodesE m.clock m.nodes) (by simp)
  refine oneE_ru m.nodes [] ?_
  unfold nodesE at h3
  by_cases e : oneE [] m.nodes = 0
  · exact e
  · rw [if_pos e] at h3; exact h3
def OnlyN (K : Act → World → Prop) : Exit → Act → World → Prop
  | .normal, a, w => K a w
  | _, _, _ => False
theorem onlyN_mono {Q : Exit → Act → World → Prop} : ∀ e a w, OnlyN (Q .normal) e a w → Q e a w := fun e a w h => by
  cases e <;> first | exact h | exact h.elim
theorem KT.size {g N M : Nat} {W W' : World} (h : KT g N M W W') : W.heap.size ≤ W'.heap.size := Kept.size h
theorem hwrap32 (x : Int) (h0 : 0 ≤ x) (h1 : x ≤ 2147483647) : IntKind.i32.wrap x = x := by
  simp [IntKind.wrap, IntKind.signed, IntKind.bits]
  omega

set_option maxRecDepth 100000 in
set_option maxHeartbeats 16000000 in
theorem Take9_short (d g : Nat) (m : Im) (t : List Int) (w : World) (h : RdAt w d g ⟨encI m ++ t, 0⟩) (hs : m.Small) (hf : m.Fit) (hc : checkI m = 0) (hlog : m.log = []) : Calls Tryz.prog 13 #[.pointer (some ⟨g, 0, none⟩)] w (TakeI9 w d g m t) := by
  have hok := checkI_ok hc
  have HPO := Lib.hid (show ∀ (y : Im) (W : World), SameIm m y → y.Own W w.heap.size → Kept (fun k => k = g) w W → RdAt W d g ⟨t, 0⟩ → TakeI9 w d g m t (.returned (.tuple #[.agg y.c, .int .i64 0])) W from fun y W h1 h2 h3 h4 => ⟨y, rfl, h1, h2, h3, h4⟩)
  have HCK := Lib.hid (show ∀ (y : Im) (W : World), SameIm m y → y.Own W w.heap.size → Calls Tryz.prog 9 #[.agg y.c] W (IntPost W 0) from fun y W h1 h2 => by
    have hl : y.log.length = m.log.length := by have := congrArg List.length h1.log; simpa using this
    have hsm : y.Small := ⟨by rw [h1.v]; exact hs.v, by rw [h1.b]; exact hs.b, by rw [hl]; exact hs.log, fun z hz => by
      have : z.o ∈ y.log.map (·.o) := List.mem_map.2 ⟨z, hz, rfl⟩
      rw [h1.log] at this
      obtain ⟨u, hu, e⟩ := List.mem_map.1 this
      rw [← e]
      exact hs.ops u hu, by rw [h1.nodes]; exact hs.nodes, by rw [h1.joined]; exact hs.joined, by rw [h1.left]; exact hs.left⟩
    have := Check9_any y W h2.at hsm ⟨by rw [h1.nodes]; exact hf.nodes, by rw [h1.joined]; exact hf.joined, by rw [h1.left]; exact hf.left, by rw [h1.epoch]; exact hf.ep⟩
    rwa [checkI_same h1, hc] at this)
  obtain ⟨v, vA, vc, b, bA, bc, clock, log, lA, lc, nodes, nA, nc, joined, jA, jc, left, eA, ec, epoch⟩ := m
  obtain ⟨o1, o2, o3, o4, o5, o6, o7, o8, o9⟩ := hok
  have hep := hf.ep
  have hl4 : nodes.length ≤ 1000000 := hs.nodes
  have hz4 := firstE_zero hc (sitesE joined left epoch) (by simp)
  have hrj : risFrom 0 joined = true ∧ risFrom 0 left = true := by
    unfold sitesE at hz4
    by_cases c : (!risFrom 0 joined || !risFrom 0 left || decide (epoch < 0)) = true
    · rw [if_pos c] at hz4; omega
    · simp at c
      exact ⟨c.1.1, c.1.2⟩
  have hj16 : joined.length ≤ 16 := by have := ris_len joined 0 (by omega) (by omega) hrj.1; omega
  have he16 : left.length ≤ 16 := by have := ris_len left 0 (by omega) (by omega) hrj.2; omega
  simp only at o1 o2 o3 o4 o5 o6 o7 o8 o9 hep
  have hvl : v.length ≤ 16 := by rw [← vec_says o1]; exact vec_len (Row.says v)
  have hbl : b.length ≤ 16 := by rw [← vec_says o2]; exact vec_len (Row.says b)
  simp only at hlog
  subst hlog
  have hru : ∀ n ∈ nodes, n.ru ≤ 1114111 := nodes_ru hc
  obtain ⟨clk, rfl⟩ : ∃ c : Nat, clock = c := ⟨clock.toNat, by omega⟩
  obtain ⟨epo, rfl⟩ : ∃ c : Nat, epoch = c := ⟨epoch.toNat, by omega⟩
  obtain ⟨L11, hL11⟩ : ∃ L, enc epo ++ t = L := ⟨_, rfl⟩
  obtain ⟨L10, hL10⟩ : ∃ L, encZ left ++ L11 = L := ⟨_, rfl⟩
  obtain ⟨L9, hL9⟩ : ∃ L, enc left.length ++ L10 = L := ⟨_, rfl⟩
  obtain ⟨L8, hL8⟩ : ∃ L, encZ joined ++ L9 = L := ⟨_, rfl⟩
  obtain ⟨L7, hL7⟩ : ∃ L, enc joined.length ++ L8 = L := ⟨_, rfl⟩
  obtain ⟨L6, hL6⟩ : ∃ L, encN9 nodes ++ L7 = L := ⟨_, rfl⟩
  obtain ⟨L5, hL5⟩ : ∃ L, enc nodes.length ++ L6 = L := ⟨_, rfl⟩
  obtain ⟨L4, hL4⟩ : ∃ L, encL9 [] ++ L5 = L := ⟨_, rfl⟩
  obtain ⟨L3, hL3⟩ : ∃ L, enc 0 ++ L4 = L := ⟨_, rfl⟩
  obtain ⟨L2, hL2⟩ : ∃ L, enc clk ++ L3 = L := ⟨_, rfl⟩
  obtain ⟨L1, hL1⟩ : ∃ L, encs (vnums b) ++ L2 = L := ⟨_, rfl⟩
  obtain ⟨L0, hL0⟩ : ∃ L, encs (vnums v) ++ L1 = L := ⟨_, rfl⟩
  have hall : encI ⟨v, vA, vc, b, bA, bc, (clk : Int), [], lA, lc, nodes, nA, nc, joined, jA, jc, left, eA, ec, (epo : Int)⟩ ++ t = L0 := by
    unfold encI
    simp only
    rw [← hL0, ← hL1, ← hL2, ← hL3, ← hL4, ← hL5, ← hL6, ← hL7, ← hL8, ← hL9, ← hL10, ← hL11]
    simp [encZ, encL9, List.append_assoc]
  rw [hall] at h
  have htv := takeV_encs o1 hvl L1
  have htb := takeV_encs o2 hbl L2
  rw [hL0] at htv
  rw [hL1] at htb
  have HTV := Lib.hid htv
  have HTB := Lib.hid htb
  have H2 := Lib.hid hL2
  have H3 := Lib.hid hL3
  have H4 := Lib.hid hL4
  have H5 := Lib.hid hL5
  have H6 := Lib.hid hL6
  have H7 := Lib.hid hL7
  have H8 := Lib.hid hL8
  have H9 := Lib.hid hL9
  have H10 := Lib.hid hL10
  have H11 := Lib.hid hL11
  have h6n : nodes.length ≤ L6.length := by have := encN9_len nodes; rw [← hL6, List.length_append]; omega
  have HO6 := Lib.hid o6
  have HRU := Lib.hid hru
  have HO7 := Lib.hid o7
  have HO8 := Lib.hid o8
  have hmf : ∀ (fn : Fn) (first cap : Array Value) (w : World), (Instr.makeFunc fn first cap).run Tryz.prog w = .ok (.func fn first cap) w := fun _ _ _ _ => rfl
  have hk0 : Kept (fun _ => False) w ((w.alloc (.cells imZ 28)).alloc (.cells #[.int .i64 0] 32)) := ((Kept.refl _ _).alloc _).alloc _
  have HTK := Lib.hid (show Tk w d g w.heap.size (w.heap.size + 1) imZ L0 ((w.alloc (.cells imZ 28)).alloc (.cells #[.int .i64 0] 32)) from ⟨hk0.more fun _ _ e => e.elim, (Box.new w _ _).alloc _, (Box.new _ _ _).at_eq (show _ = w.heap.size + 1 by simp), h.fresh hk0⟩)
  have hgl : g < w.heap.size := h.at_.lt
  have hdl : d < w.heap.size := h.at_.dlt
  have HB := Lib.hid (show TkB w d g w.heap.size (w.heap.size + 1) from ⟨hgl, hdl, by omega, by omega, by omega⟩)
  clear h hs hf hc hz4 hrj hk0 hgl hdl hL0 hL1 hL2 hL3 hL4 hL5 hL6 hL7 hL8 hL9 hL10 hL11 htv htb hall o5 o6 o7 o8 o1 o2 hru
  unfold imZ at HTK
  go_enter_defers Tryz.func13, Tryz.ntmps13
  go_upto_region 2 with (fail)
  generalize (w.alloc (.cells #[.slice none 0 0, .slice none 0 0, .int .i64 0, .slice none 0 0, .slice none 0 0, .slice none 0 0, .slice none 0 0, .int .i64 0] 28)).alloc (.cells #[.int .i64 0] 32) = w0 at HTK ⊢
  obtain ⟨N, hN⟩ : ∃ N, w.heap.size = N := ⟨_, rfl⟩
  have HN := Lib.hid hN
  rw [hN] at HTK HB ⊢
  clear hN
  go_wp2_with (refine wpList_2p Tryz.underlying82 info_pv rfl _ _ rfl (some ⟨N, 0, none⟩) (some ⟨N, 1, none⟩) rfl rfl ?_)
  have hka := (Kept.refl (fun _ => False) w0).alloc (.cells #[.pointer (some ⟨N, 0, none⟩), .pointer (some ⟨N, 1, none⟩)] 81)
  have HT1 := Lib.hid (HTK.out.fresh hka)
  have hbp := Box.new w0 81 #[.pointer (some ⟨N, 0, none⟩), .pointer (some ⟨N, 1, none⟩)]
  have hsz0 : w.heap.size ≤ w0.heap.size := HTK.out.k.size
  generalize w0.alloc (.cells #[.pointer (some ⟨N, 0, none⟩), .pointer (some ⟨N, 1, none⟩)] 81) = w1 at HT1 hbp ⊢
  obtain ⟨P, hP⟩ : ∃ P, w0.heap.size = P := ⟨_, rfl⟩
  rw [hP] at hbp hsz0 ⊢
  have HBP := Lib.hid hbp
  have HPS := Lib.hid hsz0
  clear hka hbp hP hsz0 HTK
  go_loopw [17] (fun i wr => ∃ k : Nat, i = .int .i64 k ∧ KT g N (N + 1) w1 wr ∧ ((k = 0 ∧ Tk w d g N (N + 1) #[.slice none 0 0, .slice none 0 0, .int .i64 0, .slice none 0 0, .slice none 0 0, .slice none 0 0, .slice none 0 0, .int .i64 0] L0 wr) ∨ (k = 1 ∧ ∃ A1 c1, Tk w d g N (N + 1) #[.slice A1 v.length c1, .slice none 0 0, .int .i64 0, .slice none 0 0, .slice none 0 0, .slice none 0 0, .slice none 0 0, .int .i64 0] L1 wr ∧ wr.ownsRow w.heap.size 59 2 (.slice A1 v.length c1) v.length (dots v)) ∨ (k = 2 ∧ ∃ A1 c1 A2 c2, Tk w d g N (N + 1) #[.slice A1 v.length c1, .slice A2 b.length c2, .int .i64 0, .slice none 0 0, .slice none 0 0, .slice none 0 0, .slice none 0 0, .int .i64 0] L2 wr ∧ wr.ownsRow w.heap.size 59 2 (.slice A1 v.length c1) v.length (dots v) ∧ wr.ownsRow w.heap.size 59 2 (.slice A2 b.length c2) b.length (dots b)))) (fun i _ => 2 - (intOf i).toNat)
  case atStart => exact ⟨0, rfl, KT.refl _, .inl ⟨rfl, HT1.out⟩⟩
  case round =>
    obtain ⟨k, rfl, hkt, hcase⟩ := hrel
    have HKT := Lib.hid hkt
    have hbp := HT1.out.box HB.out HBP.out HPS.out (by decide) (by decide) hkt
    have p0 : wr.cell? ⟨P, 0, none⟩ = some (.pointer (some ⟨N, 0, none⟩)) := (hbp.cell 0).trans rfl
    have p1 : wr.cell? ⟨P, 1, none⟩ = some (.pointer (some ⟨N, 1, none⟩)) := (hbp.cell 1).trans rfl
    clear hkt hbp
    rcases hcase with ⟨rfl, hz⟩ | ⟨rfl, A1, c1, hz, hr0⟩ | ⟨rfl, A1, c1, A2, c2, hz, hr0, hr1⟩
    · as_aux_lemma =>
      have HZ := Lib.hid hz
      clear hz
      go_upto_region 5 with (fail)
      go_wp2_with (fail)
      refine (Take_any d g _ wr HZ.out.r).mono ?_
      unfold TakePost
      rw [HTV.out]
      rintro r w3 ⟨A1, c1, rfl, hrow, hk3, hr3⟩
      have HZ3 := Lib.hid (HZ.out.rd HB.out hk3 hr3)
      have HK3 := Lib.hid (KT.trans HKT.out (KT.rd hk3))
      have HRW := Lib.hid (own_base hrow (show w.heap.size ≤ wr.heap.size from HZ.out.k.size))
      skip
      have cx := (HZ3.out.m.cell 0).trans rfl
      have fx := HZ3.out.m.frozen 0
      clear hrow hk3 hr3 HZ p0 p1
      have hz4 := (HZ3.out.put HB.out 0 (.slice A1 v.length c1)).sete HB.out
      have ce := (HZ3.out.put HB.out 0 (.slice A1 v.length c1)).e.cell 0
      have fe := (HZ3.out.put HB.out 0 (.slice A1 v.length c1)).e.frozen 0
      have ce2 := hz4.e.cell 0
      have kt4 : KT g N (N + 1) w3 ((w3.setCell ⟨N, 0, none⟩ (.slice A1 v.length c1)).setCell ⟨N + 1, 0, none⟩ (.int .i64 0)) := KT.trans (KT.putN _ _) (KT.putM _ _)
      simp only [List.setIfInBounds_toArray, List.set_cons_zero] at hz4
      have HZ4 := Lib.hid hz4
      have HKT4 := Lib.hid (KT.trans HK3.out kt4)
      have HRW4 := Lib.hid (HZ3.out.row HB.out HRW.out (by decide) (by decide) kt4)
      skip
      simp only [List.getElem?_toArray, List.getElem?_cons_zero] at ce ce2
      clear hz4 kt4 HRW HK3
      go_wp2_with (fail)
      refine (must_ok _).mono ?_
      rintro r w5 ⟨rfl, rfl⟩
      go_wp2_with (fail)
      go_roundw
      case rel => exact ⟨1, rfl, HKT4.out, .inr (.inl ⟨rfl, A1, c1, HZ4.out, HRW4.out⟩)⟩
      case measure => simp [intOf]
    · have HR0 := Lib.hid hr0
      clear hr0
      revert hz
      intro hz
      as_aux_lemma =>
      have HZ := Lib.hid hz
      clear hz
      go_upto_region 5 with (fail)
      go_wp2_with (fail)
      refine (Take_any d g _ wr HZ.out.r).mono ?_
      unfold TakePost
      rw [HTB.out]
      rintro r w3 ⟨A2, c2, rfl, hrow, hk3, hr3⟩
      have HZ3 := Lib.hid (HZ.out.rd HB.out hk3 hr3)
      have HK3 := Lib.hid (KT.trans HKT.out (KT.rd hk3))
      have HRW := Lib.hid (own_base hrow (show w.heap.size ≤ wr.heap.size from HZ.out.k.size))
      have HR1 := Lib.hid (HZ.out.row HB.out HR0.out (by decide) (by decide) (KT.rd hk3))
      have cx := (HZ3.out.m.cell 1).trans rfl
      have fx := HZ3.out.m.frozen 1
      clear hrow hk3 hr3 HZ p0 p1
      have hz4 := (HZ3.out.put HB.out 1 (.slice A2 b.length c2)).sete HB.out
      have ce := (HZ3.out.put HB.out 1 (.slice A2 b.length c2)).e.cell 0
      have fe := (HZ3.out.put HB.out 1 (.slice A2 b.length c2)).e.frozen 0
      have ce2 := hz4.e.cell 0
      have kt4 : KT g N (N + 1) w3 ((w3.setCell ⟨N, 1, none⟩ (.slice A2 b.length c2)).setCell ⟨N + 1, 0, none⟩ (.int .i64 0)) := KT.trans (KT.putN _ _) (KT.putM _ _)
      simp only [List.setIfInBounds_toArray, List.set_cons_zero, List.set_cons_succ] at hz4
      have HZ4 := Lib.hid hz4
      have HKT4 := Lib.hid (KT.trans HK3.out kt4)
      have HRW4 := Lib.hid (HZ3.out.row HB.out HRW.out (by decide) (by decide) kt4)
      have HR4 := Lib.hid (HZ3.out.row HB.out HR1.out (by decide) (by decide) kt4)
      simp only [List.getElem?_toArray, List.getElem?_cons_zero] at ce ce2
      clear hz4 kt4 HRW HK3
      go_wp2_with (fail)
      refine (must_ok _).mono ?_
      rintro r w5 ⟨rfl, rfl⟩
      go_wp2_with (fail)
      go_roundw
      case rel => exact ⟨2, rfl, HKT4.out, .inr (.inr ⟨rfl, A1, c1, A2, c2, HZ4.out, HR4.out, HRW4.out⟩)⟩
      case measure => simp [intOf]
    · have HR0 := Lib.hid hr0
      have HR1 := Lib.hid hr1
      have hz0 := hz
      rw [← H2.out] at hz0
      have HZ := Lib.hid hz0
      clear hz hz0 hr0 hr1 p0 p1 HTV HTB
      go_wp2_with (fail)
      refine (number9_ok d g clk (by omega) L3 wr HZ.out.r).mono ?_
      rintro r w3 ⟨rfl, hk3, hr3⟩
      have HZ3 := Lib.hid (HZ.out.rd HB.out hk3 hr3)
      have cx := (HZ3.out.m.cell 2).trans rfl
      have fx := HZ3.out.m.frozen 2
      have hz4 := HZ3.out.put HB.out 2 (.int .i64 clk)
      have kt4 : KT g N (N + 1) wr (w3.setCell ⟨N, 2, none⟩ (.int .i64 clk)) := KT.trans (KT.rd hk3) (KT.putN _ _)
      simp only [List.setIfInBounds_toArray, List.set_cons_zero, List.set_cons_succ] at hz4
      rw [← H3.out] at hz4
      have HZ4 := Lib.hid hz4
      have HKT4 := Lib.hid kt4
      clear hz4 kt4 hk3 hr3
      go_wp2_with (fail)
      refine (list9_left d g 0 L4 (by omega) (by omega) _ HZ4.out.r).mono ?_
      rintro r w5 ⟨rfl, hk5, hr5⟩
      have hz5 := HZ4.out.rd HB.out hk5 hr5
      rw [show L4 = enc nodes.length ++ L6 by rw [← H4.out, H5.out]; simp [encL9]] at hz5
      have kt5 := KT.trans HKT4.out (KT.rd hk5)
      have HZ5 := Lib.hid hz5
      have HR05 := Lib.hid (HZ.out.row HB.out HR0.out (by decide) (by decide) kt5)
      have HR15 := Lib.hid (HZ.out.row HB.out HR1.out (by decide) (by decide) kt5)
      clear hz5 kt5 hk5 hr5 HZ3 HZ4 HKT4 HZ HR0 HR1 cx fx HKT
      go_wp2_with (fail)
      go_loopw [38] (fun i wr => i = .int .i64 0 ∧ wr = w5) (fun _ _ => 0)
      case atStart => exact ⟨rfl, rfl⟩
      case round =>
        obtain ⟨rfl, hwr⟩ := hrel
        subst hwr
        have hmf : ∀ (fn : Fn) (first cap : Array Value) (w : World), (Instr.makeFunc fn first cap).run Tryz.prog w = .ok (.func fn first cap) w := fun _ _ _ _ => rfl
        go_wp2_with (fail)
        refine (list9_left d g nodes.length L6 h6n (by omega) _ HZ5.out.r).mono ?_
        rintro r w6 ⟨rfl, hk6, hr6⟩
        have hz6 := HZ5.out.rd HB.out hk6 hr6
        have HZ6 := Lib.hid hz6
        have HSZ6 := Lib.hid (show w.heap.size ≤ w6.heap.size from hz6.k.size)
        have HR06 := Lib.hid (HZ5.out.row HB.out HR05.out (by decide) (by decide) (KT.rd hk6))
        have HR16 := Lib.hid (HZ5.out.row HB.out HR15.out (by decide) (by decide) (KT.rd hk6))
        clear hz6 hk6 hr6 HZ5 HR05 HR15
        obtain ⟨NN, hNN⟩ : ∃ NN, nodes.length = NN := ⟨_, rfl⟩
        have HNN := Lib.hid hNN
        rw [hNN] at hl4
        rw [hNN]
        clear hNN
        go_wp2_with (fail)
        go_loopw [58] (fun i wr => ∃ (k : Nat) (A3 : Option Addr) (c3 : Nat), i = .int .i64 k ∧ k ≤ NN ∧ Tk w d g N (N + 1) #[.slice A1 v.length c1, .slice A2 b.length c2, .int .i64 clk, .slice none 0 0, .slice A3 k c3, .slice none 0 0, .slice none 0 0, .int .i64 0] (encN9 (nodes.drop k) ++ L7) wr ∧ wr.ownsRow w6.heap.size 66 6 (.slice A3 k c3) k (nds (nodes.take k)) ∧ KT g N (N + 1) w6 wr) (fun i _ => NN - (intOf i).toNat)
        case atStart => exact ⟨0, none, 0, rfl, Nat.zero_le _, by simpa [H6.out] using HZ6.out, World.ownsRow_nil _ _ _ _, KT.refl _⟩
        case round =>
          obtain ⟨k, A3, c3, rfl, hk, hz, hrow, hkt⟩ := hrel
          have HZ := Lib.hid hz
          have HROW := Lib.hid hrow
          have HKT := Lib.hid hkt
          clear hz hrow hkt
          by_cases hlt : k < NN
          · as_aux_lemma =>
            have hin : (k : Int) < (NN : Int) := by omega
            have hkl : k < nodes.length := by rw [HNN.out]; exact hlt
            have ht := List.take_succ_eq_append_getElem hkl
            have hd := List.drop_eq_getElem_cons hkl
            have hx1 := HO6.out _ (List.getElem_mem hkl)
            obtain ⟨x, hx⟩ : ∃ x, nodes[k] = x := ⟨_, rfl⟩
            rw [hx] at ht hd hx1
            obtain ⟨⟨it, is⟩, ⟨rt, rs⟩, ru, st⟩ := x
            have q0 := hx1 it (by simp [ndNums])
            have q1 := hx1 is (by simp [ndNums])
            have q2 := hx1 rt (by simp [ndNums])
            have q3 := hx1 rs (by simp [ndNums])
            have q4 := hx1 ru (by simp [ndNums])
            have q5 := hx1 st (by simp [ndNums])
            have q6 := HRU.out _ (List.getElem_mem hkl)
            rw [hx] at q6
            simp only at q6
            obtain ⟨n0, rfl⟩ : ∃ n : Nat, it = n := ⟨it.toNat, by omega⟩
            obtain ⟨n1, rfl⟩ : ∃ n : Nat, is = n := ⟨is.toNat, by omega⟩
            obtain ⟨n2, rfl⟩ : ∃ n : Nat, rt = n := ⟨rt.toNat, by omega⟩
            obtain ⟨n3, rfl⟩ : ∃ n : Nat, rs = n := ⟨rs.toNat, by omega⟩
            obtain ⟨n4, rfl⟩ : ∃ n : Nat, ru = n := ⟨ru.toNat, by omega⟩
            obtain ⟨n5, rfl⟩ : ∃ n : Nat, st = n := ⟨st.toNat, by omega⟩
            obtain ⟨M6, hM6⟩ : ∃ M, encN9 (nodes.drop (k + 1)) ++ L7 = M := ⟨_, rfl⟩
            have hz := HZ.out
            rw [hd, show encN9 ((⟨⟨(n0 : Int), n1⟩, ⟨(n2 : Int), n3⟩, n4, n5⟩ : Nd) :: nodes.drop (k + 1)) ++ L7 = enc n0 ++ (enc n1 ++ (enc n2 ++ (enc n3 ++ (enc n4 ++ (enc n5 ++ M6))))) by rw [← hM6]; simp [encN9, ndNums, encZ]] at hz
            have HT := Lib.hid ht
            have HM6 := Lib.hid hM6
            have HZA := Lib.hid (hz.fresh ((Kept.refl (fun _ => False) wr).alloc (.cells #[.int .i64 0, .int .i64 0, .int .i64 0, .int .i64 0, .int .i32 0, .int .i64 0] 66)))
            have hbd := Box.new wr 66 #[.int .i64 0, .int .i64 0, .int .i64 0, .int .i64 0, .int .i32 0, .int .i64 0]
            have hkz := (Kept.refl (fun _ => False) wr).alloc (.cells #[.int .i64 0, .int .i64 0, .int .i64 0, .int .i64 0, .int .i32 0, .int .i64 0] 66)
            have hi1 : IntKind.i32.wrap (n4 : Int) = (n4 : Int) := hwrap32 _ (by omega) (by omega)
            have hle : ¬ (n4 : Int) > 1114111 := by omega
            clear ht hd hx1 hx hM6 hz
            go_upto_region 18 with (fail)
            generalize wr.alloc (.cells #[.int .i64 0, .int .i64 0, .int .i64 0, .int .i64 0, .int .i32 0, .int .i64 0] 66) = wa at HZA hbd hkz ⊢
            obtain ⟨D, hD⟩ : ∃ D, wr.heap.size = D := ⟨_, rfl⟩
            have hDN : w.heap.size ≤ D := by rw [← hD]; exact HZ.out.k.size
            have hDn : D ≠ N := fun e => by have := HZ.out.m.lt; omega
            have hDm : D ≠ N + 1 := fun e => by have := HZ.out.e.lt; omega
            rw [hD] at hbd ⊢
            have HBD := Lib.hid hbd
            have HKA := Lib.hid (show Kept (fun k => k = g) wr wa from hkz.more fun _ _ e => e.elim)
            have HD := Lib.hid (show wr.heap.size ≤ D from by omega)
            have HDC := Lib.hid (show w.heap.size ≤ D ∧ D ≠ N ∧ D ≠ N + 1 from ⟨hDN, hDn, hDm⟩)
            clear hbd hkz hD hDN hDn hDm
            go_wp2_with (fail)
            refine (number9_ok d g n0 (by omega) (enc n1 ++ (enc n2 ++ (enc n3 ++ (enc n4 ++ (enc n5 ++ M6))))) wa HZA.out.r).mono ?_
            rintro r wb0 ⟨rfl, hkb, hrb⟩
            have hzb := HZA.out.rd HB.out hkb hrb
            have hbb := HBD.out.kept hkb (by have := HDC.out; have := HB.out.g; omega)
            have hkc : Kept (fun k => k = g ∨ wr.heap.size ≤ k) wr wb0 := (show Kept (fun k => k = g ∨ wr.heap.size ≤ k) wr wa from HKA.out.more fun k _ e => .inl e).trans hkb fun k _ e => .inl e
            have cx := (hbb.cell 0).trans rfl
            have fx := hbb.frozen 0
            have hbc := hbb.set 0 (.int .i64 (n0 : Int))
            have hkd : Kept (fun k => k = D) wb0 (wb0.setCell ⟨D, 0, none⟩ (.int .i64 (n0 : Int))) := (Kept.refl _ _).at 0 _ (.inl rfl)
            have hzc := hzb.other hkd (fun k e => by have := HDC.out; omega) HB.out
            have hke : Kept (fun k => k = g ∨ wr.heap.size ≤ k) wr (wb0.setCell ⟨D, 0, none⟩ (.int .i64 (n0 : Int))) := hkc.trans hkd fun k _ e => .inr (by have := HD.out; omega)
            simp only [List.setIfInBounds_toArray, List.set_cons_zero] at hbc
            have HZ0b := Lib.hid hzc
            have HB0b := Lib.hid hbc
            have HK0b := Lib.hid hke
            clear hzb hbb hkc hbc hkd hzc hke hkb hrb HZA HBD HKA
            go_upto_region 19 with (fail)
            obtain ⟨wc0, hwc⟩ : ∃ wc, wb0.setCell ⟨D, 0, none⟩ (.int .i64 (n0 : Int)) = wc := ⟨_, rfl⟩
            rw [hwc] at HZ0b HB0b HK0b ⊢
            clear hwc cx fx
            go_wp2_with (fail)
            refine (number9_ok d g n1 (by omega) (enc n2 ++ (enc n3 ++ (enc n4 ++ (enc n5 ++ M6)))) wc0 HZ0b.out.r).mono ?_
            rintro r wb1 ⟨rfl, hkb, hrb⟩
            have hzb := HZ0b.out.rd HB.out hkb hrb
            have hbb := HB0b.out.kept hkb (by have := HDC.out; have := HB.out.g; omega)
            have hkc : Kept (fun k => k = g ∨ wr.heap.size ≤ k) wr wb1 := (show Kept (fun k => k = g ∨ wr.heap.size ≤ k) wr wc0 from HK0b.out.more fun k _ e => e).trans hkb fun k _ e => .inl e
            have cx := (hbb.cell 1).trans rfl
            have fx := hbb.frozen 1
            have hbc := hbb.set 1 (.int .i64 (n1 : Int))
            have hkd : Kept (fun k => k = D) wb1 (wb1.setCell ⟨D, 1, none⟩ (.int .i64 (n1 : Int))) := (Kept.refl _ _).at 1 _ (.inl rfl)
            have hzc := hzb.other hkd (fun k e => by have := HDC.out; omega) HB.out
            have hke : Kept (fun k => k = g ∨ wr.heap.size ≤ k) wr (wb1.setCell ⟨D, 1, none⟩ (.int .i64 (n1 : Int))) := hkc.trans hkd fun k _ e => .inr (by have := HD.out; omega)
            simp only [List.setIfInBounds_toArray, List.set_cons_zero, List.set_cons_succ] at hbc
            have HZ1b := Lib.hid hzc
            have HB1b := Lib.hid hbc
            have HK1b := Lib.hid hke
            clear hzb hbb hkc hbc hkd hzc hke hkb hrb HZ0b HB0b HK0b
            go_upto_region 20 with (fail)
            obtain ⟨wc1, hwc⟩ : ∃ wc, wb1.setCell ⟨D, 1, none⟩ (.int .i64 (n1 : Int)) = wc := ⟨_, rfl⟩
            rw [hwc] at HZ1b HB1b HK1b ⊢
            clear hwc cx fx
            go_wp2_with (fail)
            refine (number9_ok d g n2 (by omega) (enc n3 ++ (enc n4 ++ (enc n5 ++ M6))) wc1 HZ1b.out.r).mono ?_
            rintro r wb2 ⟨rfl, hkb, hrb⟩
            have hzb := HZ1b.out.rd HB.out hkb hrb
            have hbb := HB1b.out.kept hkb (by have := HDC.out; have := HB.out.g; omega)
            have hkc : Kept (fun k => k = g ∨ wr.heap.size ≤ k) wr wb2 := (show Kept (fun k => k = g ∨ wr.heap.size ≤ k) wr wc1 from HK1b.out.more fun k _ e => e).trans hkb fun k _ e => .inl e
            have cx := (hbb.cell 2).trans rfl
            have fx := hbb.frozen 2
            have hbc := hbb.set 2 (.int .i64 (n2 : Int))
            have hkd : Kept (fun k => k = D) wb2 (wb2.setCell ⟨D, 2, none⟩ (.int .i64 (n2 : Int))) := (Kept.refl _ _).at 2 _ (.inl rfl)
            have hzc := hzb.other hkd (fun k e => by have := HDC.out; omega) HB.out
            have hke : Kept (fun k => k = g ∨ wr.heap.size ≤ k) wr (wb2.setCell ⟨D, 2, none⟩ (.int .i64 (n2 : Int))) := hkc.trans hkd fun k _ e => .inr (by have := HD.out; omega)
            simp only [List.setIfInBounds_toArray, List.set_cons_zero, List.set_cons_succ] at hbc
            have HZ2b := Lib.hid hzc
            have HB2b := Lib.hid hbc
            have HK2b := Lib.hid hke
            clear hzb hbb hkc hbc hkd hzc hke hkb hrb HZ1b HB1b HK1b
            go_upto_region 21 with (fail)
            obtain ⟨wc2, hwc⟩ : ∃ wc, wb2.setCell ⟨D, 2, none⟩ (.int .i64 (n2 : Int)) = wc := ⟨_, rfl⟩
            rw [hwc] at HZ2b HB2b HK2b ⊢
            clear hwc cx fx
            go_wp2_with (fail)
            refine (number9_ok d g n3 (by omega) (enc n4 ++ (enc n5 ++ M6)) wc2 HZ2b.out.r).mono ?_
            rintro r wb3 ⟨rfl, hkb, hrb⟩
            have hzb := HZ2b.out.rd HB.out hkb hrb
            have hbb := HB2b.out.kept hkb (by have := HDC.out; have := HB.out.g; omega)
            have hkc : Kept (fun k => k = g ∨ wr.heap.size ≤ k) wr wb3 := (show Kept (fun k => k = g ∨ wr.heap.size ≤ k) wr wc2 from HK2b.out.more fun k _ e => e).trans hkb fun k _ e => .inl e
            have cx := (hbb.cell 3).trans rfl
            have fx := hbb.frozen 3
            have hbc := hbb.set 3 (.int .i64 (n3 : Int))
            have hkd : Kept (fun k => k = D) wb3 (wb3.setCell ⟨D, 3, none⟩ (.int .i64 (n3 : Int))) := (Kept.refl _ _).at 3 _ (.inl rfl)
            have hzc := hzb.other hkd (fun k e => by have := HDC.out; omega) HB.out
            have hke : Kept (fun k => k = g ∨ wr.heap.size ≤ k) wr (wb3.setCell ⟨D, 3, none⟩ (.int .i64 (n3 : Int))) := hkc.trans hkd fun k _ e => .inr (by have := HD.out; omega)
            simp only [List.setIfInBounds_toArray, List.set_cons_zero, List.set_cons_succ] at hbc
            have HZ3b := Lib.hid hzc
            have HB3b := Lib.hid hbc
            have HK3b := Lib.hid hke
            clear hzb hbb hkc hbc hkd hzc hke hkb hrb HZ2b HB2b HK2b
            go_upto_region 22 with (fail)
            obtain ⟨wc3, hwc⟩ : ∃ wc, wb3.setCell ⟨D, 3, none⟩ (.int .i64 (n3 : Int)) = wc := ⟨_, rfl⟩
            rw [hwc] at HZ3b HB3b HK3b ⊢
            clear hwc cx fx
            go_wp2_with (fail)
            refine (number9_ok d g n4 (by omega) (enc n5 ++ M6) wc3 HZ3b.out.r).mono ?_
            rintro r wb4 ⟨rfl, hkb, hrb⟩
            have hzb := HZ3b.out.rd HB.out hkb hrb
            have hbb := HB3b.out.kept hkb (by have := HDC.out; have := HB.out.g; omega)
            have hkc : Kept (fun k => k = g ∨ wr.heap.size ≤ k) wr wb4 := (show Kept (fun k => k = g ∨ wr.heap.size ≤ k) wr wc3 from HK3b.out.more fun k _ e => e).trans hkb fun k _ e => .inl e
            have HZ4a := Lib.hid hzb
            have HB4a := Lib.hid hbb
            have HK4a := Lib.hid hkc
            clear hzb hbb hkc hkb hrb HZ3b HB3b HK3b
            go_wp2_with (fail)
            refine (when_any _ 6 _).mono ?_
            rintro r wq1 ⟨rfl, rfl⟩
            rw [show (if decide (1114111 < (n4 : Int)) = true then (6 : Int) else 0) = 0 from if_neg (by simp; omega)]
            go_wp2_with (fail)
            refine (must_ok _).mono ?_
            rintro r wq2 ⟨rfl, rfl⟩
            have hzb := HZ4a.out
            have hbb := HB4a.out
            have hkc := HK4a.out
            have cx := (hbb.cell 4).trans rfl
            have fx := hbb.frozen 4
            have hbc := hbb.set 4 (.int .i32 (n4 : Int))
            have hkd : Kept (fun k => k = D) wq2 (wq2.setCell ⟨D, 4, none⟩ (.int .i32 (n4 : Int))) := (Kept.refl _ _).at 4 _ (.inl rfl)
            have hzc := hzb.other hkd (fun k e => by have := HDC.out; omega) HB.out
            have hke : Kept (fun k => k = g ∨ wr.heap.size ≤ k) wr (wq2.setCell ⟨D, 4, none⟩ (.int .i32 (n4 : Int))) := hkc.trans hkd fun k _ e => .inr (by have := HD.out; omega)
            simp only [List.setIfInBounds_toArray, List.set_cons_zero, List.set_cons_succ] at hbc
            have HZ4b := Lib.hid hzc
            have HB4b := Lib.hid hbc
            have HK4b := Lib.hid hke
            clear hzb hbb hkc hbc hkd hzc hke HZ4a HB4a HK4a
            go_upto_region 25 with (fail)
            obtain ⟨wc4, hwc⟩ : ∃ wc, wq2.setCell ⟨D, 4, none⟩ (.int .i32 (n4 : Int)) = wc := ⟨_, rfl⟩
            rw [hwc] at HZ4b HB4b HK4b ⊢
            clear hwc cx fx
            go_wp2_with (fail)
            refine (number9_ok d g n5 (by omega) (M6) wc4 HZ4b.out.r).mono ?_
            rintro r wb5 ⟨rfl, hkb, hrb⟩
            have hzb := HZ4b.out.rd HB.out hkb hrb
            have hbb := HB4b.out.kept hkb (by have := HDC.out; have := HB.out.g; omega)
            have hkc : Kept (fun k => k = g ∨ wr.heap.size ≤ k) wr wb5 := (show Kept (fun k => k = g ∨ wr.heap.size ≤ k) wr wc4 from HK4b.out.more fun k _ e => e).trans hkb fun k _ e => .inl e
            have cx := (hbb.cell 5).trans rfl
            have fx := hbb.frozen 5
            have hbc := hbb.set 5 (.int .i64 (n5 : Int))
            have hkd : Kept (fun k => k = D) wb5 (wb5.setCell ⟨D, 5, none⟩ (.int .i64 (n5 : Int))) := (Kept.refl _ _).at 5 _ (.inl rfl)
            have hzc := hzb.other hkd (fun k e => by have := HDC.out; omega) HB.out
            have hke : Kept (fun k => k = g ∨ wr.heap.size ≤ k) wr (wb5.setCell ⟨D, 5, none⟩ (.int .i64 (n5 : Int))) := hkc.trans hkd fun k _ e => .inr (by have := HD.out; omega)
            simp only [List.setIfInBounds_toArray, List.set_cons_zero, List.set_cons_succ] at hbc
            have HZ5b := Lib.hid hzc
            have HB5b := Lib.hid hbc
            have HK5b := Lib.hid hke
            clear hzb hbb hkc hbc hkd hzc hke hkb hrb HZ4b HB4b HK4b
            go_upto_region 26 with (fail)
            obtain ⟨wc5, hwc⟩ : ∃ wc, wb5.setCell ⟨D, 5, none⟩ (.int .i64 (n5 : Int)) = wc := ⟨_, rfl⟩
            rw [hwc] at HZ5b HB5b HK5b ⊢
            clear hwc cx fx
            have hrow := HK5b.out.own HROW.out fun j e1 e2 => by
              have := HROW.out.lt j e1
              have := HZ.out.k.size
              have := HB.out.g
              have hs6 := HSZ6.out
              rcases e2 with rfl | e2
              · omega
              · omega
            have HROW5 := Lib.hid hrow
            have c4 := (HZ5b.out.m.cell 4).trans rfl
            have x0 := (HB5b.out.cell 0).trans rfl
            have x1 := (HB5b.out.cell 1).trans rfl
            have x2 := (HB5b.out.cell 2).trans rfl
            have x3 := (HB5b.out.cell 3).trans rfl
            have x4 := (HB5b.out.cell 4).trans rfl
            have x5 := (HB5b.out.cell 5).trans rfl
            have aN := Tryz.isAgg66
            have zN := Tryz.sizeOf66
            clear hrow
            go_wp2_with (first | refine wpList_one_nd rfl _ rfl (⟨⟨(n0 : Int), (n1 : Int)⟩, ⟨(n2 : Int), (n3 : Int)⟩, (n4 : Int), (n5 : Int)⟩ : Nd) rfl ?_ | (at_builtin; refine Hid.out ?_))
            refine Lib.hid ?_
            refine wpList_append_new eltNds rfl _ _ rfl w6.heap.size _ k (nds (nodes.take k)) rfl HROW5.out 1 1 rfl rfl rfl (by omega) (Nat.le_trans (HKT.out : Kept _ _ _).size HK5b.out.size) ?_
            intro A4 c4' w7 HO7 HK7 HG7
            have hz7 := HZ5b.out.other HK7.out (fun j e => ⟨by have := (HROW5.out.lt j e).1; have := HSZ6.out; omega, fun e2 => own_box_ne HROW5.out HZ5b.out.m (by decide) (e2 ▸ e), fun e2 => own_box_ne HROW5.out HZ5b.out.e (by decide) (e2 ▸ e)⟩) HB.out
            have cx := (hz7.m.cell 4).trans rfl
            have fx := hz7.m.frozen 4
            have hz8 := hz7.put HB.out 4 (.slice A4 (k + 1) c4')
            have kt8 : KT g N (N + 1) w6 (w7.setCell ⟨N, 4, none⟩ (.slice A4 (k + 1) c4')) := KT.trans (Kept.trans (Kept.trans HKT.out HK5b.out fun j hj e => by
              rcases e with e | e
              · exact .inl e
              · have := (HKT.out : Kept _ _ _).size; omega) HK7.out fun j hj e => by have := (HROW5.out.lt j e).1; omega) (KT.putN _ _)
            have hr8 := row_put (i := 4) (u := .slice A4 (k + 1) c4') HO7.out hz7.m (by decide)
            rw [show nds (nodes.take k) ++ (⟨⟨(n0 : Int), (n1 : Int)⟩, ⟨(n2 : Int), (n3 : Int)⟩, (n4 : Int), (n5 : Int)⟩ : Nd).c.toList = nds (nodes.take (k + 1)) by rw [HT.out, nds_app]; rfl] at hr8
            simp only [List.setIfInBounds_toArray, List.set_cons_zero, List.set_cons_succ] at hz8
            rw [← HM6.out] at hz8
            have HZ8 := Lib.hid hz8
            have HKT8 := Lib.hid kt8
            have HR8 := Lib.hid hr8
            clear hz7 hz8 kt8 hr8 HO7 HK7 HG7 c4 x0 x1 x2 x3 x4 x5 aN zN
            go_wp2_with (fail)
            go_roundw
            case rel => exact ⟨k + 1, A4, c4', by go_num, by omega, HZ8.out, HR8.out, HKT8.out⟩
            case measure => simp [intOf]; omega
          · have hin : ¬ (k : Int) < (NN : Int) := by omega
            have hkN : k = NN := by omega
            subst hkN
            have hk2 : nodes.length = k := HNN.out
            subst hk2
            have hz := HZ.out
            rw [List.drop_eq_nil_of_le (Nat.le_refl _), show encN9 [] ++ L7 = enc joined.length ++ L8 by rw [H7.out]; rfl] at hz
            have hrow := HROW.out
            rw [List.take_of_length_le (Nat.le_refl _)] at hrow
            have HZ9 := Lib.hid hz
            have HR2 := Lib.hid (own_base hrow (show w.heap.size ≤ w6.heap.size from HSZ6.out))
            have HR0 := Lib.hid (HZ6.out.row HB.out HR06.out (by decide) (by decide) HKT.out)
            have HR1 := Lib.hid (HZ6.out.row HB.out HR16.out (by decide) (by decide) HKT.out)
            clear hz hrow HROW HKT HZ6 HR06 HR16 HZ
            go_wp2_with (refine wpList_2p Tryz.underlying92 info_pi rfl _ _ rfl (some ⟨N, 5, none⟩) (some ⟨N, 6, none⟩) rfl rfl ?_)
            have hka := (Kept.refl (fun _ => False) wr).alloc (.cells #[.pointer (some ⟨N, 5, none⟩), .pointer (some ⟨N, 6, none⟩)] 91)
            have HZA := Lib.hid (HZ9.out.fresh hka)
            have HR0A := Lib.hid (hka.own HR0.out fun _ _ => id)
            have HR1A := Lib.hid (hka.own HR1.out fun _ _ => id)
            have HR2A := Lib.hid (hka.own HR2.out fun _ _ => id)
            have hbp := Box.new wr 91 #[.pointer (some ⟨N, 5, none⟩), .pointer (some ⟨N, 6, none⟩)]
            have hsz0 : w.heap.size ≤ wr.heap.size := HZ9.out.k.size
            generalize wr.alloc (.cells #[.pointer (some ⟨N, 5, none⟩), .pointer (some ⟨N, 6, none⟩)] 91) = wa at HZA HR0A HR1A HR2A hbp ⊢
            obtain ⟨P2, hP2⟩ : ∃ P, wr.heap.size = P := ⟨_, rfl⟩
            rw [hP2] at hbp hsz0 ⊢
            have HBQ := Lib.hid hbp
            have HPQ := Lib.hid hsz0
            clear hka hbp hP2 hsz0 HZ9 HR0 HR1 HR2
            go_loopw [99] (fun i wr => ∃ q : Nat, i = .int .i64 q ∧ KT g N (N + 1) wa wr ∧ ((q = 0 ∧ Tk w d g N (N + 1) #[.slice A1 v.length c1, .slice A2 b.length c2, .int .i64 clk, .slice none 0 0, .slice A3 nodes.length c3, .slice none 0 0, .slice none 0 0, .int .i64 0] (enc joined.length ++ L8) wr) ∨ (q = 1 ∧ ∃ A5 c5, Tk w d g N (N + 1) #[.slice A1 v.length c1, .slice A2 b.length c2, .int .i64 clk, .slice none 0 0, .slice A3 nodes.length c3, .slice A5 joined.length c5, .slice none 0 0, .int .i64 0] (enc left.length ++ L10) wr ∧ wr.ownsRow w.heap.size 3 1 (.slice A5 joined.length c5) joined.length (ints joined)) ∨ (q = 2 ∧ ∃ A5 c5 A6 c6, Tk w d g N (N + 1) #[.slice A1 v.length c1, .slice A2 b.length c2, .int .i64 clk, .slice none 0 0, .slice A3 nodes.length c3, .slice A5 joined.length c5, .slice A6 left.length c6, .int .i64 0] L11 wr ∧ wr.ownsRow w.heap.size 3 1 (.slice A5 joined.length c5) joined.length (ints joined) ∧ wr.ownsRow w.heap.size 3 1 (.slice A6 left.length c6) left.length (ints left)))) (fun i _ => 2 - (intOf i).toNat)
            case atStart => exact ⟨0, rfl, KT.refl _, .inl ⟨rfl, HZA.out⟩⟩
            case round =>
              obtain ⟨q, rfl, hkt, hcase⟩ := hrel
              have HKT := Lib.hid hkt
              have hbp := HZA.out.box HB.out HBQ.out HPQ.out (by decide) (by decide) hkt
              have p0 : wr.cell? ⟨P2, 0, none⟩ = some (.pointer (some ⟨N, 5, none⟩)) := (hbp.cell 0).trans rfl
              have p1 : wr.cell? ⟨P2, 1, none⟩ = some (.pointer (some ⟨N, 6, none⟩)) := (hbp.cell 1).trans rfl
              clear hkt hbp
              rcases hcase with ⟨rfl, hz⟩ | ⟨rfl, A5, c5, hz, hrj⟩ | ⟨rfl, A5, c5, A6, c6, hz, hrj, hre⟩
              · skip
                have HZ := Lib.hid hz
                clear hz
                skip
                skip
                go_wp2_with (fail)
                refine (list9_16 d g joined.length hj16 L8 wr HZ.out.r).mono ?_
                rintro r w8 ⟨rfl, hk8, hr8⟩
                have hz8 := HZ.out.rd HB.out hk8 hr8
                rw [← H8.out] at hz8
                have HZ8 := Lib.hid hz8
                have HKT8 := Lib.hid (KT.trans HKT.out (KT.rd hk8))
                have HSZ8 := Lib.hid (show w.heap.size ≤ w8.heap.size from hz8.k.size)
                skip
                obtain ⟨NJ, hNJ⟩ : ∃ NJ, joined.length = NJ := ⟨_, rfl⟩
                have HNJ := Lib.hid hNJ
                have hnj : NJ ≤ 16 := by rw [← hNJ]; exact hj16
                rw [hNJ]
                clear hk8 hr8 hz8 hNJ p0 p1 HZ HKT
                go_wp2_with (fail)
                go_loopw [105] (fun i wr => ∃ (u : Nat) (A : Option Addr) (c : Nat), i = .int .i64 u ∧ u ≤ NJ ∧ Tk w d g N (N + 1) #[.slice A1 v.length c1, .slice A2 b.length c2, .int .i64 clk, .slice none 0 0, .slice A3 nodes.length c3, .slice A u c, .slice none 0 0, .int .i64 0] (encZ (joined.drop u) ++ L9) wr ∧ wr.ownsRow w8.heap.size 3 1 (.slice A u c) u (ints (joined.take u)) ∧ KT g N (N + 1) w8 wr) (fun i _ => NJ - (intOf i).toNat)
                case atStart => exact ⟨0, none, 0, rfl, Nat.zero_le _, by simpa using HZ8.out, World.ownsRow_nil _ _ _ _, KT.refl _⟩
                case round =>
                  obtain ⟨u, A, c, rfl, hu, hz, hrow, hkt⟩ := hrel
                  have HZ := Lib.hid hz
                  have HROW := Lib.hid hrow
                  have HKT := Lib.hid hkt
                  clear hz hrow hkt
                  by_cases hlt : u < NJ
                  · as_aux_lemma =>
                    have hin : (u : Int) < (NJ : Int) := by omega
                    have hul : u < joined.length := by rw [HNJ.out]; exact hlt
                    have ht := List.take_succ_eq_append_getElem hul
                    have hd := List.drop_eq_getElem_cons hul
                    have hx1 := HO7.out _ (List.getElem_mem hul)
                    obtain ⟨x, hx⟩ : ∃ x, joined[u] = x := ⟨_, rfl⟩
                    rw [hx] at ht hd hx1
                    obtain ⟨n, rfl⟩ : ∃ n : Nat, x = n := ⟨x.toNat, by omega⟩
                    have hz := HZ.out
                    rw [hd, show encZ ((n : Int) :: joined.drop (u + 1)) ++ L9 = enc n ++ (encZ (joined.drop (u + 1)) ++ L9) by simp [encZ]] at hz
                    have HT := Lib.hid ht
                    have ch := (hz.m.cell 5).trans rfl
                    clear ht hd hx
                    go_upto_region 33 with (fail)
                    obtain ⟨w6', hw6⟩ : ∃ w6', wr.drew = w6' := ⟨_, rfl⟩
                    have hk6 : Kept (fun _ => False) wr w6' := hw6 ▸ (Kept.refl _ _).drew
                    refine Code.wp_mono onlyN_mono ?_
                    refine wp_region_G (S := fun Wz => Wz.cell? ⟨N, 5, none⟩ = some (.slice A u c)) 9 (by kernel_rfl) ch fun hS => ?_
                    rw [hw6] at hS ⊢
                    refine AnyG.takeTo 107 (i := 0) (v := .pointer (some ⟨N, 5, none⟩)) rfl rfl rfl (by kernel_rfl) (by kernel_rfl) (by kernel_rfl) (by kernel_rfl) (fun _ _ _ h => h) rfl hS (fun Wz hW => by go_simp) ?_
                    simp only [List.setIfInBounds_toArray, List.set_cons_zero, List.set_cons_succ]
                    refine AnyG.takeTo 108 (i := 1) (v := .pointer (some ⟨N, 5, none⟩)) rfl rfl rfl (by kernel_rfl) (by kernel_rfl) (by kernel_rfl) (by kernel_rfl) (fun _ _ _ h => h) rfl hS (fun Wz hW => by go_simp) ?_
                    simp only [List.setIfInBounds_toArray, List.set_cons_zero, List.set_cons_succ]
                    refine AnyG.takeTo 109 (i := 2) (v := .pointer (some ⟨N, 5, none⟩)) rfl rfl rfl (by kernel_rfl) (by kernel_rfl) (by kernel_rfl) (by kernel_rfl) (fun _ _ _ h => h) rfl hS (fun Wz hW => by go_simp) ?_
                    simp only [List.setIfInBounds_toArray, List.set_cons_zero, List.set_cons_succ]
                    refine AnyG.takeTo 110 (i := 3) (v := .slice A u c) rfl rfl rfl (by kernel_rfl) (by kernel_rfl) (by kernel_rfl) (by kernel_rfl) (fun _ _ _ h => h) rfl hS (fun Wz hW => by (have hc := hW; go_simp)) ?_
                    simp only [List.setIfInBounds_toArray, List.set_cons_zero, List.set_cons_succ]
                    refine AnyG.takeTo 111 (i := 4) (v := .pointer (some ⟨g, 0, none⟩)) rfl rfl rfl (by kernel_rfl) (by kernel_rfl) (by kernel_rfl) (by kernel_rfl) (fun _ _ _ h => h) rfl hS (fun Wz hW => by go_simp) ?_
                    simp only [List.setIfInBounds_toArray, List.set_cons_zero, List.set_cons_succ]
                    have hz6 := hz.fresh hk6
                    have hrow6 := hk6.own HROW.out fun _ _ => id
                    refine AnyG.one (i := 5) (by kernel_rfl) rfl fun K hK => ?_
                    go_wp2_with (fail)
                    refine (number9_ok d g n (by omega) (encZ (joined.drop (u + 1)) ++ L9) w6' hz6.r).mono ?_
                    rintro r w7 ⟨rfl, hk7, hr7⟩
                    have hz7 := hz6.rd HB.out hk7 hr7
                    have hrow7 := hk7.own hrow6 fun j e1 e2 => by
                      have := (hrow6.lt j e1).1
                      have := HSZ8.out
                      have := HB.out.g
                      omega
                    have ch7 := (hz7.m.cell 5).trans rfl
                    have kt7 : KT g N (N + 1) w8 w7 := KT.trans (KT.trans HKT.out (KT.fresh hk6)) (KT.rd hk7)
                    go_wp2_with (fail)
                    refine hK.out _ _ (fun _ => ch7) ?_
                    clear hK K
                    refine AnyG.one (i := 6) (by kernel_rfl) rfl fun K hK => ?_
                    go_wp2_with (fail)
                    refine hK.out _ _ (fun _ => ((Kept.refl (fun _ => False) w7).alloc _).cellF ch7) ?_
                    clear hK K
                    refine AnyG.one (i := 7) (by kernel_rfl) rfl fun K hK => ?_
                    refine wpList_append_new eltInts rfl _ _ rfl w8.heap.size _ u (ints (joined.take u)) rfl hrow7 1 1 rfl rfl rfl (by omega) (KT.size kt7) ?_
                    intro A4 c4' w9 HO9 HK9 HG9
                    have hz9 := hz7.other HK9.out (fun j e => ⟨by have := (hrow7.lt j e).1; have := HSZ8.out; omega, fun e2 => own_box_ne hrow7 hz7.m (by decide) (e2 ▸ e), fun e2 => own_box_ne hrow7 hz7.e (by decide) (e2 ▸ e)⟩) HB.out
                    have ch9 := (hz9.m.cell 5).trans rfl
                    have kt9 : KT g N (N + 1) w8 w9 := Kept.trans kt7 HK9.out fun j hj e => by have := (hrow7.lt j e).1; omega
                    refine wpList_nil ?_
                    refine hK.out _ _ (fun _ => ch9) ?_
                    clear hK K
                    simp only [Act.put, List.setIfInBounds_toArray]
                    refine AnyG.takeTo 115 (i := 8) (v := .pointer (some ⟨N, 5, none⟩)) rfl rfl rfl (by kernel_rfl) (by kernel_rfl) (by kernel_rfl) (by kernel_rfl) (fun _ _ _ h => h) rfl ch9 (fun Wz hW => by go_simp) ?_
                    skip
                    have fx := hz9.m.frozen 5
                    refine AnyG.one (i := 9) (by kernel_rfl) rfl fun K hK => ?_
                    go_wp2_with (fail)
                    refine hK.out _ _ (fun e => absurd rfl e) ?_
                    clear hK K
                    refine AnyG.done (by kernel_rfl) ?_ _
                    unfold OnlyN
                    have hz10 := hz9.put HB.out 5 (.slice A4 (u + 1) c4')
                    have kt10 := KT.trans kt9 (KT.putN (M := N + 1) (g := g) (N := N) (W := w9) 5 (.slice A4 (u + 1) c4'))
                    have hr10 := row_put (i := 5) (u := .slice A4 (u + 1) c4') HO9.out hz9.m (by decide)
                    rw [show ints (joined.take u) ++ (#[Value.int .i64 (n : Int)] : Array Value).toList = ints (joined.take (u + 1)) by rw [HT.out, ints_app]; rfl] at hr10
                    simp only [List.setIfInBounds_toArray, List.set_cons_zero, List.set_cons_succ] at hz10
                    have HZ10 := Lib.hid hz10
                    have HKT10 := Lib.hid kt10
                    have HR10 := Lib.hid hr10
                    clear hz10 kt10 hr10 HO9 HK9 HG9 hz9 ch9 kt9 hz7 hz6 hrow6 hrow7 ch7 kt7 hk7 hr7 hk6 hw6 hS ch hz fx
                    go_wp2_with (fail)
                    go_roundw
                    case rel => exact ⟨u + 1, A4, c4', by go_num, by omega, HZ10.out, HR10.out, HKT10.out⟩
                    case measure => simp [intOf]; omega
                  · as_aux_lemma =>
                    have hin : ¬ (u : Int) < (NJ : Int) := by omega
                    have huN : u = joined.length := by have := HNJ.out; omega
                    have hz := HZ.out
                    have hrow := HROW.out
                    have hnj2 := HNJ.out
                    subst huN
                    rw [List.drop_eq_nil_of_le (Nat.le_refl _), show encZ [] ++ L9 = enc left.length ++ L10 by rw [H9.out]; rfl] at hz
                    rw [List.take_of_length_le (Nat.le_refl _)] at hrow
                    have HZ9 := Lib.hid hz
                    have HR9 := Lib.hid (own_base hrow (show w.heap.size ≤ w8.heap.size from HSZ8.out))
                    have HK9 := Lib.hid (KT.trans HKT8.out HKT.out)
                    skip
                    clear hz hrow hnj2 HROW HZ HKT
                    go_wp2_with (fail)
                    go_roundw
                    case rel => exact ⟨1, rfl, HK9.out, .inr (.inl ⟨rfl, A, c, HZ9.out, HR9.out⟩)⟩
                    case measure => simp [intOf]
              · skip
                have HZ := Lib.hid hz
                clear hz
                have HRJ := Lib.hid hrj
                clear hrj
                go_wp2_with (fail)
                refine (list9_16 d g left.length he16 L10 wr HZ.out.r).mono ?_
                rintro r w8 ⟨rfl, hk8, hr8⟩
                have hz8 := HZ.out.rd HB.out hk8 hr8
                rw [← H10.out] at hz8
                have HZ8 := Lib.hid hz8
                have HKT8 := Lib.hid (KT.trans HKT.out (KT.rd hk8))
                have HSZ8 := Lib.hid (show w.heap.size ≤ w8.heap.size from hz8.k.size)
                have HRJ8 := Lib.hid (HZ.out.row HB.out HRJ.out (by decide) (by decide) (KT.rd hk8))
                obtain ⟨NJ, hNJ⟩ : ∃ NJ, left.length = NJ := ⟨_, rfl⟩
                have HNJ := Lib.hid hNJ
                have hnj : NJ ≤ 16 := by rw [← hNJ]; exact he16
                rw [hNJ]
                clear hk8 hr8 hz8 hNJ p0 p1 HZ HKT
                go_wp2_with (fail)
                go_loopw [105] (fun i wr => ∃ (u : Nat) (A : Option Addr) (c : Nat), i = .int .i64 u ∧ u ≤ NJ ∧ Tk w d g N (N + 1) #[.slice A1 v.length c1, .slice A2 b.length c2, .int .i64 clk, .slice none 0 0, .slice A3 nodes.length c3, .slice A5 joined.length c5, .slice A u c, .int .i64 0] (encZ (left.drop u) ++ L11) wr ∧ wr.ownsRow w8.heap.size 3 1 (.slice A u c) u (ints (left.take u)) ∧ KT g N (N + 1) w8 wr) (fun i _ => NJ - (intOf i).toNat)
                case atStart => exact ⟨0, none, 0, rfl, Nat.zero_le _, by simpa using HZ8.out, World.ownsRow_nil _ _ _ _, KT.refl _⟩
                case round =>
                  obtain ⟨u, A, c, rfl, hu, hz, hrow, hkt⟩ := hrel
                  have HZ := Lib.hid hz
                  have HROW := Lib.hid hrow
                  have HKT := Lib.hid hkt
                  clear hz hrow hkt
                  by_cases hlt : u < NJ
                  · as_aux_lemma =>
                    have hin : (u : Int) < (NJ : Int) := by omega
                    have hul : u < left.length := by rw [HNJ.out]; exact hlt
                    have ht := List.take_succ_eq_append_getElem hul
                    have hd := List.drop_eq_getElem_cons hul
                    have hx1 := HO8.out _ (List.getElem_mem hul)
                    obtain ⟨x, hx⟩ : ∃ x, left[u] = x := ⟨_, rfl⟩
                    rw [hx] at ht hd hx1
                    obtain ⟨n, rfl⟩ : ∃ n : Nat, x = n := ⟨x.toNat, by omega⟩
                    have hz := HZ.out
                    rw [hd, show encZ ((n : Int) :: left.drop (u + 1)) ++ L11 = enc n ++ (encZ (left.drop (u + 1)) ++ L11) by simp [encZ]] at hz
                    have HT := Lib.hid ht
                    have ch := (hz.m.cell 6).trans rfl
                    clear ht hd hx
                    go_upto_region 33 with (fail)
                    obtain ⟨w6', hw6⟩ : ∃ w6', wr.drew = w6' := ⟨_, rfl⟩
                    have hk6 : Kept (fun _ => False) wr w6' := hw6 ▸ (Kept.refl _ _).drew
                    refine Code.wp_mono onlyN_mono ?_
                    refine wp_region_G (S := fun Wz => Wz.cell? ⟨N, 6, none⟩ = some (.slice A u c)) 9 (by kernel_rfl) ch fun hS => ?_
                    rw [hw6] at hS ⊢
                    refine AnyG.takeTo 107 (i := 0) (v := .pointer (some ⟨N, 6, none⟩)) rfl rfl rfl (by kernel_rfl) (by kernel_rfl) (by kernel_rfl) (by kernel_rfl) (fun _ _ _ h => h) rfl hS (fun Wz hW => by go_simp) ?_
                    simp only [List.setIfInBounds_toArray, List.set_cons_zero, List.set_cons_succ]
                    refine AnyG.takeTo 108 (i := 1) (v := .pointer (some ⟨N, 6, none⟩)) rfl rfl rfl (by kernel_rfl) (by kernel_rfl) (by kernel_rfl) (by kernel_rfl) (fun _ _ _ h => h) rfl hS (fun Wz hW => by go_simp) ?_
                    simp only [List.setIfInBounds_toArray, List.set_cons_zero, List.set_cons_succ]
                    refine AnyG.takeTo 109 (i := 2) (v := .pointer (some ⟨N, 6, none⟩)) rfl rfl rfl (by kernel_rfl) (by kernel_rfl) (by kernel_rfl) (by kernel_rfl) (fun _ _ _ h => h) rfl hS (fun Wz hW => by go_simp) ?_
                    simp only [List.setIfInBounds_toArray, List.set_cons_zero, List.set_cons_succ]
                    refine AnyG.takeTo 110 (i := 3) (v := .slice A u c) rfl rfl rfl (by kernel_rfl) (by kernel_rfl) (by kernel_rfl) (by kernel_rfl) (fun _ _ _ h => h) rfl hS (fun Wz hW => by (have hc := hW; go_simp)) ?_
                    simp only [List.setIfInBounds_toArray, List.set_cons_zero, List.set_cons_succ]
                    refine AnyG.takeTo 111 (i := 4) (v := .pointer (some ⟨g, 0, none⟩)) rfl rfl rfl (by kernel_rfl) (by kernel_rfl) (by kernel_rfl) (by kernel_rfl) (fun _ _ _ h => h) rfl hS (fun Wz hW => by go_simp) ?_
                    simp only [List.setIfInBounds_toArray, List.set_cons_zero, List.set_cons_succ]
                    have hz6 := hz.fresh hk6
                    have hrow6 := hk6.own HROW.out fun _ _ => id
                    refine AnyG.one (i := 5) (by kernel_rfl) rfl fun K hK => ?_
                    go_wp2_with (fail)
                    refine (number9_ok d g n (by omega) (encZ (left.drop (u + 1)) ++ L11) w6' hz6.r).mono ?_
                    rintro r w7 ⟨rfl, hk7, hr7⟩
                    have hz7 := hz6.rd HB.out hk7 hr7
                    have hrow7 := hk7.own hrow6 fun j e1 e2 => by
                      have := (hrow6.lt j e1).1
                      have := HSZ8.out
                      have := HB.out.g
                      omega
                    have ch7 := (hz7.m.cell 6).trans rfl
                    have kt7 : KT g N (N + 1) w8 w7 := KT.trans (KT.trans HKT.out (KT.fresh hk6)) (KT.rd hk7)
                    go_wp2_with (fail)
                    refine hK.out _ _ (fun _ => ch7) ?_
                    clear hK K
                    refine AnyG.one (i := 6) (by kernel_rfl) rfl fun K hK => ?_
                    go_wp2_with (fail)
                    refine hK.out _ _ (fun _ => ((Kept.refl (fun _ => False) w7).alloc _).cellF ch7) ?_
                    clear hK K
                    refine AnyG.one (i := 7) (by kernel_rfl) rfl fun K hK => ?_
                    refine wpList_append_new eltInts rfl _ _ rfl w8.heap.size _ u (ints (left.take u)) rfl hrow7 1 1 rfl rfl rfl (by omega) (KT.size kt7) ?_
                    intro A4 c4' w9 HO9 HK9 HG9
                    have hz9 := hz7.other HK9.out (fun j e => ⟨by have := (hrow7.lt j e).1; have := HSZ8.out; omega, fun e2 => own_box_ne hrow7 hz7.m (by decide) (e2 ▸ e), fun e2 => own_box_ne hrow7 hz7.e (by decide) (e2 ▸ e)⟩) HB.out
                    have ch9 := (hz9.m.cell 6).trans rfl
                    have kt9 : KT g N (N + 1) w8 w9 := Kept.trans kt7 HK9.out fun j hj e => by have := (hrow7.lt j e).1; omega
                    refine wpList_nil ?_
                    refine hK.out _ _ (fun _ => ch9) ?_
                    clear hK K
                    simp only [Act.put, List.setIfInBounds_toArray]
                    refine AnyG.takeTo 115 (i := 8) (v := .pointer (some ⟨N, 6, none⟩)) rfl rfl rfl (by kernel_rfl) (by kernel_rfl) (by kernel_rfl) (by kernel_rfl) (fun _ _ _ h => h) rfl ch9 (fun Wz hW => by go_simp) ?_
                    skip
                    have fx := hz9.m.frozen 6
                    refine AnyG.one (i := 9) (by kernel_rfl) rfl fun K hK => ?_
                    go_wp2_with (fail)
                    refine hK.out _ _ (fun e => absurd rfl e) ?_
                    clear hK K
                    refine AnyG.done (by kernel_rfl) ?_ _
                    unfold OnlyN
                    have hz10 := hz9.put HB.out 6 (.slice A4 (u + 1) c4')
                    have kt10 := KT.trans kt9 (KT.putN (M := N + 1) (g := g) (N := N) (W := w9) 6 (.slice A4 (u + 1) c4'))
                    have hr10 := row_put (i := 6) (u := .slice A4 (u + 1) c4') HO9.out hz9.m (by decide)
                    rw [show ints (left.take u) ++ (#[Value.int .i64 (n : Int)] : Array Value).toList = ints (left.take (u + 1)) by rw [HT.out, ints_app]; rfl] at hr10
                    simp only [List.setIfInBounds_toArray, List.set_cons_zero, List.set_cons_succ] at hz10
                    have HZ10 := Lib.hid hz10
                    have HKT10 := Lib.hid kt10
                    have HR10 := Lib.hid hr10
                    clear hz10 kt10 hr10 HO9 HK9 HG9 hz9 ch9 kt9 hz7 hz6 hrow6 hrow7 ch7 kt7 hk7 hr7 hk6 hw6 hS ch hz fx
                    go_wp2_with (fail)
                    go_roundw
                    case rel => exact ⟨u + 1, A4, c4', by go_num, by omega, HZ10.out, HR10.out, HKT10.out⟩
                    case measure => simp [intOf]; omega
                  · as_aux_lemma =>
                    have hin : ¬ (u : Int) < (NJ : Int) := by omega
                    have huN : u = left.length := by have := HNJ.out; omega
                    have hz := HZ.out
                    have hrow := HROW.out
                    have hnj2 := HNJ.out
                    subst huN
                    rw [List.drop_eq_nil_of_le (Nat.le_refl _), show encZ [] ++ L11 = L11 by rfl] at hz
                    rw [List.take_of_length_le (Nat.le_refl _)] at hrow
                    have HZ9 := Lib.hid hz
                    have HR9 := Lib.hid (own_base hrow (show w.heap.size ≤ w8.heap.size from HSZ8.out))
                    have HK9 := Lib.hid (KT.trans HKT8.out HKT.out)
                    have HRJ9 := Lib.hid (HZ8.out.row HB.out HRJ8.out (by decide) (by decide) HKT.out)
                    clear hz hrow hnj2 HROW HZ HKT
                    go_wp2_with (fail)
                    go_roundw
                    case rel => exact ⟨2, rfl, HK9.out, .inr (.inr ⟨rfl, A5, c5, A, c, HZ9.out, HRJ9.out, HR9.out⟩)⟩
                    case measure => simp [intOf]
              · have HRJ := Lib.hid hrj
                have HRE := Lib.hid hre
                rw [← H11.out] at hz
                have HZ := Lib.hid hz
                clear hz hrj hre p0 p1
                go_wp2_with (fail)
                refine (number9_ok d g epo (by omega) t wr HZ.out.r).mono ?_
                rintro r w8 ⟨rfl, hk8, hr8⟩
                have hz8 := HZ.out.rd HB.out hk8 hr8
                have cx := (hz8.m.cell 7).trans rfl
                have fx := hz8.m.frozen 7
                have hz9 := hz8.put HB.out 7 (.int .i64 epo)
                have kt9 : KT g N (N + 1) wr (w8.setCell ⟨N, 7, none⟩ (.int .i64 epo)) := KT.trans (KT.rd hk8) (KT.putN _ _)
                have kta : KT g N (N + 1) wa (w8.setCell ⟨N, 7, none⟩ (.int .i64 epo)) := KT.trans HKT.out kt9
                simp only [List.setIfInBounds_toArray, List.set_cons_zero, List.set_cons_succ] at hz9
                have HSAME := Lib.hid (show SameIm ⟨v, vA, vc, b, bA, bc, (clk : Int), [], lA, lc, nodes, nA, nc, joined, jA, jc, left, eA, ec, (epo : Int)⟩ (⟨v, A1, c1, b, A2, c2, (clk : Int), [], none, 0, nodes, A3, c3, joined, A5, c5, left, A6, c6, (epo : Int)⟩ : Im) from ⟨rfl, rfl, rfl, rfl, rfl, rfl, rfl, rfl⟩)
                have HOWN := Lib.hid (show Im.Own (w8.setCell ⟨N, 7, none⟩ (.int .i64 epo)) w.heap.size (⟨v, A1, c1, b, A2, c2, (clk : Int), [], none, 0, nodes, A3, c3, joined, A5, c5, left, A6, c6, (epo : Int)⟩ : Im) from ⟨HZA.out.row HB.out HR0A.out (by decide) (by decide) kta, HZA.out.row HB.out HR1A.out (by decide) (by decide) kta, World.ownsRow_nil _ _ _ _, fun z hz => (by cases hz), HZA.out.row HB.out HR2A.out (by decide) (by decide) kta, HZ.out.row HB.out HRJ.out (by decide) (by decide) kt9, HZ.out.row HB.out HRE.out (by decide) (by decide) kt9⟩)
                have HZ9 := Lib.hid hz9
                clear hz8 hz9 kt9 kta hk8 hr8 HRJ HRE HR0A HR1A HR2A HZA HZ HKT
                go_upto_region 37 with (fail)
                obtain ⟨w9, hw9⟩ : ∃ w9, w8.setCell ⟨N, 7, none⟩ (.int .i64 epo) = w9 := ⟨_, rfl⟩
                rw [hw9] at HOWN HZ9 ⊢
                clear hw9 cx fx
                have HCH := Lib.hid (HCK.out _ _ HSAME.out HOWN.out)
                unfold Im.c at HCH
                simp only at HCH
                go_wp2_with (refine wpList_load_im rfl _ rfl N rfl _ rfl HZ9.out.m ?_)
                refine HCH.out.mono ?_
                unfold IntPost
                rintro r w10 ⟨rfl, hk10⟩
                have HZ10 := Lib.hid (HZ9.out.fresh hk10)
                have HOW10 := Lib.hid (show Im.Own w10 w.heap.size (⟨v, A1, c1, b, A2, c2, (clk : Int), [], none, 0, nodes, A3, c3, joined, A5, c5, left, A6, c6, (epo : Int)⟩ : Im) from ⟨hk10.own HOWN.out.v fun _ _ => id, hk10.own HOWN.out.b fun _ _ => id, hk10.own HOWN.out.l fun _ _ => id, fun z hz => (by cases hz), hk10.own HOWN.out.n fun _ _ => id, hk10.own HOWN.out.j fun _ _ => id, hk10.own HOWN.out.e fun _ _ => id⟩)
                clear hk10 HCH HOWN HZ9
                go_wp2_with (fail)
                refine (must_ok _).mono ?_
                rintro r w11 ⟨rfl, rfl⟩
                go_wp2_with (first | (refine wpList_load_im rfl _ rfl N rfl _ rfl HZ10.out.m ?_) | (refine wpList_store_box rfl 28 _ _ rfl N #[.slice A1 v.length c1, .slice A2 b.length c2, .int .i64 clk, .slice none 0 0, .slice A3 nodes.length c3, .slice A5 joined.length c5, .slice A6 left.length c6, .int .i64 epo] rfl rfl 28 _ HZ10.out.m (size_im.trans rfl) rfl (im_one (⟨v, A1, c1, b, A2, c2, (clk : Int), [], none, 0, nodes, A3, c3, joined, A5, c5, left, A6, c6, (epo : Int)⟩ : Im)) ?_; intro w12 HM12 hk12; refine Hid.out ?_))
                refine Lib.hid ?_
                have hkt : KT g N (N + 1) w11 w12 := hk12.more fun k _ e => .inr (.inl e)
                have hz12 := (show Tk w d g N (N + 1) #[.slice A1 v.length c1, .slice A2 b.length c2, .int .i64 clk, .slice none 0 0, .slice A3 nodes.length c3, .slice A5 joined.length c5, .slice A6 left.length c6, .int .i64 epo] t w12 from ⟨HZ10.out.k.trans hk12 fun k h e => by have := HB.out.n; omega, HM12, HZ10.out.e.kept hk12 (by omega), HZ10.out.r.kept hk12 (by have := HB.out.g; have := HB.out.n; omega) (by have := HB.out.d; have := HB.out.n; omega)⟩)
                have ce := hz12.e.cell 0
                have fe := hz12.e.frozen 0
                have HZ13 := Lib.hid (hz12.sete HB.out)
                have hkt2 := KT.trans hkt (KT.putM (N := N) (g := g) (M := N + 1) (W := w12) 0 (.int .i64 0))
                have HOW13 := Lib.hid (show Im.Own (w12.setCell ⟨N + 1, 0, none⟩ (.int .i64 0)) w.heap.size (⟨v, A1, c1, b, A2, c2, (clk : Int), [], none, 0, nodes, A3, c3, joined, A5, c5, left, A6, c6, (epo : Int)⟩ : Im) from ⟨HZ10.out.row HB.out HOW10.out.v (by decide) (by decide) hkt2, HZ10.out.row HB.out HOW10.out.b (by decide) (by decide) hkt2, World.ownsRow_nil _ _ _ _, fun z hz => (by cases hz), HZ10.out.row HB.out HOW10.out.n (by decide) (by decide) hkt2, HZ10.out.row HB.out HOW10.out.j (by decide) (by decide) hkt2, HZ10.out.row HB.out HOW10.out.e (by decide) (by decide) hkt2⟩)
                simp only [List.getElem?_toArray, List.getElem?_cons_zero] at ce
                clear hkt hkt2 hk12 hz12
                go_wp2_with (fail)
                exact take9_returns rfl rfl HZ13.out.m rfl HZ13.out.e (HPO.out (⟨v, A1, c1, b, A2, c2, (clk : Int), [], none, 0, nodes, A3, c3, joined, A5, c5, left, A6, c6, (epo : Int)⟩ : Im) _ HSAME.out HOW13.out HZ13.out.k HZ13.out.r)
end Go.Proofs.YtnajbkccaclkcaaGreat

namespace Go.Proofs.YtnajbkccaclkcaaGreat
open Go Go.RowKit

/-- An image that is looked at. -/
structure Im.Fine (m : Im) : Prop where
  v : m.v.length ≤ 400
  b : m.b.length ≤ 400
  log : m.log.length ≤ 400
  nodes : m.nodes.length ≤ 400
  joined : m.joined.length ≤ 400
  left : m.left.length ≤ 400
  ops : ∀ x ∈ m.log, x.o.deps.length ≤ 400 ∧ x.o.gone.length ≤ 2000 ∧ x.o.text.size ≤ 20000
def GrtPost (w : World) (m : Im) (r : Ending) (w' : World) : Prop := ∃ b, r = .returned (.bool b) ∧ (b = false → m.Fine) ∧ Kept (fun _ => False) w w'

set_option maxRecDepth 100000 in
set_option maxHeartbeats 8000000 in
theorem great_any (m : Im) (w : World) (h : m.At w) : Calls Tryz.prog 6 #[.agg m.c] w (GrtPost w m) := by
  have HPF := Lib.hid (show ∀ w', Kept (fun _ => False) w w' → GrtPost w m (.returned (.bool true)) w' from fun w' hk => ⟨true, rfl, fun e => (by cases e), hk⟩)
  have HPT := Lib.hid (show ∀ w', m.Fine → Kept (fun _ => False) w w' → GrtPost w m (.returned (.bool false)) w' from fun w' hm hk => ⟨false, rfl, fun _ => hm, hk⟩)
  have HLC := Lib.hid (show CellsAt w m.lA (lops m.log) from h.log)
  obtain ⟨v, vA, vc, b, bA, bc, clock, log, lA, lc, nodes, nA, nc, joined, jA, jc, left, eA, ec, epoch⟩ := m
  have hb := Box.new w 28 (Im.c ⟨v, vA, vc, b, bA, bc, clock, log, lA, lc, nodes, nA, nc, joined, jA, jc, left, eA, ec, epoch⟩)
  have hk := (Kept.refl (fun _ => False) w).alloc (.cells (Im.c ⟨v, vA, vc, b, bA, bc, clock, log, lA, lc, nodes, nA, nc, joined, jA, jc, left, eA, ec, epoch⟩) 28)
  unfold Im.c at hb hk ⊢
  simp only at hb hk HLC ⊢
  obtain ⟨w1, hw1⟩ : ∃ w1, w.alloc (.cells #[.slice vA v.length vc, .slice bA b.length bc, .int .i64 clock, .slice lA log.length lc, .slice nA nodes.length nc, .slice jA joined.length jc, .slice eA left.length ec, .int .i64 epoch] 28) = w1 := ⟨_, rfl⟩
  rw [hw1] at hb hk
  obtain ⟨g, hg⟩ : ∃ g, w.heap.size = g := ⟨_, rfl⟩
  rw [hg] at hb
  have x0 : w1.cell? ⟨g, 0, none⟩ = some (.slice vA v.length vc) := by simpa using hb.cell 0
  have x1 : w1.cell? ⟨g, 1, none⟩ = some (.slice bA b.length bc) := by simpa using hb.cell 1
  have x3 : w1.cell? ⟨g, 3, none⟩ = some (.slice lA log.length lc) := by simpa using hb.cell 3
  have x4 : w1.cell? ⟨g, 4, none⟩ = some (.slice nA nodes.length nc) := by simpa using hb.cell 4
  have x5 : w1.cell? ⟨g, 5, none⟩ = some (.slice jA joined.length jc) := by simpa using hb.cell 5
  have x6 : w1.cell? ⟨g, 6, none⟩ = some (.slice eA left.length ec) := by simpa using hb.cell 6
  obtain ⟨n0, hn0⟩ : ∃ n0, v.length = n0 := ⟨_, rfl⟩
  obtain ⟨n1, hn1⟩ : ∃ n1, b.length = n1 := ⟨_, rfl⟩
  obtain ⟨n3, hn3⟩ : ∃ n3, log.length = n3 := ⟨_, rfl⟩
  obtain ⟨n4, hn4⟩ : ∃ n4, nodes.length = n4 := ⟨_, rfl⟩
  obtain ⟨n5, hn5⟩ : ∃ n5, joined.length = n5 := ⟨_, rfl⟩
  obtain ⟨n6, hn6⟩ : ∃ n6, left.length = n6 := ⟨_, rfl⟩
  rw [hn0] at x0
  rw [hn1] at x1
  rw [hn3] at x3
  rw [hn4] at x4
  rw [hn5] at x5
  rw [hn6] at x6
  rw [hn0, hn1, hn3, hn4, hn5, hn6] at hw1 ⊢
  have HNS := Lib.hid (show v.length = n0 ∧ b.length = n1 ∧ log.length = n3 ∧ nodes.length = n4 ∧ joined.length = n5 ∧ left.length = n6 from ⟨hn0, hn1, hn3, hn4, hn5, hn6⟩)
  have HW := Lib.hid hw1
  have HG := Lib.hid hg
  have HK := Lib.hid hk
  have X3 := Lib.hid x3
  clear hb hk hw1 hg hn0 hn1 hn3 hn4 hn5 hn6 h
  go_enter Tryz.func6, Tryz.ntmps6
  go_upto_region 1 with (fail)
  rw [HW.out, HG.out]
  by_cases g0 : (n0 : Int) > 400
  · as_aux_lemma =>
    go_wp2_with (fail)
    go_ret
    exact HPF.out _ HK.out
  by_cases g1 : (n1 : Int) > 400
  · as_aux_lemma =>
    go_wp2_with (fail)
    go_ret
    exact HPF.out _ HK.out
  by_cases g3 : (n3 : Int) > 400
  · as_aux_lemma =>
    go_wp2_with (fail)
    go_ret
    exact HPF.out _ HK.out
  by_cases g4 : (n4 : Int) > 400
  · as_aux_lemma =>
    go_wp2_with (fail)
    go_ret
    exact HPF.out _ HK.out
  by_cases g5 : (n5 : Int) > 400
  · as_aux_lemma =>
    go_wp2_with (fail)
    go_ret
    exact HPF.out _ HK.out
  by_cases g6 : (n6 : Int) > 400
  · as_aux_lemma =>
    go_wp2_with (fail)
    go_ret
    exact HPF.out _ HK.out
  have HGS := Lib.hid (show n0 ≤ 400 ∧ n1 ≤ 400 ∧ n3 ≤ 400 ∧ n4 ≤ 400 ∧ n5 ≤ 400 ∧ n6 ≤ 400 by omega)
  go_wp2_with (fail)
  clear x0 x1 x3 x4 x5 x6 g0 g1 g4 g5 g6
  go_loopw [3, 4] (fun vn vi wr => ∃ (k n : Nat), vn = .int .i64 n ∧ vi = .int .i64 k ∧ k ≤ n3 ∧ n ≤ 20000 ∧ Kept (fun _ => False) w1 wr ∧ ∀ x ∈ log.take k, x.o.deps.length ≤ 400 ∧ x.o.gone.length ≤ 2000 ∧ x.o.text.size ≤ 20000) (fun _ vi _ => n3 - (intOf vi).toNat)
  case atStart => exact ⟨0, 0, rfl, rfl, Nat.zero_le _, by omega, Kept.refl _ _, by simp⟩
  case round =>
    obtain ⟨k, n, rfl, rfl, hk, hn, hkw, hops⟩ := hrel
    have HKW := Lib.hid hkw
    have HOPS := Lib.hid hops
    have x3 := hkw.cellF X3.out
    clear hkw hops
    by_cases hlt : k < n3
    · as_aux_lemma =>
      have hin : (k : Int) < (n3 : Int) := by omega
      have hkl : k < log.length := by rw [HNS.out.2.2.1]; exact hlt
      obtain ⟨bb, ff, hlA, hc⟩ := HLC.out.some_ (by rw [lops_len]; omega)
      subst hlA
      have hr := lop_range (w := wr) (fun j u hj => HKW.out.cellF (HK.out.cellF (hc j u hj))) k hkl
      have ht := List.take_succ_eq_append_getElem hkl
      obtain ⟨x, hx⟩ : ∃ x, log[k] = x := ⟨_, rfl⟩
      rw [hx] at hr ht
      have HR := Lib.hid hr
      have HT := Lib.hid ht
      obtain ⟨o, dA, dc, gA, gc⟩ := x
      obtain ⟨⟨ds, dq⟩, deps, kind, ⟨it, is⟩, ⟨rt, rs⟩, text, gone, site⟩ := o
      clear hr ht hx hc
      go_upto_region 8 with (first | refine wpList_load_lopM rfl _ rfl bb (ff + k * 11) rfl _ HR.out (Opr.cells ⟨⟨ds, dq⟩, deps, kind, ⟨it, is⟩, ⟨rt, rs⟩, text, gone, site⟩ dA dc gA gc) rfl ?_ | (refine wpList_store_newbox size_op rfl _ _ rfl wr _ rfl rfl opZ rfl rfl rfl (Opr.cells_one _ _ _ _ _) ?_; refine Hid.out ?_))
      refine Lib.hid ?_
      have hbd := Box.new wr 64 (Opr.cells ⟨⟨ds, dq⟩, deps, kind, ⟨it, is⟩, ⟨rt, rs⟩, text, gone, site⟩ dA dc gA gc)
      have hko := (Kept.refl (fun _ => False) wr).alloc (.cells (Opr.cells ⟨⟨ds, dq⟩, deps, kind, ⟨it, is⟩, ⟨rt, rs⟩, text, gone, site⟩ dA dc gA gc) 64)
      generalize wr.alloc (.cells (Opr.cells ⟨⟨ds, dq⟩, deps, kind, ⟨it, is⟩, ⟨rt, rs⟩, text, gone, site⟩ dA dc gA gc) 64) = wo at hbd hko ⊢
      obtain ⟨D, hD⟩ : ∃ D, wr.heap.size = D := ⟨_, rfl⟩
      rw [hD] at hbd ⊢
      have c2 : wo.cell? ⟨D, 2, none⟩ = some (.slice dA deps.length dc) := (hbd.cell 2).trans rfl
      have c8 : wo.cell? ⟨D, 8, none⟩ = some (.string text) := (hbd.cell 8).trans rfl
      have c9 : wo.cell? ⟨D, 9, none⟩ = some (.slice gA gone.length gc) := (hbd.cell 9).trans rfl
      have HKO := Lib.hid (HKW.out.trans hko fun _ _ e => e)
      clear hbd hko hD HR
      obtain ⟨nd, hnd⟩ : ∃ nd, deps.length = nd := ⟨_, rfl⟩
      obtain ⟨ng, hng⟩ : ∃ ng, gone.length = ng := ⟨_, rfl⟩
      obtain ⟨nt, hnt⟩ : ∃ nt, text.size = nt := ⟨_, rfl⟩
      rw [hnd] at c2
      rw [hng] at c9
      have HND := Lib.hid (show deps.length = nd ∧ gone.length = ng ∧ text.size = nt from ⟨hnd, hng, hnt⟩)
      by_cases h1 : (nd : Int) > 400
      · as_aux_lemma =>
        go_wp2_with (fail)
        go_ret
        exact HPF.out _ (HK.out.trans HKO.out fun _ _ e => e)
      by_cases h2 : (ng : Int) > 2000
      · as_aux_lemma =>
        go_wp2_with (fail)
        go_ret
        exact HPF.out _ (HK.out.trans HKO.out fun _ _ e => e)
      by_cases h3 : (nt : Int) > 20000
      · as_aux_lemma =>
        rw [← hnt] at h3
        go_wp2_with (fail)
        go_ret
        exact HPF.out _ (HK.out.trans HKO.out fun _ _ e => e)
      by_cases h4 : ((n + nt : Nat) : Int) > 20000
      · as_aux_lemma =>
        have hwr : IntKind.i64.wrap ((n : Int) + (text.size : Int)) = ((n + nt : Nat) : Int) := by rw [hnt]; exact IntWalk.i64_in _ ⟨by omega, by omega⟩
        rw [← hnt] at h3
        go_wp2_with (fail)
        go_ret
        exact HPF.out _ (HK.out.trans HKO.out fun _ _ e => e)
      · as_aux_lemma =>
        have hwr : IntKind.i64.wrap ((n : Int) + (text.size : Int)) = ((n + nt : Nat) : Int) := by rw [hnt]; exact IntWalk.i64_in _ ⟨by omega, by omega⟩
        have HOP2 := Lib.hid (show ∀ x ∈ log.take (k + 1), x.o.deps.length ≤ 400 ∧ x.o.gone.length ≤ 2000 ∧ x.o.text.size ≤ 20000 from fun x hx => by
          rw [HT.out] at hx
          rcases List.mem_append.1 hx with hx | hx
          · exact HOPS.out x hx
          · obtain rfl := List.mem_singleton.1 hx
            have := HND.out
            simp only
            omega)
        have hn4 : n + nt ≤ 20000 := by omega
        rw [← hnt] at h3
        go_wp2_with (fail)
        go_roundw
        case rel => exact ⟨k + 1, n + nt, by first | rfl | (congr 1; omega), by go_num, by omega, hn4, HKO.out, HOP2.out⟩
        case measure => simp [intOf]; omega
    · as_aux_lemma =>
      have hin : ¬ (k : Int) < (n3 : Int) := by omega
      have HF := Lib.hid (show Im.Fine ⟨v, vA, vc, b, bA, bc, clock, log, lA, lc, nodes, nA, nc, joined, jA, jc, left, eA, ec, epoch⟩ from by
        have h1 := HNS.out
        have h2 := HGS.out
        have h3 := HOPS.out
        rw [List.take_of_length_le (by omega)] at h3
        exact ⟨by simp only; omega, by simp only; omega, by simp only; omega, by simp only; omega, by simp only; omega, by simp only; omega, h3⟩)
      go_wp2_with (fail)
      go_ret
      exact HPT.out _ HF.out (HK.out.trans HKW.out fun _ _ e => e)
end Go.Proofs.YtnajbkccaclkcaaGreat
