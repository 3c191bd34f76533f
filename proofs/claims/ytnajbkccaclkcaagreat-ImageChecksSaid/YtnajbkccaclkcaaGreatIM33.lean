/- image.Put walked. Conditions: the image lies in memory; its numbers are Go's ints; nothing is longer than a million; what has been laid and is laid is at most 800,000 bytes. · image.Put walked. Conditions: the image lies in memory; its numbers are Go's ints; nothing is longer than a million; what has been laid and is laid is at most 800,000 bytes. · image.must, number, list, Take's deferred closure, where nothing is wrong. Conditions: the Reader lies in memory. -/
import Derived.Test.YtnajbkccaclkcaaGreatIM32
import Derived.Test.YtnajbkccaclkcaaGreatIM23
import Derived.Test.YtnajbkccaclkcaaGreatIM16
namespace Go.Proofs.YtnajbkccaclkcaaGreat
open Go Go.RowKit

def ndNums (n : Nd) : List Int := [n.id.time, n.id.site, n.ref.time, n.ref.site, n.ru, n.st]
/-- The bytes of the operations, of the nodes. -/
def encL9 (l : List Lop) : List Int := l.flatMap fun x => encOp x.o
def encN9 (l : List Nd) : List Int := l.flatMap fun n => encZ (ndNums n)
theorem encL9_app (l m : List Lop) : encL9 (l ++ m) = encL9 l ++ encL9 m := by simp [encL9]
theorem encN9_app (l m : List Nd) : encN9 (l ++ m) = encN9 l ++ encN9 m := by simp [encN9]
/-- The bytes of an image. -/
def encI (m : Im) : List Int := encs (vnums m.v) ++ (encs (vnums m.b) ++ (encZ [m.clock, (m.log.length : Int)] ++ (encL9 m.log ++ (encZ [(m.nodes.length : Int)] ++ (encN9 m.nodes ++ (encZ [(m.joined.length : Int)] ++ (encZ m.joined ++ (encZ [(m.left.length : Int)] ++ (encZ m.left ++ encZ [m.epoch])))))))))
/-- What is so of an image that may be. -/
structure OkI (m : Im) : Prop where
  v : checkV m.v = 0
  b : checkV m.b = 0
  c0 : 0 ≤ m.clock
  c1 : m.clock ≤ 2147483647
  ops : ∀ x ∈ m.log, okOp x.o = true
  nodes : ∀ n ∈ m.nodes, ∀ z ∈ ndNums n, 0 ≤ z ∧ z ≤ 2147483647
  joined : ∀ z ∈ m.joined, 0 ≤ z ∧ z ≤ 2147483647
  left : ∀ z ∈ m.left, 0 ≤ z ∧ z ≤ 2147483647
  ep : 0 ≤ m.epoch
theorem firstE_zero {l : List Int} (h : firstE l = 0) : ∀ e ∈ l, e = 0 := by
  induction l with
  | nil => intro e he; cases he
  | cons x t ih =>
    simp only [firstE] at h
    split at h
    · intro e he
      rcases List.mem_cons.1 he with rfl | he
      · assumption
      · exact ih h e he
    · contradiction
theorem logFrom_ok (clock : Int) (mv : List Dt) : ∀ (l : List Lop) (v : List Dt), logFrom clock mv v l = 0 → ∀ x ∈ l, okOp x.o = true := by
  intro l
  induction l with
  | nil => intro v _ x hx; cases hx
  | cons y t ih =>
    intro v h x hx
    rw [logFrom_cons] at h
    split at h
    · rename_i h0
      rcases List.mem_cons.1 hx with rfl | hx
      · have := firstE_zero h0 (opE x.o) (by simp)
        unfold opE at this
        split at this
        · assumption
        · omega
      · exact ih _ h x hx
    · contradiction
theorem okId_bd {i : Idt} (h : okId i = true) : 1 ≤ i.time ∧ i.time ≤ 2147483647 ∧ 1 ≤ i.site ∧ i.site ≤ 16 := by simpa [okId] using h
theorem oneE_ok : ∀ (l : List Nd) (S : List Idt), oneE S l = 0 → ∀ n ∈ l, ∀ z ∈ ndNums n, 0 ≤ z ∧ z ≤ 2147483647 := by
  intro l
  induction l with
  | nil => intro S _ n hn; cases hn
  | cons y t ih =>
    intro S h n hn
    rw [oneE_cons] at h
    split at h
    · rename_i h0
      rcases List.mem_cons.1 hn with rfl | hn
      · have hz := firstE_zero h0
        have a1 := hz _ (List.mem_cons_self ..)
        have a2 := hz _ (List.mem_cons_of_mem _ (List.mem_cons_self ..))
        have b1 : okId n.id = true ∧ (n.ref = noId ∨ okId n.ref = true) := by
          by_cases c : (!okId n.id || (!decide (n.ref = noId) && !okId n.ref)) = true
          · rw [if_pos c] at a1; omega
          · simp at c
            refine ⟨c.1, ?_⟩
            by_cases hr : n.ref = noId
            · exact .inl hr
            · exact .inr (c.2 hr)
        have b2 : isRuneB n.ru = true ∧ ¬ n.st < 1 ∧ ¬ 3 < n.st := by
          by_cases c : (!isRuneB n.ru || decide (n.st < 1) || decide (3 < n.st)) = true
          · rw [if_pos c] at a2; omega
          · simp at c
            exact ⟨c.1.1, by omega, by omega⟩
        have b3 := b2.1
        rw [isRuneB_eq] at b3
        simp at b3
        have d1 := okId_bd b1.1
        have d2 : 0 ≤ n.ref.time ∧ n.ref.time ≤ 2147483647 ∧ 0 ≤ n.ref.site ∧ n.ref.site ≤ 2147483647 := by
          rcases b1.2 with e | e
          · rw [e]; decide
          · have := okId_bd e; omega
        intro z hz
        simp only [ndNums, List.mem_cons, List.not_mem_nil, or_false] at hz
        rcases hz with rfl | rfl | rfl | rfl | rfl | rfl <;> omega
      · exact ih _ h n hn
    · contradiction
theorem checkI_ok {m : Im} (h : checkI m = 0) : OkI m := by
  have hz := firstE_zero h
  have h1 := firstE_zero (hz _ (List.mem_cons_self ..))
  have h2 := hz (logFrom m.clock m.v m.b m.log) (by simp)
  have h3 := hz (nodesE m.clock m.nodes) (by simp)
  have h4 := hz (sitesE m.joined m.left m.epoch) (by simp)
  have h5 := h1 (checkV m.v) (by simp)
  have h6 := h1 (checkV m.b) (by simp)
  have h7 := h1 _ (List.mem_cons_of_mem _ (List.mem_cons_of_mem _ (List.mem_cons_of_mem _ (List.mem_cons_self ..))))
  have h8 : oneE [] m.nodes = 0 := by
    unfold nodesE at h3
    by_cases e : oneE [] m.nodes = 0
    · exact e
    · rw [if_pos e] at h3; exact h3
  have h9 : risFrom 0 m.joined = true ∧ risFrom 0 m.left = true ∧ ¬ m.epoch < 0 := by
    unfold sitesE at h4
    by_cases c : (!risFrom 0 m.joined || !risFrom 0 m.left || decide (m.epoch < 0)) = true
    · rw [if_pos c] at h4; omega
    · simp at c
      exact ⟨c.1.1, c.1.2, by omega⟩
  have h10 : 0 ≤ m.clock ∧ m.clock ≤ 2147483647 := by
    by_cases c : (decide (m.clock < 0) || decide (2147483647 < m.clock)) = true
    · rw [if_pos c] at h7; omega
    · simp at c; omega
  exact ⟨h5, h6, h10.1, h10.2, logFrom_ok _ _ _ _ h2, oneE_ok _ _ h8, fun z hz => by have := (ris_pair _ _ h9.1).1 z hz; omega, fun z hz => by have := (ris_pair _ _ h9.2.1).1 z hz; omega, by omega⟩
theorem built6 (a b c d e f : Int) : Tryz.prog.builtSlice 3 6 [(0, .int .i64 a), (1, .int .i64 b), (2, .int .i64 c), (3, .int .i64 d), (4, .int .i64 e), (5, .int .i64 f)] = some #[.int .i64 a, .int .i64 b, .int .i64 c, .int .i64 d, .int .i64 e, .int .i64 f] := by
  obtain ⟨i, hi, hz, hsz, hby⟩ := info_parts info_int'
  unfold Program.builtSlice
  simp only [hi, hz, hsz]
  rw [if_neg (by decide)]
  kernel_rfl
theorem wpList_six {ops : Array Oper} {rest : List Oper} {o : Oper} {a : Act} {w : World} {Q : Exit → Act → World → Prop} (hg : o.guard = none) (x0 x1 x2 x3 x4 x5 : Operand)
    (ho : o.op = .buildSlice 26 6 #[(0, x0), (1, x1), (2, x2), (3, x3), (4, x4), (5, x5)]) (e0 e1 e2 e3 e4 e5 : Int) (h0 : a.eval x0 = .int .i64 e0) (h1 : a.eval x1 = .int .i64 e1) (h2 : a.eval x2 = .int .i64 e2) (h3 : a.eval x3 = .int .i64 e3) (h4 : a.eval x4 = .int .i64 e4) (h5 : a.eval x5 = .int .i64 e5)
    (h : wpList Tryz.prog ops Q rest (a.put o.dst (.slice (some ⟨w.heap.size, 0, none⟩) 6 6)) (w.alloc (.cells #[.int .i64 e0, .int .i64 e1, .int .i64 e2, .int .i64 e3, .int .i64 e4, .int .i64 e5] 3))) :
    wpList Tryz.prog ops Q (o :: rest) a w := by
  refine Great.wpList_buildSliceTo hg _ 3 6 _ ho _ rfl _ rfl Tryz.underlying26 _ ?_ h
  have e : (#[(0, x0), (1, x1), (2, x2), (3, x3), (4, x4), (5, x5)].map fun ((i, x) : Nat × Operand) => (i, a.eval x)).toList = [(0, a.eval x0), (1, a.eval x1), (2, a.eval x2), (3, a.eval x3), (4, a.eval x4), (5, a.eval x5)] := by simp
  rw [e, h0, h1, h2, h3, h4, h5]
  exact built6 ..
theorem info_ints : (Tryz.prog.info? 26).map (fun i => (i.zero, i.size, i.bytes)) = some (some (.slice none 0 0), 1, 24) := by kernel_rfl
theorem built2s (A B : Option Addr) (n c n' c' : Nat) : Tryz.prog.builtSlice 26 2 [(0, .slice A n c), (1, .slice B n' c')] = some #[.slice A n c, .slice B n' c'] := by
  obtain ⟨i, hi, hz, hsz, hby⟩ := info_parts info_ints
  unfold Program.builtSlice
  simp only [hi, hz, hsz]
  rw [if_neg (by decide)]
  kernel_rfl
theorem wpList_2s {ops : Array Oper} {rest : List Oper} {o : Oper} {a : Act} {w : World} {Q : Exit → Act → World → Prop} (hg : o.guard = none) (x0 x1 : Operand)
    (ho : o.op = .buildSlice 79 2 #[(0, x0), (1, x1)]) (A B : Option Addr) (n c n' c' : Nat) (h0 : a.eval x0 = .slice A n c) (h1 : a.eval x1 = .slice B n' c')
    (h : wpList Tryz.prog ops Q rest (a.put o.dst (.slice (some ⟨w.heap.size, 0, none⟩) 2 2)) (w.alloc (.cells #[.slice A n c, .slice B n' c'] 26))) :
    wpList Tryz.prog ops Q (o :: rest) a w := by
  refine Great.wpList_buildSliceTo hg _ 26 2 _ ho _ rfl _ rfl Tryz.underlying79 _ ?_ h
  have e : (#[(0, x0), (1, x1)].map fun ((i, x) : Nat × Operand) => (i, a.eval x)).toList = [(0, a.eval x0), (1, a.eval x1)] := by simp
  rw [e, h0, h1]
  exact built2s ..
end Go.Proofs.YtnajbkccaclkcaaGreat

namespace Go.Proofs.YtnajbkccaclkcaaGreat
open Go Go.RowKit

/-- What Put leaves. -/
def PutI (wm : World) (g : Nat) (l : List Int) (Src : World → Prop) (r : Ending) (W' : World) : Prop := r = .returned (.tuple #[]) ∧ WrIn wm g l W' ∧ Src W'

set_option maxRecDepth 100000 in
set_option maxHeartbeats 16000000 in
theorem PutI_yes {wm : World} {g : Nat} {Src : World → Prop} (hst : Stays wm g Src) (hfr : ∀ W W', Kept (fun _ => False) W W' → Src W → Src W') (m : Im) (l : List Int) (w : World) (h : WrIn wm g l w) (hsrc : Src w) (hm : m.At wm) (hs : m.Small) (hf : m.Fit) (hc : checkI m = 0) (hlen : (l ++ encI m).length ≤ 800000) :
    Calls Tryz.prog 12 #[.pointer (some ⟨g, 0, none⟩), .agg m.c] w (WrPost wm g (l ++ encI m) Src) := by
  have hok := checkI_ok hc
  have HCK := Lib.hid (fun W (hW : Kept (fun _ => False) wm W) => Check9_any m W (hm.fresh hW) hs hf)
  rw [hc] at HCK
  obtain ⟨v, vA, vc, b, bA, bc, clock, log, lA, lc, nodes, nA, nc, joined, jA, jc, left, eA, ec, epoch⟩ := m
  obtain ⟨o1, o2, o3, o4, o5, o6, o7, o8, o9⟩ := hok
  have hep := hf.ep
  simp only at o1 o2 o3 o4 o5 o6 o7 o8 o9 hep
  obtain ⟨T, hT⟩ : ∃ T, l ++ encI ⟨v, vA, vc, b, bA, bc, clock, log, lA, lc, nodes, nA, nc, joined, jA, jc, left, eA, ec, epoch⟩ = T := ⟨_, rfl⟩
  have HT := Lib.hid hT
  rw [hT]
  unfold encI at hlen
  simp only [List.length_append] at hlen
  have hl1 : v.length ≤ 1000000 := hs.v
  have hl2 : b.length ≤ 1000000 := hs.b
  have hl3 : log.length ≤ 1000000 := hs.log
  have hl4 : nodes.length ≤ 1000000 := hs.nodes
  have hl5 : joined.length ≤ 1000000 := hs.joined
  have hl6 : left.length ≤ 1000000 := hs.left
  have HV := Lib.hid (show DotsAt wm vA v from hm.v)
  have HVB := Lib.hid (show DotsAt wm bA b from hm.b)
  have HLC := Lib.hid (show CellsAt wm lA (lops log) from hm.log)
  have HNC := Lib.hid (show CellsAt wm nA (nds nodes) from hm.nodes)
  have HJC := Lib.hid (show CellsAt wm jA (ints joined) from hm.joined)
  have HEC := Lib.hid (show CellsAt wm eA (ints left) from hm.left)
  have HOP := Lib.hid (show ∀ x ∈ log, x.At wm from hm.ops)
  have HOS := Lib.hid (show ∀ x ∈ log, x.o.Small from hs.ops)
  have hb := Box.new w 28 (Im.c ⟨v, vA, vc, b, bA, bc, clock, log, lA, lc, nodes, nA, nc, joined, jA, jc, left, eA, ec, epoch⟩)
  have hk := (Kept.refl (fun _ => False) w).alloc (.cells (Im.c ⟨v, vA, vc, b, bA, bc, clock, log, lA, lc, nodes, nA, nc, joined, jA, jc, left, eA, ec, epoch⟩) 28)
  unfold Im.c at hb hk HCK ⊢
  simp only at hb hk HCK ⊢
  obtain ⟨w1, hw1⟩ : ∃ w1, w.alloc (.cells #[.slice vA v.length vc, .slice bA b.length bc, .int .i64 clock, .slice lA log.length lc, .slice nA nodes.length nc, .slice jA joined.length jc, .slice eA left.length ec, .int .i64 epoch] 28) = w1 := ⟨_, rfl⟩
  rw [hw1] at hb hk
  obtain ⟨gi, hgi⟩ : ∃ gi, w.heap.size = gi := ⟨_, rfl⟩
  rw [hgi] at hb
  have HW1 := Lib.hid (h.fresh hk)
  have HSR := Lib.hid (hfr _ _ hk hsrc)
  have HB := Lib.hid hb
  have HW := Lib.hid hw1
  have HG := Lib.hid hgi
  obtain ⟨BX, hBX⟩ : ∃ BX : World → Prop, BX = fun W => Box W gi 28 #[.slice vA v.length vc, .slice bA b.length bc, .int .i64 clock, .slice lA log.length lc, .slice nA nodes.length nc, .slice jA joined.length jc, .slice eA left.length ec, .int .i64 epoch] := ⟨_, rfl⟩
  have HBX := Lib.hid (show ∀ W, BX W → Box W gi 28 #[.slice vA v.length vc, .slice bA b.length bc, .int .i64 clock, .slice lA log.length lc, .slice nA nodes.length nc, .slice jA joined.length jc, .slice eA left.length ec, .int .i64 epoch] from fun W hW => by rw [hBX] at hW; exact hW)
  have HZ0 := Lib.hid (show ∀ W, BX W → W.cell? ⟨gi, 0, none⟩ = some (.slice vA v.length vc) from fun W hW => by simpa using (HBX.out W hW).cell 0)
  have HZ1 := Lib.hid (show ∀ W, BX W → W.cell? ⟨gi, 1, none⟩ = some (.slice bA b.length bc) from fun W hW => by simpa using (HBX.out W hW).cell 1)
  have HZ2 := Lib.hid (show ∀ W, BX W → W.cell? ⟨gi, 2, none⟩ = some (.int .i64 clock) from fun W hW => by simpa using (HBX.out W hW).cell 2)
  have HZ3 := Lib.hid (show ∀ W, BX W → W.cell? ⟨gi, 3, none⟩ = some (.slice lA log.length lc) from fun W hW => by simpa using (HBX.out W hW).cell 3)
  have HZ4 := Lib.hid (show ∀ W, BX W → W.cell? ⟨gi, 4, none⟩ = some (.slice nA nodes.length nc) from fun W hW => by simpa using (HBX.out W hW).cell 4)
  have HZ5 := Lib.hid (show ∀ W, BX W → W.cell? ⟨gi, 5, none⟩ = some (.slice jA joined.length jc) from fun W hW => by simpa using (HBX.out W hW).cell 5)
  have HZ6 := Lib.hid (show ∀ W, BX W → W.cell? ⟨gi, 6, none⟩ = some (.slice eA left.length ec) from fun W hW => by simpa using (HBX.out W hW).cell 6)
  have HZ7 := Lib.hid (show ∀ W, BX W → W.cell? ⟨gi, 7, none⟩ = some (.int .i64 epoch) from fun W hW => by simpa using (HBX.out W hW).cell 7)
  -- what stays: the image's box and Src
  have HBS := Lib.hid (show Stays wm g (fun W => BX W ∧ Src W) from Stays.and (by rw [hBX]; exact Stays.box (by decide) (by decide)) hst)
  have HBK := Lib.hid (show ∀ W W', Kept (fun _ => False) W W' → (BX W ∧ Src W) → (BX W' ∧ Src W') from fun W W' hk h => ⟨by have := h.1; rw [hBX] at this ⊢; exact this.kept hk id, hfr W W' hk h.2⟩)
  have HS1 := Lib.hid (show BX w1 ∧ Src w1 from ⟨by rw [hBX]; exact HB.out, HSR.out⟩)
  clear hst hfr hm hs hf hc h hsrc hb hk hw1 hgi hBX hT HSR
  go_enter Tryz.func12, Tryz.ntmps12
  go_upto_region 1 with (fail)
  rw [HW.out, HG.out]
  go_wp2_with (refine wpList_load_im rfl _ rfl gi rfl _ rfl HB.out ?_)
  refine (HCK.out _ HW1.out.k).mono ?_
  unfold IntPost
  rintro r w2 ⟨rfl, hk2⟩
  have HW2 := Lib.hid (HW1.out.fresh hk2)
  have HS2 := Lib.hid (HBK.out _ _ hk2 HS1.out)
  have y0 := HZ0.out _ HS2.out.1
  clear hk2 HW1 HS1
  go_wp2_with (fail)
  refine (HW2.out.vec HBS.out HS2.out vA v vc HV.out o1 hl1 (by omega)).mono ?_
  unfold WrPost
  rintro r w3 ⟨rfl, hw3, hs3⟩
  have HW3 := Lib.hid hw3
  have HS3 := Lib.hid hs3
  have y1 := HZ1.out _ hs3.1
  clear hw3 hs3 y0 HW2 HS2
  go_wp2_with (fail)
  refine (HW3.out.vec HBS.out HS3.out bA b bc HVB.out o2 hl2 (by simp only [List.length_append]; omega)).mono ?_
  unfold WrPost
  rintro r w4 ⟨rfl, hw4, hs4⟩
  have HW4 := Lib.hid hw4
  have HS4 := Lib.hid hs4
  have y2 := HZ2.out _ hs4.1
  have y3 := HZ3.out _ hs4.1
  clear hw4 hs4 y1 HW3 HS3
  obtain ⟨NL, hNL⟩ : ∃ NL, log.length = NL := ⟨_, rfl⟩
  rw [hNL] at y3 hl3 HZ3 hlen
  have HNL := Lib.hid hNL
  clear hNL
  go_upto_region 4 with (fail)
  go_wp2_with (fail)
  have hka := (Kept.refl (fun _ => False) w4).alloc (.cells #[.int .i64 clock, .int .i64 NL] 3)
  refine (numbers_any (wm := wm) (g := g) (Src := fun W => (BX W ∧ Src W) ∧ Box W w4.heap.size 3 #[.int .i64 clock, .int .i64 NL]) (Stays.and HBS.out (Stays.box (by decide) (by decide))) (some ⟨w4.heap.size, 0, none⟩) [clock, (NL : Int)] 2 (fun W hW => CellsAt.of_box hW.2 rfl) (fun z hz => by
    simp only [List.mem_cons, List.not_mem_nil, or_false] at hz
    rcases hz with rfl | rfl
    · omega
    · omega) _ _ (HW4.out.fresh hka) ⟨HBK.out _ _ hka HS4.out, Box.new w4 _ _⟩ (by simp only [List.length_append]; omega) (by simp)).mono ?_
  unfold WrPost
  rintro r w5 ⟨rfl, hw5, hs5⟩
  have HW5 := Lib.hid hw5
  have HS5 := Lib.hid hs5.1
  have y3' := HZ3.out _ hs5.1.1
  clear hka hw5 hs5 y2 y3 HW4 HS4
  go_wp2_with (fail)
  clear y3'
  obtain ⟨P3, hP3⟩ : ∃ P3, l ++ encs (vnums v) ++ encs (vnums b) ++ encZ [clock, (NL : Int)] = P3 := ⟨_, rfl⟩
  have hp3 : P3.length + (encL9 log).length ≤ 800000 := by
    rw [← hP3]
    simp only [List.length_append]
    omega
  rw [hP3] at HW5
  have HP3 := Lib.hid hP3
  have HB3 := Lib.hid hp3
  clear hP3 hp3
  go_loopw [32] (fun i wr => ∃ k : Nat, i = .int .i64 k ∧ k ≤ NL ∧ WrIn wm g (P3 ++ encL9 (log.take k)) wr ∧ (BX wr ∧ Src wr)) (fun i _ => NL - (intOf i).toNat)
  case atStart => exact ⟨0, rfl, Nat.zero_le _, by simpa [encL9] using HW5.out, HS5.out⟩
  case round =>
    obtain ⟨k, rfl, hk, hw, hsr⟩ := hrel
    have HWR := Lib.hid hw
    have HSX := Lib.hid hsr
    clear hw hsr
    by_cases hlt : k < NL
    · as_aux_lemma =>
      have hin : (k : Int) < (NL : Int) := by omega
      have hkl : k < log.length := by rw [HNL.out]; exact hlt
      obtain ⟨bb, ff, hA, hcc⟩ := HLC.out.some_ (by rw [lops_len]; omega)
      subst hA
      have hr := lop_range (w := wr) (fun j u hj => HWR.out.k.cellF (hcc j u hj)) k hkl
      have ht := List.take_succ_eq_append_getElem hkl
      have hx1 := HOP.out _ (List.getElem_mem hkl)
      have hx2 := HOS.out _ (List.getElem_mem hkl)
      have hx3 := o5 _ (List.getElem_mem hkl)
      obtain ⟨x, hx⟩ : ∃ x, log[k] = x := ⟨_, rfl⟩
      rw [hx] at hr ht hx1 hx2 hx3
      have hlk : (P3 ++ encL9 (log.take k)).length ≤ 800000 := by
        have := HB3.out
        have e : encL9 log = encL9 (log.take k) ++ encL9 (log.drop k) := by rw [← encL9_app, List.take_append_drop]
        rw [e, List.length_append] at this
        rw [List.length_append]
        omega
      have HR := Lib.hid hr
      have HX1 := Lib.hid hx1
      have HX2 := Lib.hid hx2
      have HX3 := Lib.hid hx3
      have HLK := Lib.hid hlk
      have HTK := Lib.hid (show P3 ++ encL9 (log.take k) ++ encOp x.o = P3 ++ encL9 (log.take (k + 1)) by rw [ht, encL9_app, List.append_assoc]; simp [encL9])
      obtain ⟨cs, hcs⟩ : ∃ cs, x.c = cs := ⟨_, rfl⟩
      have HCS := Lib.hid hcs
      have HSZ := Lib.hid (show cs.size = 11 by rw [← hcs]; rfl)
      have HON := Lib.hid (show cs.all (·.oneCell') = true by rw [← hcs]; exact Opr.cells_one _ _ _ _ _)
      clear hr ht hx hx1 hx2 hx3 hlk hcs hcc
      go_upto_region 8 with (first | refine wpList_load_lopM rfl _ rfl bb (ff + k * 11) rfl _ HR.out cs HCS.out ?_ | (refine wpList_store_newbox size_op rfl _ _ rfl wr cs rfl rfl opZ rfl HSZ.out rfl HON.out ?_; refine Hid.out ?_))
      refine Lib.hid ?_
      have hka := (Kept.refl (fun _ => False) wr).alloc (.cells cs 64)
      have hbd := Box.new wr 64 cs
      have HWA := Lib.hid (HWR.out.fresh hka)
      have HSA := Lib.hid (HBK.out _ _ hka HSX.out)
      have HBD := Lib.hid hbd
      generalize wr.alloc (.cells cs 64) = wo at HWA HSA HBD ⊢
      obtain ⟨D, hD⟩ : ∃ D, wr.heap.size = D := ⟨_, rfl⟩
      rw [hD] at HBD ⊢
      clear hka hbd hD HWR HSX HR
      have HPT := Lib.hid (HWA.out.op HBS.out HSA.out x HX1.out HX2.out HX3.out HLK.out)
      rw [HCS.out] at HPT
      go_wp2_with (refine wpList_load_op rfl _ rfl D rfl _ cs HSZ.out HBD.out ?_)
      refine HPT.out.mono ?_
      unfold WrPost
      rintro r w6 ⟨rfl, hw6, hs6⟩
      have HW6 := Lib.hid (HTK.out ▸ hw6)
      have HS6 := Lib.hid hs6
      clear hw6 hs6
      go_wp2_with (fail)
      go_roundw
      case rel => exact ⟨k + 1, by go_num, by omega, HW6.out, HS6.out⟩
      case measure => simp [intOf]; omega
    · have hin : ¬ (k : Int) < (NL : Int) := by omega
      have hw := HWR.out
      rw [List.take_of_length_le (by rw [HNL.out]; omega)] at hw
      have HW6 := Lib.hid hw
      have y4 := HZ4.out _ HSX.out.1
      obtain ⟨NN, hNN⟩ : ∃ NN, nodes.length = NN := ⟨_, rfl⟩
      rw [hNN] at y4 hl4 HZ4 hlen
      have HNN := Lib.hid hNN
      have h3l := congrArg List.length HP3.out
      simp only [List.length_append] at h3l
      have hb3 := HB3.out
      clear hw hNN HWR
      go_wp2_with (fail)
      refine (HW6.out.num HBS.out HSX.out (NN : Int) (by simp only [List.length_append]; omega) (by omega) (by omega)).mono ?_
      unfold WrPost
      rintro r w7 ⟨rfl, hw7, hs7⟩
      rw [← encZ_one] at hw7
      have HW7 := Lib.hid hw7
      have HS7 := Lib.hid hs7
      have y4' := HZ4.out _ hs7.1
      clear hw7 hs7 y4 HW6 HSX
      go_wp2_with (fail)
      clear y4'
      obtain ⟨P5, hP5⟩ : ∃ P5, P3 ++ encL9 log ++ encZ [(NN : Int)] = P5 := ⟨_, rfl⟩
      have h5l := congrArg List.length hP5
      simp only [List.length_append] at h5l
      have hp5 : P5.length + (encN9 nodes).length ≤ 800000 := by omega
      rw [hP5] at HW7
      have HP5 := Lib.hid hP5
      have HB5 := Lib.hid hp5
      have H3L := Lib.hid h3l
      have H5L := Lib.hid h5l
      clear hP5 hp5 h3l h5l hb3
      go_loopw [48] (fun i wr => ∃ k : Nat, i = .int .i64 k ∧ k ≤ NN ∧ WrIn wm g (P5 ++ encN9 (nodes.take k)) wr ∧ (BX wr ∧ Src wr)) (fun i _ => NN - (intOf i).toNat)
      case atStart => exact ⟨0, rfl, Nat.zero_le _, by simpa [encN9] using HW7.out, HS7.out⟩
      case round =>
        obtain ⟨q, rfl, hq, hw, hsr⟩ := hrel
        have HWR := Lib.hid hw
        have HSX := Lib.hid hsr
        clear hw hsr
        by_cases hlq : q < NN
        · as_aux_lemma =>
          have hin2 : (q : Int) < (NN : Int) := by omega
          have hql : q < nodes.length := by rw [HNN.out]; exact hlq
          obtain ⟨bb, ff, hA, hcc⟩ := HNC.out.some_ (by rw [nds_len]; omega)
          subst hA
          have hr := nd_range (w := wr) (fun j u hj => HWR.out.k.cellF (hcc j u hj)) q hql
          have ht := List.take_succ_eq_append_getElem hql
          have hx3 := o6 _ (List.getElem_mem hql)
          obtain ⟨x, hx⟩ : ∃ x, nodes[q] = x := ⟨_, rfl⟩
          rw [hx] at hr ht hx3
          have hlk : (P5 ++ encN9 (nodes.take q)).length + (encZ (ndNums x)).length ≤ 800000 := by
            have := HB5.out
            have e : encN9 nodes = encN9 (nodes.take (q + 1)) ++ encN9 (nodes.drop (q + 1)) := by rw [← encN9_app, List.take_append_drop]
            rw [e, ht, encN9_app, List.length_append, List.length_append] at this
            have e2 : encN9 [x] = encZ (ndNums x) := by simp [encN9]
            rw [e2] at this
            rw [List.length_append]
            omega
          have HTK := Lib.hid (show P5 ++ encN9 (nodes.take q) ++ encZ (ndNums x) = P5 ++ encN9 (nodes.take (q + 1)) by rw [ht, encN9_app, List.append_assoc]; simp [encN9])
          have HR := Lib.hid hr
          have HX3 := Lib.hid hx3
          have HLK := Lib.hid hlk
          have hru := hx3 x.ru (by simp [ndNums])
          obtain ⟨⟨it, is⟩, ⟨rt, rs⟩, ru, st⟩ := x
          simp only at hru
          have hwr : IntKind.i64.wrap ru = ru := IntWalk.i64_in _ ⟨by omega, by omega⟩
          unfold ndNums at HTK HX3 HLK
          simp only at HTK HX3 HLK
          clear hr ht hx hx3 hlk hcc
          go_upto_region 14 with (refine wpList_load_nd rfl _ rfl bb (ff + q * 6) rfl _ HR.out ?_)
          have hka := (Kept.refl (fun _ => False) wr).alloc (.cells #[.int .i64 it, .int .i64 is, .int .i64 rt, .int .i64 rs, .int .i32 ru, .int .i64 st] 66)
          have hbd := Box.new wr 66 #[.int .i64 it, .int .i64 is, .int .i64 rt, .int .i64 rs, .int .i32 ru, .int .i64 st]
          have HWA := Lib.hid (HWR.out.fresh hka)
          have HSA := Lib.hid (HBK.out _ _ hka HSX.out)
          generalize wr.alloc (.cells #[.int .i64 it, .int .i64 is, .int .i64 rt, .int .i64 rs, .int .i32 ru, .int .i64 st] 66) = wo at HWA HSA hbd ⊢
          obtain ⟨D, hD⟩ : ∃ D, wr.heap.size = D := ⟨_, rfl⟩
          rw [hD] at hbd ⊢
          have q0 : wo.cell? ⟨D, 0, none⟩ = some (.int .i64 it) := by simpa using hbd.cell 0
          have q1 : wo.cell? ⟨D, 1, none⟩ = some (.int .i64 is) := by simpa using hbd.cell 1
          have q2 : wo.cell? ⟨D, 2, none⟩ = some (.int .i64 rt) := by simpa using hbd.cell 2
          have q3 : wo.cell? ⟨D, 3, none⟩ = some (.int .i64 rs) := by simpa using hbd.cell 3
          have q4 : wo.cell? ⟨D, 4, none⟩ = some (.int .i32 ru) := by simpa using hbd.cell 4
          have q5 : wo.cell? ⟨D, 5, none⟩ = some (.int .i64 st) := by simpa using hbd.cell 5
          clear hka hbd hD HWR HSX HR
          go_wp2_with (refine wpList_six rfl _ _ _ _ _ _ rfl it is rt rs ru st rfl rfl rfl rfl rfl rfl ?_)
          have hkb := (Kept.refl (fun _ => False) wo).alloc (.cells #[.int .i64 it, .int .i64 is, .int .i64 rt, .int .i64 rs, .int .i64 ru, .int .i64 st] 3)
          refine (numbers_any (wm := wm) (g := g) (Src := fun W => (BX W ∧ Src W) ∧ Box W wo.heap.size 3 #[.int .i64 it, .int .i64 is, .int .i64 rt, .int .i64 rs, .int .i64 ru, .int .i64 st]) (Stays.and HBS.out (Stays.box (by decide) (by decide))) (some ⟨wo.heap.size, 0, none⟩) [it, is, rt, rs, ru, st] 6 (fun W hW => CellsAt.of_box hW.2 rfl) (fun z hz => by have := HX3.out z hz; omega) _ _ (HWA.out.fresh hkb) ⟨HBK.out _ _ hkb HSA.out, Box.new wo _ _⟩ (by have := HLK.out; omega) (by simp)).mono ?_
          unfold WrPost
          rintro r w8 ⟨rfl, hw8, hs8⟩
          have HW8 := Lib.hid (HTK.out ▸ hw8)
          have HS8 := Lib.hid hs8.1
          clear hkb hw8 hs8 q0 q1 q2 q3 q4 q5 hwr hru
          go_wp2_with (fail)
          go_roundw
          case rel => exact ⟨q + 1, by go_num, by omega, HW8.out, HS8.out⟩
          case measure => simp [intOf]; omega
        · have hin2 : ¬ (q : Int) < (NN : Int) := by omega
          have hw := HWR.out
          rw [List.take_of_length_le (by rw [HNN.out]; omega)] at hw
          have HW8 := Lib.hid hw
          have HS8 := HSX
          have y5 := HZ5.out _ HSX.out.1
          have y6 := HZ6.out _ HSX.out.1
          have h3l := H3L.out
          have h5l := H5L.out
          obtain ⟨NJ, hNJ⟩ : ∃ NJ, joined.length = NJ := ⟨_, rfl⟩
          obtain ⟨NE, hNE⟩ : ∃ NE, left.length = NE := ⟨_, rfl⟩
          have hP := HT.out
          unfold encI at hP
          simp only at hP
          rw [HNL.out, HNN.out, hNJ, hNE] at hP
          have HP := Lib.hid hP
          rw [hNJ] at y5 hl5 HZ5 hlen
          rw [hNE] at y6 hl6 HZ6 hlen
          have HNJ := Lib.hid hNJ
          have HNE := Lib.hid hNE
          clear hw hNJ hNE hP HWR HSX
          go_wp2_with (refine wpList_2s rfl _ _ rfl jA eA NJ jc NE ec rfl rfl ?_)
          have hka := (Kept.refl (fun _ => False) wr).alloc (.cells #[.slice jA NJ jc, .slice eA NE ec] 26)
          have HWA := Lib.hid (HW8.out.fresh hka)
          have HSA := Lib.hid (HBK.out _ _ hka HS8.out)
          have hbz := Box.new wr 26 #[.slice jA NJ jc, .slice eA NE ec]
          generalize wr.alloc (.cells #[.slice jA NJ jc, .slice eA NE ec] 26) = wo at HWA HSA hbz ⊢
          obtain ⟨D, hD⟩ : ∃ D, wr.heap.size = D := ⟨_, rfl⟩
          rw [hD] at hbz ⊢
          obtain ⟨CX, hCX⟩ : ∃ CX : World → Prop, CX = fun W => (BX W ∧ Src W) ∧ Box W D 26 #[.slice jA NJ jc, .slice eA NE ec] := ⟨_, rfl⟩
          have HCX := Lib.hid (show ∀ W, CX W → (BX W ∧ Src W) ∧ Box W D 26 #[.slice jA NJ jc, .slice eA NE ec] from fun W hW => by rw [hCX] at hW; exact hW)
          have HCS := Lib.hid (show Stays wm g CX from by rw [hCX]; exact Stays.and HBS.out (Stays.box (by decide) (by decide)))
          have HCK2 := Lib.hid (show ∀ W W', Kept (fun _ => False) W W' → CX W → CX W' from fun W W' hk h => by rw [hCX] at h ⊢; exact ⟨HBK.out W W' hk h.1, h.2.kept hk id⟩)
          have HC0 := Lib.hid (show CX wo from by rw [hCX]; exact ⟨HSA.out, hbz⟩)
          have HD0 := Lib.hid (show ∀ W, CX W → W.cell? ⟨D, 0, none⟩ = some (.slice jA NJ jc) from fun W hW => by simpa using (HCX.out W hW).2.cell 0)
          have HD1 := Lib.hid (show ∀ W, CX W → W.cell? ⟨D, 1, none⟩ = some (.slice eA NE ec) from fun W hW => by simpa using (HCX.out W hW).2.cell 1)
          clear hka hbz hD hCX y5 y6 HW8 HS8 HSA
          obtain ⟨P6, hP6⟩ : ∃ P6, P5 ++ encN9 nodes = P6 := ⟨_, rfl⟩
          have h6l := congrArg List.length hP6
          simp only [List.length_append] at h6l
          rw [hP6] at HWA
          have HP6 := Lib.hid hP6
          clear hP6
          go_loopw [79] (fun i wr => ∃ k : Nat, i = .int .i64 k ∧ k ≤ 2 ∧ CX wr ∧ WrIn wm g (P6 ++ (if 0 < k then encZ [(NJ : Int)] ++ encZ joined else []) ++ (if 1 < k then encZ [(NE : Int)] ++ encZ left else [])) wr) (fun i _ => 2 - (intOf i).toNat)
          case atStart => exact ⟨0, rfl, by omega, HC0.out, by simpa using HWA.out⟩
          case round =>
            obtain ⟨z, rfl, hz, hcx, hwx⟩ := hrel
            have HCZ := Lib.hid hcx
            have HWZ := Lib.hid hwx
            clear hcx hwx
            have hcase : z = 0 ∨ z = 1 ∨ z = 2 := by omega
            rcases hcase with rfl | rfl | rfl
            · as_aux_lemma =>
              have hw0 := HWZ.out
              simp only [Nat.lt_irrefl, if_false, List.append_nil, show ¬ 1 < 0 by omega] at hw0
              have HW0 := Lib.hid hw0
              have d0 := HD0.out _ HCZ.out
              clear hw0 HWZ
              go_wp2_with (fail)
              have hkb := (Kept.refl (fun _ => False) wr).alloc (.cells #[.int .i64 NJ] 3)
              refine (numbers_any (wm := wm) (g := g) (Src := fun W => CX W ∧ Box W wr.heap.size 3 #[.int .i64 NJ]) (Stays.and HCS.out (Stays.box (by decide) (by decide))) (some ⟨wr.heap.size, 0, none⟩) [(NJ : Int)] 1 (fun W hW => CellsAt.of_box hW.2 rfl) (fun z hz => by simp only [List.mem_cons, List.not_mem_nil, or_false] at hz; omega) _ _ (HW0.out.fresh hkb) ⟨HCK2.out _ _ hkb HCZ.out, Box.new wr _ _⟩ (by omega) (by simp)).mono ?_
              unfold WrPost
              rintro r w8 ⟨rfl, hw8, hs8⟩
              have HW8 := Lib.hid hw8
              have HS8 := Lib.hid hs8.1
              have hnj := HNJ.out
              have HNB := numbers_any (wm := wm) (g := g) (Src := fun W => CX W ∧ Kept (fun _ => False) wm W) (Stays.and HCS.out (Stays.old (S := fun W => Kept (fun _ => False) wm W) fun W hW => hW)) jA joined jc (fun W hW => HJC.out.fresh hW.2) (fun z hz => by have := o7 z hz; omega) _ w8 HW8.out ⟨HS8.out, HW8.out.k⟩ (by simp only [List.length_append]; omega) (by omega)
              rw [hnj] at HNB
              have HNC2 := Lib.hid HNB
              clear hkb hw8 hs8 d0 HNB hnj
              go_wp2_with (fail)
              refine HNC2.out.mono ?_
              unfold WrPost
              rintro r w9 ⟨rfl, hw9, hs9⟩
              have HW9 := Lib.hid hw9
              have HS9 := Lib.hid hs9.1
              clear hw9 hs9
              go_wp2_with (fail)
              go_roundw
              case rel => exact ⟨1, rfl, by omega, HS9.out, by simpa [List.append_assoc] using HW9.out⟩
              case measure => simp [intOf]
            · as_aux_lemma =>
              have hw0 := HWZ.out
              simp only [Nat.lt_irrefl, if_false, List.append_nil, show 0 < 1 by omega, if_true] at hw0
              have HW0 := Lib.hid hw0
              have d0 := HD1.out _ HCZ.out
              clear hw0 HWZ
              go_wp2_with (fail)
              have hkb := (Kept.refl (fun _ => False) wr).alloc (.cells #[.int .i64 NE] 3)
              refine (numbers_any (wm := wm) (g := g) (Src := fun W => CX W ∧ Box W wr.heap.size 3 #[.int .i64 NE]) (Stays.and HCS.out (Stays.box (by decide) (by decide))) (some ⟨wr.heap.size, 0, none⟩) [(NE : Int)] 1 (fun W hW => CellsAt.of_box hW.2 rfl) (fun z hz => by simp only [List.mem_cons, List.not_mem_nil, or_false] at hz; omega) _ _ (HW0.out.fresh hkb) ⟨HCK2.out _ _ hkb HCZ.out, Box.new wr _ _⟩ (by simp only [List.length_append]; omega) (by simp)).mono ?_
              unfold WrPost
              rintro r w8 ⟨rfl, hw8, hs8⟩
              have HW8 := Lib.hid hw8
              have HS8 := Lib.hid hs8.1
              have hnj := HNE.out
              have HNB := numbers_any (wm := wm) (g := g) (Src := fun W => CX W ∧ Kept (fun _ => False) wm W) (Stays.and HCS.out (Stays.old (S := fun W => Kept (fun _ => False) wm W) fun W hW => hW)) eA left ec (fun W hW => HEC.out.fresh hW.2) (fun z hz => by have := o8 z hz; omega) _ w8 HW8.out ⟨HS8.out, HW8.out.k⟩ (by simp only [List.length_append]; omega) (by omega)
              rw [hnj] at HNB
              have HNC2 := Lib.hid HNB
              clear hkb hw8 hs8 d0 HNB hnj
              go_wp2_with (fail)
              refine HNC2.out.mono ?_
              unfold WrPost
              rintro r w9 ⟨rfl, hw9, hs9⟩
              have HW9 := Lib.hid hw9
              have HS9 := Lib.hid hs9.1
              clear hw9 hs9
              go_wp2_with (fail)
              go_roundw
              case rel => exact ⟨2, rfl, by omega, HS9.out, by simpa [List.append_assoc] using HW9.out⟩
              case measure => simp [intOf]
            · as_aux_lemma =>
              have hw0 := HWZ.out
              simp only [show 0 < 2 by omega, show 1 < 2 by omega, if_true] at hw0
              have HW0 := Lib.hid hw0
              have y7 := HZ7.out _ (HCX.out _ HCZ.out).1.1
              have HFIN := Lib.hid (show P6 ++ (encZ [(NJ : Int)] ++ encZ joined) ++ (encZ [(NE : Int)] ++ encZ left) ++ enc epoch.toNat = T by
                rw [← HP.out, ← HP6.out, ← HP5.out, ← HP3.out, encZ_one epoch]
                simp only [List.append_assoc])
              clear hw0 HWZ
              go_wp2_with (fail)
              refine (HW0.out.num HCS.out HCZ.out epoch (by simp only [List.length_append]; omega) o9 hep).mono ?_
              unfold WrPost
              rintro r w8 ⟨rfl, hw8, hs8⟩
              have HW8 := Lib.hid (HFIN.out ▸ hw8)
              have HS8 := Lib.hid (HCX.out _ hs8).1.2
              clear hw8 hs8 y7
              go_wp2_with (fail)
              go_end0
              exact ⟨rfl, HW8.out, HS8.out⟩
end Go.Proofs.YtnajbkccaclkcaaGreat

namespace Go.Proofs.YtnajbkccaclkcaaGreat
open Go Go.RowKit

theorem must_ok (w : World) : Calls Tryz.prog 41 #[.int .i64 0] w (fun r w' => r = .returned (.tuple #[]) ∧ w' = w) := by
  go_enter Tryz.func41, Tryz.ntmps41
  go_wp2_with (fail)
  go_end0
  exact ⟨rfl, rfl⟩
set_option maxRecDepth 100000 in
theorem number9_ok (d g : Nat) (x : Nat) (hx : x ≤ 9223372036854775807) (t : List Int) (w : World) (h : RdAt w d g ⟨enc x ++ t, 0⟩) :
    Calls Tryz.prog 42 #[.pointer (some ⟨g, 0, none⟩)] w (fun r w' => r = .returned (.int .i64 x) ∧ Kept (fun k => k = g) w w' ∧ RdAt w' d g ⟨t, 0⟩) := by
  have H := Lib.hid (RNum_any d g _ w h)
  obtain ⟨e1, e2⟩ := Rd.num hx t
  unfold RdPost at H
  rw [e1, e2] at H
  clear h e1 e2
  go_enter Tryz.func42, Tryz.ntmps42
  go_wp2_with (fail)
  refine H.out.mono ?_
  rintro r w1 ⟨rfl, hk, hr⟩
  have HK := Lib.hid hk
  have HR := Lib.hid hr
  clear hk hr
  go_wp2_with (fail)
  refine (RErrs_any d g _ w1 HR.out).mono ?_
  rintro r w2 ⟨rfl, rfl⟩
  go_wp2_with (fail)
  refine (must_ok w1).mono ?_
  rintro r w3 ⟨rfl, rfl⟩
  go_wp2_with (fail)
  go_ret
  exact ⟨rfl, HK.out, HR.out⟩
set_option maxRecDepth 100000 in
theorem take2_any (w : World) : Calls Tryz.prog 47 #[] w (fun r w' => r = .returned (.int .i64 16) ∧ w' = w) := by
  go_enter Tryz.func47, Tryz.ntmps47
  go_wp2_with (fail)
  go_ret
  exact ⟨rfl, rfl⟩
set_option maxRecDepth 100000 in
theorem list9_16 (d g : Nat) (x : Nat) (hx : x ≤ 16) (t : List Int) (w : World) (h : RdAt w d g ⟨enc x ++ t, 0⟩) :
    Calls Tryz.prog 43 #[.pointer (some ⟨g, 0, none⟩), .func (.func 47) #[] #[]] w (fun r w' => r = .returned (.int .i64 x) ∧ Kept (fun k => k = g) w w' ∧ RdAt w' d g ⟨t, 0⟩) := by
  have H := Lib.hid (number9_ok d g x (by omega) t w h)
  have hle : ¬ (x : Int) > 16 := by omega
  clear h hx
  go_enter Tryz.func43, Tryz.ntmps43
  go_wp2_with (fail)
  refine H.out.mono ?_
  rintro r w1 ⟨rfl, hk, hr⟩
  have HK := Lib.hid hk
  have HR := Lib.hid hr
  clear hk hr
  go_wp2_with (fail)
  refine (take2_any w1).mono ?_
  rintro r w2 ⟨rfl, rfl⟩
  go_wp2_with (fail)
  refine (when_any _ 6 _).mono ?_
  rintro r w3 ⟨rfl, rfl⟩
  rw [show (if decide (16 < (x : Int)) = true then (6 : Int) else 0) = 0 from if_neg (by simp; omega)]
  go_wp2_with (fail)
  refine (must_ok _).mono ?_
  rintro r w4 ⟨rfl, rfl⟩
  go_wp2_with (fail)
  go_ret
  exact ⟨rfl, HK.out, HR.out⟩
set_option maxRecDepth 100000 in
theorem list9_left (d g : Nat) (x : Nat) (t : List Int) (hx : x ≤ t.length) (hxx : x ≤ 9223372036854775807) (w : World) (h : RdAt w d g ⟨enc x ++ t, 0⟩) :
    Calls Tryz.prog 43 #[.pointer (some ⟨g, 0, none⟩), .func (.func 44) #[.pointer (some ⟨g, 0, none⟩)] #[]] w (fun r w' => r = .returned (.int .i64 x) ∧ Kept (fun k => k = g) w w' ∧ RdAt w' d g ⟨t, 0⟩) := by
  have H := Lib.hid (number9_ok d g x hxx t w h)
  have hle : ¬ (x : Int) > (t.length : Int) := by omega
  clear h hx hxx
  go_enter Tryz.func43, Tryz.ntmps43
  go_wp2_with (fail)
  refine H.out.mono ?_
  rintro r w1 ⟨rfl, hk, hr⟩
  have HK := Lib.hid hk
  have HR := Lib.hid hr
  clear hk hr
  go_wp2_with (fail)
  refine (Left_any d g t 0 w1 HR.out.at_).mono ?_
  rintro r w2 ⟨rfl, rfl⟩
  go_wp2_with (fail)
  refine (when_any _ 6 _).mono ?_
  rintro r w3 ⟨rfl, rfl⟩
  rw [show (if decide (t.length < x) = true then (6 : Int) else 0) = 0 from if_neg (by simp; omega)]
  go_wp2_with (fail)
  refine (must_ok _).mono ?_
  rintro r w4 ⟨rfl, rfl⟩
  go_wp2_with (fail)
  go_ret
  exact ⟨rfl, HK.out, HR.out⟩
set_option maxRecDepth 100000 in
set_option maxHeartbeats 1600000 in
theorem catch9_idle (g h : Nat) (w : World) :
    CallsD Tryz.prog 39 #[.pointer (some ⟨g, 0, none⟩), .pointer (some ⟨h, 0, none⟩)] .returning w fun e u' w' => e = .returned (.tuple #[]) ∧ u' = .returning ∧ w' = w := by
  refine callsD_of_wpS Tryz.func39 rfl fun c₀ ds hu => ?_
  apply wpS_seq
  apply wpS_region
  simp [wpOpsS, go_sem, recoverD, hu, Tryz.ntmps39, Exit.thenS]
  refine wpS_of_wp ?_
  go_wp2_with (fail)
  cases c₀
  simp_all [bodyPostS, results, Tryz.results39]
theorem load_IM {w : World} {g : Nat} {cs : Array Value} (hb : Box w g 28 cs) (hs : cs.size = 8) : (loadVar 28 ⟨g, 0, none⟩).run Tryz.prog w = .ok (.agg cs) w := by
  obtain ⟨d, hu, hd⟩ := und_im
  exact run_loadVar_row w g _ _ _ (0, 0) _ hb hu (by cases d <;> simp_all) (by rw [hs]; exact size_im)
theorem take9_returns {R : Ending → World → Prop} {W : World} {tmps : Array Value} {N M : Nat} {cs : Array Value} {e : Int} (h2 : tmps.getD 2 undef = .pointer (some ⟨N, 0, none⟩)) (h3 : tmps.getD 3 undef = .pointer (some ⟨M, 0, none⟩))
    (hb : Box W N 28 cs) (hs : cs.size = 8) (he : Box W M 32 #[.int .i64 e]) (hR : R (.returned (.tuple #[.agg cs, .int .i64 e])) W) :
    bodyPostD Tryz.prog Tryz.f13 R Exit.ret { tmps := tmps, defers := [{ target := .fn (.func 39) #[.pointer (some ⟨N, 0, none⟩), .pointer (some ⟨M, 0, none⟩)], args := #[] }] } W := by
  refine leaves_cons (f := 39) (args := #[.pointer (some ⟨N, 0, none⟩), .pointer (some ⟨M, 0, none⟩)]) (by simp) (by simp [go_sem]) ?_
  refine (catch9_idle N M W).mono ?_
  rintro r u' w' ⟨rfl, rfl, rfl⟩
  exact ⟨_, results_two_cells (show Tryz.f13.results = #[.cell 2 28, .cell 3 32] by kernel_rfl) tmps w' _ _ N M h2 (load_IM hb hs) h3 (load_ER he), hR⟩
end Go.Proofs.YtnajbkccaclkcaaGreat
