/- hearsayref11.put walked. Conditions: the nodes lie in memory; at most a million; the place is none behind the end. · Empty literals and literals of one thing, as lists of one operation. No condition. · The walks of the reference's Covers, Merge, Least. Conditions: the Dots lie in memory as DotsAt says. -/
import Derived.Test.YtnajbkccaclkcaaGreatIM11
import Derived.Test.YtnajbkccaclkcaaGreatIM6
import Derived.Test.YtnajbkccaclkcaaGreatIM9
namespace Go.Proofs.YtnajbkccaclkcaaGreat
open Go Go.RowKit

/-- A row of nodes in memory of its own. -/
def NdsPost (w : World) (l : List Nd) (e : Ending) (w' : World) : Prop := ∃ A c, e = .returned (.slice A l.length c) ∧ w'.ownsRow w.heap.size 66 6 (.slice A l.length c) l.length (nds l) ∧ Kept (fun _ => False) w w'
theorem built_nd (a b c d e f : Int) : Tryz.prog.builtSlice 66 1 [(0, .agg #[.int .i64 a, .int .i64 b, .int .i64 c, .int .i64 d, .int .i32 e, .int .i64 f])] = some #[.int .i64 a, .int .i64 b, .int .i64 c, .int .i64 d, .int .i32 e, .int .i64 f] := by
  obtain ⟨i, hi, hz, hsz, hby⟩ := info_parts info_nd
  unfold Program.builtSlice
  simp only [hi, hz, hsz]
  rw [if_neg (by decide)]
  kernel_rfl
theorem wpList_one_nd {ops : Array Oper} {rest : List Oper} {o : Oper} {a : Act} {w : World} {Q : Exit → Act → World → Prop} (hg : o.guard = none) (x0 : Operand)
    (ho : o.op = .buildSlice 25 1 #[(0, x0)]) (n : Nd) (h0 : a.eval x0 = .agg #[.int .i64 n.id.time, .int .i64 n.id.site, .int .i64 n.ref.time, .int .i64 n.ref.site, .int .i32 n.ru, .int .i64 n.st])
    (h : wpList Tryz.prog ops Q rest (a.put o.dst (.slice (some ⟨w.heap.size, 0, none⟩) 1 1)) (w.alloc (.cells n.c 66))) :
    wpList Tryz.prog ops Q (o :: rest) a w := by
  refine Great.wpList_buildSliceTo hg _ 66 1 _ ho _ rfl _ rfl Tryz.underlying25 _ ?_ h
  have e' : (#[(0, x0)].map fun ((i, x) : Nat × Operand) => (i, a.eval x)).toList = [(0, a.eval x0)] := by simp
  rw [e', h0]
  exact built_nd ..
theorem own_nil {w : World} {base s n c : Nat} {e : TypeId} {A : Option Addr} {xs : List Value} (h : w.ownsRow base e s (.slice A n c) n xs) : A = none → n = 0 ∧ c = 0 := fun hA => by
  rcases h.2 with ⟨h', h0⟩ | ⟨g, cap, cur, hv, _⟩
  · injection h' with _ _ e3
    exact ⟨h0, e3⟩
  · injection hv with e1
    rw [hA] at e1
    cases e1
theorem nds_take (l : List Nd) (i : Nat) : (nds l).take (i * 6) = nds (l.take i) := by
  induction l generalizing i with
  | nil => simp [nds]
  | cons x t ih =>
    have e : nds (x :: t) = x.c.toList ++ nds t := rfl
    have hx : x.c.toList.length = 6 := rfl
    cases i with
    | zero => simp [nds]
    | succ i =>
      rw [e, show (i + 1) * 6 = 6 + i * 6 by omega, ← hx, List.take_length_add_append, hx, ih]
      rfl
theorem nds_drop (l : List Nd) (i : Nat) : (nds l).drop (i * 6) = nds (l.drop i) := by
  induction l generalizing i with
  | nil => simp [nds]
  | cons x t ih =>
    have e : nds (x :: t) = x.c.toList ++ nds t := rfl
    have hx : x.c.toList.length = 6 := rfl
    cases i with
    | zero => simp
    | succ i =>
      rw [e, show (i + 1) * 6 = x.c.toList.length + i * 6 by rw [hx]; omega, List.drop_length_add_append, ih]
      rfl

set_option maxRecDepth 100000 in
set_option maxHeartbeats 4000000 in
theorem put_any (A : Option Addr) (l : List Nd) (c i : Nat) (n : Nd) (w : World) (b0 : Nat) (h : w.ownsRow b0 66 6 (.slice A l.length c) l.length (nds l)) (hi : i ≤ l.length) (hn : l.length ≤ 1000000) : Calls Tryz.prog 71 #[.slice A l.length c, .int .i64 i, .agg #[.int .i64 n.id.time, .int .i64 n.id.site, .int .i64 n.ref.time, .int .i64 n.ref.site, .int .i32 n.ru, .int .i64 n.st]] w (NdsPost w (putN l i n)) := by
  have hcap := (own_caps h).1
  have hnil := own_nil h
  obtain ⟨N, hN⟩ : ∃ N, l.length = N := ⟨_, rfl⟩
  rw [hN] at h hi hn hcap hnil ⊢
  obtain ⟨ls, hls⟩ : ∃ ls, putN l i n = ls := ⟨_, rfl⟩
  have hll : ls.length = N + 1 := by rw [← hls, putN_len, hN]
  rw [hls]
  have HLS := Lib.hid hls
  have HLL := Lib.hid hll
  have hk := (Kept.refl (fun _ => False) w).alloc (.cells n.c 66)
  have hb := Box.new w 66 n.c
  have ho := h.alloc (.cells n.c 66)
  have hsz : w.heap.size ≤ (w.alloc (.cells n.c 66)).heap.size := hk.size
  have hic : i ≤ c := by omega
  have hiN : (i : Int) ≤ (N : Int) := by omega
  have hiC : (i : Int) ≤ (c : Int) := by omega
  unfold Nd.c at hb hk ho hsz
  generalize hw1 : w.alloc (.cells #[.int .i64 n.id.time, .int .i64 n.id.site, .int .i64 n.ref.time, .int .i64 n.ref.site, .int .i32 n.ru, .int .i64 n.st] 66) = w1 at hb hk ho hsz
  have HK := Lib.hid hk
  have HB := Lib.hid hb
  have HO := Lib.hid ho
  have HO0 := Lib.hid h
  have HN := Lib.hid hN
  have HW := Lib.hid hw1
  have HSZ := Lib.hid hsz
  have HNIL := Lib.hid hnil
  clear hls hll hk hb ho hN h hw1 hsz hnil
  go_enter Tryz.func71, Tryz.ntmps71
  go_upto_region 1 with (fail)
  rw [HW.out]
  go_wp2_with (at_builtin; refine Hid.out ?_)
  refine Lib.hid ?_
  refine wpList_append_kit eltNds rfl _ _ rfl w.heap.size (.slice none 0 0) 0 [] rfl (World.ownsRow_nil _ _ _ _) A i c ((nds l).take (i * 6)) rfl (fun e => ⟨by have := HNIL.out e; omega, (HNIL.out e).2⟩) (by rw [List.length_take, nds_len, HN.out]; omega) (fun j u hj => by
    have hj2 : (nds l)[j]? = some u := by
      rw [List.getElem?_take] at hj
      split at hj
      · exact hj
      · cases hj
    exact CellsAt.of_own HO.out j u hj2) (fun u hu => nds_one l u (List.mem_of_mem_take hu)) (by omega) HSZ.out ?_
  intro A1 c1 w2 HO1 HK1 HG1
  have ho2 : w2.ownsRow w.heap.size 66 6 (.slice A1 i c1) i (nds (l.take i)) := by
    have := HO1.out
    rw [List.nil_append, nds_take, Nat.zero_add] at this
    exact this
  rw [Nat.zero_add]
  have hk2 : Kept (fun _ => False) w1 w2 := HK1.out.more fun _ _ e => by cases e
  have HO2 := Lib.hid ho2
  have HK2 := Lib.hid hk2
  have hb2 := HB.out.kept hk2 id
  have z0 : w2.cell? ⟨w.heap.size, 0, none⟩ = some (.int .i64 n.id.time) := by simpa using hb2.cell 0
  have z1 : w2.cell? ⟨w.heap.size, 1, none⟩ = some (.int .i64 n.id.site) := by simpa using hb2.cell 1
  have z2 : w2.cell? ⟨w.heap.size, 2, none⟩ = some (.int .i64 n.ref.time) := by simpa using hb2.cell 2
  have z3 : w2.cell? ⟨w.heap.size, 3, none⟩ = some (.int .i64 n.ref.site) := by simpa using hb2.cell 3
  have z4 : w2.cell? ⟨w.heap.size, 4, none⟩ = some (.int .i32 n.ru) := by simpa using hb2.cell 4
  have z5 : w2.cell? ⟨w.heap.size, 5, none⟩ = some (.int .i64 n.st) := by simpa using hb2.cell 5
  have aN := Tryz.isAgg66
  have zN := Tryz.sizeOf66
  clear ho2 hk2 hb2 HO1 HK1 HG1
  go_wp2_with (first | refine wpList_one_nd rfl _ rfl n rfl ?_ | (at_builtin; refine Hid.out ?_))
  refine Lib.hid ?_
  refine wpList_append_new eltNds rfl _ _ rfl w.heap.size _ i (nds (l.take i)) rfl HO2.out 1 1 rfl rfl rfl (by omega) (Nat.le_trans HSZ.out HK2.out.size) ?_
  intro A2 c2 w3 HO3 HK3 HG3
  have hk3 : Kept (fun k => w.heap.size ≤ k) w2 w3 := HK3.out.more fun j _ e => (HO2.out.lt j e).1
  have hk13 : Kept (fun _ => False) w w3 := (HK.out.trans HK2.out fun _ _ e => e).trans hk3 fun j hj e => by omega
  have ho3 : w3.ownsRow w.heap.size 66 6 (.slice A2 (i + 1) c2) (i + 1) (nds (l.take i ++ [n])) := by rw [nds_app]; exact HO3.out
  have HO4 := Lib.hid ho3
  have HK4 := Lib.hid hk13
  have HKS := Lib.hid hk3.size
  clear ho3 hk3 hk13 HO3 HK3 HG3 z0 z1 z2 z3 z4 z5 aN zN
  have HLEN := Lib.hid (show (putN l i n).length = i + 1 + (N - i) by rw [putN_len, HN.out]; omega)
  have HBASE := Lib.hid (Nat.le_trans (Nat.le_trans HSZ.out HK2.out.size) (show w2.heap.size ≤ w3.heap.size from HKS.out))
  go_wp2_with (at_builtin; refine Hid.out ?_)
  · refine Lib.hid ?_
    have hz : i + 1 + (N - i) = N + 1 := by omega
    have hNi : N = i := by omega
    have hd : l.drop i = [] := List.drop_eq_nil_of_le (by rw [HN.out]; omega)
    refine wpList_append_kit eltNds rfl _ _ rfl w.heap.size _ (i + 1) (nds (l.take i ++ [n])) rfl HO4.out A (N - i) 0 [] rfl (fun _ => ⟨by omega, rfl⟩) (by simp; omega) (fun j u hj => by simp at hj) (fun u hu => by simp at hu) (by omega) HBASE.out ?_
    intro A3 c3 w4 HO5 HK5 HG5
    rw [hz] at HO5 ⊢
    have hk5 : Kept (fun _ => False) w w4 := HK4.out.trans HK5.out fun j hj e => by
      have := (HO4.out.lt j e).1
      omega
    have hput : putN l i n = l.take i ++ [n] := by unfold putN; rw [hd]
    have ho5 : w4.ownsRow w.heap.size 66 6 (.slice A3 ls.length c3) ls.length (nds ls) := by
      have := HO5.out
      rw [List.append_nil] at this
      rw [HLL.out, ← HLS.out, hput]
      exact this
    have HO6 := Lib.hid ho5
    have HK6 := Lib.hid hk5
    clear ho5 hk5 HO5 HK5 HG5 hd hput hNi hz
    go_wp2_with (fail)
    go_ret
    exact ⟨A3, c3, by rw [HLL.out]; rfl, HO6.out, HK6.out⟩
  · refine Lib.hid ?_
    have hz : i + 1 + (N - i) = N + 1 := by omega
    have hnews : ∀ (j : Nat) (u : Value), (nds (l.drop i))[j]? = some u → ∃ ad, (A.map fun x : Addr => x.add (i * 6)) = some ad ∧ w3.cell? (ad.add j) = some u := fun j u hj => by
      rw [← nds_drop, List.getElem?_drop] at hj
      have hpos : 0 < (nds l).length := by
        have := (List.getElem?_eq_some_iff.1 hj).1
        omega
      obtain ⟨g, f, hA, hc⟩ := (CellsAt.of_own HO0.out).some_ hpos
      subst hA
      refine ⟨_, rfl, ?_⟩
      have := HK4.out.cellF (hc _ u hj)
      rw [← Nat.add_assoc] at this
      have e1 : ((⟨g, f, none⟩ : Addr).add (i * 6)).add j = ⟨g, f + i * 6 + j, none⟩ := by
        have a1 : (⟨g, f, none⟩ : Addr).add (i * 6) = ⟨g, f + i * 6, none⟩ := by unfold Addr.add; split <;> simp_all
        rw [a1]
        unfold Addr.add
        split <;> simp_all
      rw [e1]
      exact this
    refine wpList_append_kit eltNds rfl _ _ rfl w.heap.size _ (i + 1) (nds (l.take i ++ [n])) rfl HO4.out (A.map fun x : Addr => x.add (i * 6)) (N - i) (c - i) (nds (l.drop i)) rfl (fun e => ?_) (by rw [nds_len, List.length_drop, HN.out]) hnews (nds_one _) (by omega) HBASE.out ?_
    · have e0 : A = none := by
        cases A with
        | none => rfl
        | some x => cases e
      have := HNIL.out e0
      omega
    intro A3 c3 w4 HO5 HK5 HG5
    rw [hz] at HO5 ⊢
    have hk5 : Kept (fun _ => False) w w4 := HK4.out.trans HK5.out fun j hj e => by
      have := (HO4.out.lt j e).1
      omega
    have ho5 : w4.ownsRow w.heap.size 66 6 (.slice A3 ls.length c3) ls.length (nds ls) := by
      have := HO5.out
      rw [← nds_app] at this
      rw [HLL.out, ← HLS.out]
      unfold putN
      rw [show l.take i ++ n :: l.drop i = l.take i ++ [n] ++ l.drop i by simp]
      exact this
    have HO6 := Lib.hid ho5
    have HK6 := Lib.hid hk5
    clear ho5 hk5 HO5 HK5 HG5 hnews hz
    go_wp2_with (fail)
    go_ret
    exact ⟨A3, c3, by rw [HLL.out]; rfl, HO6.out, HK6.out⟩
end Go.Proofs.YtnajbkccaclkcaaGreat

namespace Go.Proofs.YtnajbkccaclkcaaGreat
open Go Go.RowKit

section
variable {ops : Array Oper} {Q : Exit → Act → World → Prop} {a : Act} {w : World} {s : Nat} {o : Oper}
theorem lit0_dot (hg : o.guard = none) (hd : o.dst = some s) (ho : o.op = .buildSlice 23 0 #[]) (h : Q .normal (a.put (some s) (.slice (some ⟨w.heap.size, 0, none⟩) 0 0)) (w.alloc (.cells #[] 59))) : wpList Tryz.prog ops Q [o] a w := by
  refine wpList_plain hg fun K hK => ?_
  unfold Oper.wp execOp
  rw [ho]
  go_simp
  exact hK _ _ (wpList_nil h)
theorem lit0_run (hg : o.guard = none) (hd : o.dst = some s) (ho : o.op = .buildSlice 62 0 #[]) (h : Q .normal (a.put (some s) (.slice (some ⟨w.heap.size, 0, none⟩) 0 0)) (w.alloc (.cells #[] 68))) : wpList Tryz.prog ops Q [o] a w := by
  refine wpList_plain hg fun K hK => ?_
  unfold Oper.wp execOp
  rw [ho]
  go_simp
  exact hK _ _ (wpList_nil h)
theorem lit0_nd (hg : o.guard = none) (hd : o.dst = some s) (ho : o.op = .buildSlice 25 0 #[]) (h : Q .normal (a.put (some s) (.slice (some ⟨w.heap.size, 0, none⟩) 0 0)) (w.alloc (.cells #[] 66))) : wpList Tryz.prog ops Q [o] a w := by
  refine wpList_plain hg fun K hK => ?_
  unfold Oper.wp execOp
  rw [ho]
  go_simp
  exact hK _ _ (wpList_nil h)
theorem lit0_int (hg : o.guard = none) (hd : o.dst = some s) (ho : o.op = .buildSlice 26 0 #[]) (h : Q .normal (a.put (some s) (.slice (some ⟨w.heap.size, 0, none⟩) 0 0)) (w.alloc (.cells #[] 3))) : wpList Tryz.prog ops Q [o] a w := by
  refine wpList_plain hg fun K hK => ?_
  unfold Oper.wp execOp
  rw [ho]
  go_simp
  exact hK _ _ (wpList_nil h)
theorem built1_dot (a b : Int) : Tryz.prog.builtSlice 59 1 [(0, .agg #[.int .i64 a, .int .i64 b])] = some #[.int .i64 a, .int .i64 b] := by
  obtain ⟨i, hi, hz, hsz, hby⟩ := info_parts info_dot
  unfold Program.builtSlice
  simp only [hi, hz, hsz]
  rw [if_neg (by decide)]
  kernel_rfl
theorem lit1_dot (hg : o.guard = none) (hd : o.dst = some s) (x : Operand) (ho : o.op = .buildSlice 23 1 #[(0, x)]) (a' b' : Int) (hx : a.eval x = .agg #[.int .i64 a', .int .i64 b']) (h : Q .normal (a.put (some s) (.slice (some ⟨w.heap.size, 0, none⟩) 1 1)) (w.alloc (.cells #[.int .i64 a', .int .i64 b'] 59))) : wpList Tryz.prog ops Q [o] a w := by
  refine Great.wpList_buildSliceTo hg _ 59 1 _ ho _ rfl _ hd Tryz.underlying23 _ ?_ (wpList_nil h)
  have e' : (#[(0, x)].map fun ((i, y) : Nat × Operand) => (i, a.eval y)).toList = [(0, a.eval x)] := by simp
  rw [e', hx]
  exact built1_dot ..
theorem built1_run (a b c : Int) : Tryz.prog.builtSlice 68 1 [(0, .agg #[.int .i64 a, .int .i64 b, .int .i64 c])] = some #[.int .i64 a, .int .i64 b, .int .i64 c] := by
  obtain ⟨i, hi, hz, hsz, hby⟩ := info_parts info_run
  unfold Program.builtSlice
  simp only [hi, hz, hsz]
  rw [if_neg (by decide)]
  kernel_rfl
theorem lit1_run (hg : o.guard = none) (hd : o.dst = some s) (x : Operand) (ho : o.op = .buildSlice 62 1 #[(0, x)]) (a' b' c' : Int) (hx : a.eval x = .agg #[.int .i64 a', .int .i64 b', .int .i64 c']) (h : Q .normal (a.put (some s) (.slice (some ⟨w.heap.size, 0, none⟩) 1 1)) (w.alloc (.cells #[.int .i64 a', .int .i64 b', .int .i64 c'] 68))) : wpList Tryz.prog ops Q [o] a w := by
  refine Great.wpList_buildSliceTo hg _ 68 1 _ ho _ rfl _ hd Tryz.underlying62 _ ?_ (wpList_nil h)
  have e' : (#[(0, x)].map fun ((i, y) : Nat × Operand) => (i, a.eval y)).toList = [(0, a.eval x)] := by simp
  rw [e', hx]
  exact built1_run ..
theorem lit1_nd (hg : o.guard = none) (hd : o.dst = some s) (x : Operand) (ho : o.op = .buildSlice 25 1 #[(0, x)]) (n : Nd) (hx : a.eval x = .agg #[.int .i64 n.id.time, .int .i64 n.id.site, .int .i64 n.ref.time, .int .i64 n.ref.site, .int .i32 n.ru, .int .i64 n.st]) (h : Q .normal (a.put (some s) (.slice (some ⟨w.heap.size, 0, none⟩) 1 1)) (w.alloc (.cells n.c 66))) : wpList Tryz.prog ops Q [o] a w :=
  wpList_one_nd hg x ho n hx (wpList_nil (hd ▸ h))
theorem lit1_int (hg : o.guard = none) (hd : o.dst = some s) (n : Int) (ho : o.op = .buildSlice 26 1 #[(0, .const (.int .i64 n))]) (h : Q .normal (a.put (some s) (.slice (some ⟨w.heap.size, 0, none⟩) 1 1)) (w.alloc (.cells #[.int .i64 n] 3))) : wpList Tryz.prog ops Q [o] a w := by
  refine wpList_plain hg fun K hK => ?_
  unfold Oper.wp execOp
  rw [ho]
  go_simp
  exact hK _ _ (wpList_nil h)
end
end Go.Proofs.YtnajbkccaclkcaaGreat

namespace Go.Proofs.YtnajbkccaclkcaaGreat
open Go.RowKit

def TwoAt (w wr : World) (g h : Nat) (r s : List Int) : Prop := Box wr g 117 (rowV r) ∧ Box wr h 117 (rowV s) ∧ Kept (fun _ => False) w wr
theorem TwoAt.set {w wr : World} {g h : Nat} {r s : List Int} (H : TwoAt w wr g h r s) (hg : w.heap.size ≤ g) (hgh : g < h) (k : Nat) (x : Int) : TwoAt w (wr.setCell ⟨g, k, none⟩ (.int .i64 x)) g h (r.set k x) s := by
  refine ⟨?_, H.2.1.far (p := ⟨g, k, none⟩) (by show h ≠ g; omega) _, H.2.2.at k _ (.inr (by omega))⟩
  have := H.1.set k (.int .i64 x)
  rwa [rowV_set] at this
theorem TwoAt.drewN {w wr : World} {g h : Nat} {r s : List Int} (H : TwoAt w wr g h r s) (n : Nat) : TwoAt w (wr.drewN n) g h r s := ⟨H.1, H.2.1, H.2.2.drewN n⟩

set_option maxRecDepth 100000 in
set_option maxHeartbeats 1600000 in
theorem RMerge_any (A B : Option Addr) (l m : List Dt) (c d : Nat) (w : World) (hl : DotsAt w A l) (hm : DotsAt w B m) (hlen : l.length ≤ 4611686018427387904) (hlen' : m.length ≤ 4611686018427387904) :
    Calls Tryz.prog 66 #[.slice A l.length c, .slice B m.length d] w (FreshDots w (vec (maxR (says l) (says m)))) := by
  have HL := Lib.hid hl
  have HM := Lib.hid hm
  clear hl hm
  go_enter Tryz.func66, Tryz.ntmps66
  go_wp2_with (fail)
  refine (Says_any A l c _ HL.out hlen).mono ?_
  rintro e w1 ⟨rfl, hk1⟩
  have HK1 := Lib.hid hk1
  clear hk1
  have HR := Lib.hid (Row.says l)
  have HS := Lib.hid (Row.says m)
  generalize hr : says l = r at HR ⊢
  have hb0 := zero_row w1 117
  have HW := Lib.hid hr
  clear hr
  go_wp2_with (refine wpList_store_box rfl 117 _ _ rfl w1.heap.size (rowV r) rfl rfl 117 (rowV row0) hb0 (size_Row.trans (size_of_row HR.out)) (by rw [rowV_size, rowV_size, HR.out.len]; rfl) (rowV_one _) ?_; intro w2 HB2 hk2; have HK2 := Lib.hid (HK1.out.fresh_set hk2); clear hk2 hb0)
  refine (Says_any B m d _ (HM.out.fresh HK2.out) hlen').mono ?_
  rintro e w3 ⟨rfl, hk3⟩
  have HK3 := Lib.hid (HK2.out.trans hk3 fun _ _ e => e)
  have HB3 := Lib.hid (HB2.out.kept hk3 fun h => h)
  clear hk3
  generalize hs : says m = s at HS ⊢
  have HEQ := Lib.hid (show maxR (says l) (says m) = maxR r s by rw [HW.out, hs])
  clear hs
  have hb0 := zero_row w3 117
  go_wp2_with (refine wpList_store_box rfl 117 _ _ rfl w3.heap.size (rowV s) rfl rfl 117 (rowV row0) hb0 (size_Row.trans (size_of_row HS.out)) (by rw [rowV_size, rowV_size, HS.out.len]; rfl) (rowV_one _) ?_; intro w4 HB4 hk4; have HK4 := Lib.hid (HK3.out.fresh_set hk4); have HB5 := Lib.hid ((HB3.out.alloc _).kept hk4 (by have := HB3.out.lt; omega)); clear hk4 hb0)
  have hg := HK1.out.size
  have hgh := HB3.out.lt
  have HAT := Lib.hid (show TwoAt w w4 w1.heap.size w3.heap.size r s from ⟨HB5.out, HB4.out, HK4.out⟩)
  have HRS := Lib.hid (show zipR max r s 0 = r from zipR_zero max s HR.out.len)
  clear HB5 HB4 HK4 HB3 HK3 HK2 HB2 HK1
  generalize w1.heap.size = g at hg hgh HAT ⊢
  generalize w3.heap.size = h at hgh HAT ⊢
  go_loopw [7] (fun i wr => ∃ k : Nat, i = .int .i64 k ∧ k ≤ 17 ∧ TwoAt w wr g h (zipR max r s k) s) (fun i _ => 17 - (intOf i).toNat)
  case atStart => exact ⟨0, rfl, Nat.zero_le _, by rw [HRS.out]; exact HAT.out⟩
  case round =>
    obtain ⟨k, rfl, hk, hat⟩ := hrel
    have HT := Lib.hid hat
    clear hat
    by_cases hlt : k < 17
    · have c0 : wr.cell? ⟨g, k, none⟩ = some (.int .i64 (rg r k)) := by rw [HT.out.1.cell, rowV_get _ _ (by rw [zipR_len]; omega), zipR_rg _ _ _ _ _ hlt, if_neg (by omega)]
      have c1 : wr.cell? ⟨h, k, none⟩ = some (.int .i64 (rg s k)) := by rw [HT.out.2.1.cell, rowV_get _ _ (by rw [HS.out.len]; omega)]
      have f0 : wr.frozen? ⟨g, k, none⟩ = false := HT.out.1.frozen k
      have HE := Lib.hid (show zipR max r s (k + 1) = (zipR max r s k).set k (max (rg r k) (rg s k)) from zipR_succ max r s k hlt)
      generalize rg r k = x at c0 HE
      generalize rg s k = y at c1 HE
      obtain ⟨z, em, hz⟩ : ∃ z, (if x < y then y else x) = z ∧ max x y = z := ⟨_, rfl, by omega⟩
      have HZ := Lib.hid hz
      clear hz
      go_wp2_with (fail)
      go_region
      all_goals
        go_wp2
        go_roundw
        case rel => exact ⟨k + 1, by go_num, by omega, by rw [HE.out, HZ.out]; exact (HT.out.drewN 1).set hg hgh k _⟩
        case measure => simp [intOf]; omega
    · obtain rfl : k = 17 := by omega
      have hb0 := HT.out.1
      have HRow := Lib.hid (zipR_len max r s 17)
      go_wp2_with (refine wpList_load_box rfl 117 _ rfl g rfl 117 (rowV (zipR max r s 17)) _ hb0 Tryz.underlying117 rfl (size_Row.trans (by rw [rowV_size, HRow.out])) ?_)
      clear hb0
      refine (Of_any _ _ (HR.out.maxR HS.out)).mono ?_
      rintro e w5 hf
      have HF := Lib.hid (hf.since HT.out.2.2)
      obtain ⟨A', c', rfl, -, -⟩ := hf
      go_wp2
      go_ret
      rw [HEQ.out]
      exact HF.out

end Go.Proofs.YtnajbkccaclkcaaGreat
