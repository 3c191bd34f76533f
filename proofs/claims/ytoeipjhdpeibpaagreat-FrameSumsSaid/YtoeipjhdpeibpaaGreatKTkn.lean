/- frame.taken walked at the example's body. Conditions: the Reader lies in memory. -/
import Derived.Test.YtoeipjhdpeibpaaGreatKDe0
namespace Go.Proofs.YtoeipjhdpeibpaaGreat
open Go Go.RowKit

structure Ta (w : World) (d g : Nat) (cs : Array Value) (l : List Int) (W : World) : Prop where
  k : Kept (fun k => k = g) w W
  p : Box W w.heap.size 68 #[.pointer (some ⟨g, 0, none⟩)]
  z : Box W (w.heap.size + 1) 39 frZ
  n : Box W (w.heap.size + 2) 39 cs
  r : RdAt W d g ⟨l, 0⟩
section
variable {w W W' : World} {d g : Nat} {cs : Array Value} {l l' : List Int}
theorem Ta.fresh (h : Ta w d g cs l W) (hk : Kept (fun _ => False) W W') : Ta w d g cs l W' := ⟨h.k.trans hk fun _ _ e => e.elim, h.p.kept hk id, h.z.kept hk id, h.n.kept hk id, h.r.fresh hk⟩
theorem Ta.rd (h : Ta w d g cs l W) (hg : g < w.heap.size) (hk : Kept (fun k => k = g) W W') (hr : RdAt W' d g ⟨l', 0⟩) : Ta w d g cs l' W' := ⟨h.k.trans hk fun _ _ e => e, h.p.kept hk (by omega), h.z.kept hk (by omega), h.n.kept hk (by omega), hr⟩
theorem Ta.put (h : Ta w d g cs l W) (hg : g < w.heap.size) (hd : d < w.heap.size) (i : Nat) (u : Value) : Ta w d g (cs.setIfInBounds i u) l (W.setCell ⟨w.heap.size + 2, i, none⟩ u) := by
  have hk : Kept (fun k => k = w.heap.size + 2) W (W.setCell ⟨w.heap.size + 2, i, none⟩ u) := (Kept.refl _ _).at i u (.inl rfl)
  exact ⟨h.k.trans hk fun k h2 e => by omega, h.p.kept hk (by omega), h.z.kept hk (by omega), h.n.set i u, h.r.kept hk (by omega) (by omega)⟩
end
def csK : Nat → Array Value
  | 0 => #[.int .i64 1, .int .i64 0, .int .i64 0, .int .i64 0, .int .i64 0, .int .i64 0, .bool false, .slice none 0 0, .slice none 0 0, .slice none 0 0, .slice none 0 0, .int .i64 0, .slice none 0 0, .slice none 0 0, .slice none 0 0, .slice none 0 0, .int .i64 0]
  | 1 => #[.int .i64 1, .int .i64 1, .int .i64 0, .int .i64 0, .int .i64 0, .int .i64 0, .bool false, .slice none 0 0, .slice none 0 0, .slice none 0 0, .slice none 0 0, .int .i64 0, .slice none 0 0, .slice none 0 0, .slice none 0 0, .slice none 0 0, .int .i64 0]
  | 2 => #[.int .i64 1, .int .i64 1, .int .i64 2, .int .i64 0, .int .i64 0, .int .i64 0, .bool false, .slice none 0 0, .slice none 0 0, .slice none 0 0, .slice none 0 0, .int .i64 0, .slice none 0 0, .slice none 0 0, .slice none 0 0, .slice none 0 0, .int .i64 0]
  | 3 => #[.int .i64 1, .int .i64 1, .int .i64 2, .int .i64 3, .int .i64 0, .int .i64 0, .bool false, .slice none 0 0, .slice none 0 0, .slice none 0 0, .slice none 0 0, .int .i64 0, .slice none 0 0, .slice none 0 0, .slice none 0 0, .slice none 0 0, .int .i64 0]
  | 4 => #[.int .i64 1, .int .i64 1, .int .i64 2, .int .i64 3, .int .i64 4, .int .i64 0, .bool false, .slice none 0 0, .slice none 0 0, .slice none 0 0, .slice none 0 0, .int .i64 0, .slice none 0 0, .slice none 0 0, .slice none 0 0, .slice none 0 0, .int .i64 0]
  | _ => #[.int .i64 1, .int .i64 1, .int .i64 2, .int .i64 3, .int .i64 4, .int .i64 5, .bool false, .slice none 0 0, .slice none 0 0, .slice none 0 0, .slice none 0 0, .int .i64 0, .slice none 0 0, .slice none 0 0, .slice none 0 0, .slice none 0 0, .int .i64 0]
def lK : Nat → List Int
  | 0 => [1, 2, 3, 4, 5, 1, 1, 1, 7, 0]
  | 1 => [2, 3, 4, 5, 1, 1, 1, 7, 0]
  | 2 => [3, 4, 5, 1, 1, 1, 7, 0]
  | 3 => [4, 5, 1, 1, 1, 7, 0]
  | 4 => [5, 1, 1, 1, 7, 0]
  | _ => [1, 1, 1, 7, 0]
theorem info_pint : (Tryz.prog.info? 98).map (fun i => (i.zero, i.size, i.bytes)) = some (some (.pointer none), 1, 8) := by kernel_rfl
theorem built_5p (a b c d e : Option Addr) : Tryz.prog.builtSlice 98 5 [(0, .pointer a), (1, .pointer b), (2, .pointer c), (3, .pointer d), (4, .pointer e)] = some #[.pointer a, .pointer b, .pointer c, .pointer d, .pointer e] := by
  obtain ⟨i, hi, hz, hsz, hby⟩ := info_parts info_pint
  unfold Program.builtSlice
  simp only [hi, hz, hsz]
  rw [if_neg (by decide)]
  kernel_rfl
theorem wpList_5p {ops : Array Oper} {rest : List Oper} {o : Oper} {a : Act} {w : World} {Q : Exit → Act → World → Prop} (hg : o.guard = none) (x0 x1 x2 x3 x4 : Operand)
    (ho : o.op = .buildSlice 99 5 #[(0, x0), (1, x1), (2, x2), (3, x3), (4, x4)]) (A B C D E : Option Addr) (h0 : a.eval x0 = .pointer A) (h1 : a.eval x1 = .pointer B) (h2 : a.eval x2 = .pointer C) (h3 : a.eval x3 = .pointer D) (h4 : a.eval x4 = .pointer E)
    (h : wpList Tryz.prog ops Q rest (a.put o.dst (.slice (some ⟨w.heap.size, 0, none⟩) 5 5)) (w.alloc (.cells #[.pointer A, .pointer B, .pointer C, .pointer D, .pointer E] 98))) :
    wpList Tryz.prog ops Q (o :: rest) a w := by
  refine Great.wpList_buildSliceTo hg _ 98 5 _ ho _ rfl _ rfl Tryz.underlying99 _ ?_ h
  have e' : (#[(0, x0), (1, x1), (2, x2), (3, x3), (4, x4)].map fun ((i, x) : Nat × Operand) => (i, a.eval x)).toList = [(0, a.eval x0), (1, a.eval x1), (2, a.eval x2), (3, a.eval x3), (4, a.eval x4)] := by simp
  rw [e', h0, h1, h2, h3, h4]
  exact built_5p A B C D E
theorem take_one : takeV ⟨[1, 1, 7, 0], 0⟩ = (0, [⟨1, 7⟩], ⟨[0], 0⟩) := by kernel_rfl
theorem fr_one (A : Option Addr) (c : Nat) : (exC A c).all (·.oneCell') = true := by simp [exC, Value.oneCell']
set_option maxRecDepth 100000 in
set_option maxHeartbeats 4000000 in
theorem taken_ex (d g : Nat) (w : World) (h : RdAt w d g ⟨exBody, 0⟩) (hg : g < w.heap.size) (hd : d < w.heap.size) :
    Calls Tryz.prog 25 #[.pointer (some ⟨g, 0, none⟩)] w (fun r w' => ∃ A c, r = .returned (.agg (exC A c)) ∧ w'.ownsRow w.heap.size 55 2 (.slice A 1 c) 1 (dots [⟨1, 7⟩]) ∧ Kept (fun k => k = g) w w' ∧ RdAt w' d g ⟨[], 0⟩) := by
  obtain ⟨w1, h1⟩ : ∃ w1, ((w.alloc (.cells #[.pointer (some ⟨g, 0, none⟩)] 68)).alloc (.cells frZ 39)).alloc (.cells frZ 39) = w1 := ⟨_, rfl⟩
  have HT := Lib.hid (show Ta w d g frZ exBody w1 from by
    rw [← h1]
    exact ⟨(((Kept.refl _ _).alloc _).alloc _).alloc _, ((Box.new w _ _).alloc _).alloc _, ((Box.new _ _ _).at_eq (show _ = w.heap.size + 1 by simp)).alloc _, (Box.new _ _ _).at_eq (show _ = w.heap.size + 2 by simp), ((h.fresh ((Kept.refl _ _).alloc _)).fresh ((Kept.refl _ _).alloc _)).fresh ((Kept.refl _ _).alloc _)⟩)
  have HW := Lib.hid h1
  have HG := Lib.hid hg
  have HDD := Lib.hid hd
  unfold frZ at HW
  unfold exBody at HT
  clear h h1 hg hd
  go_enter Tryz.func25, Tryz.ntmps25
  go_upto_region 3 with (fail)
  rw [HW.out]
  clear HW
  go_wp2_with (fail)
  refine (number10_ok d g _ 1 1 rfl (by decide) [1, 2, 3, 4, 5, 1, 1, 1, 7, 0] w1 HT.out.p (by have := HG.out; omega) HT.out.r).mono ?_
  rintro r w2 ⟨rfl, hk, hr⟩
  have HT2 := Lib.hid (HT.out.rd HG.out hk hr)
  clear hk hr
  have c0 : w2.cell? ⟨w.heap.size + 2, 0, none⟩ = some (.int .i64 0) := (HT2.out.n.cell 0).trans rfl
  have f0 := HT2.out.n.frozen 0
  go_upto_region 4 with (fail)
  have HTA := Lib.hid (show Ta w d g (csK 0) (lK 0) _ from HT2.out.put HG.out HDD.out 0 (.int .i64 1))
  generalize w2.setCell ⟨w.heap.size + 2, 0, none⟩ (.int .i64 1) = wa at HTA ⊢
  clear c0 f0 HT HT2
  have c0 : wa.cell? ⟨w.heap.size + 2, 0, none⟩ = some (.int .i64 1) := (HTA.out.n.cell 0).trans rfl
  go_wp2_with (fail)
  refine (unless_ok _ _).mono ?_
  rintro r wb ⟨rfl, rfl⟩
  go_wp2_with (fail)
  refine (must_ok _).mono ?_
  rintro r wd ⟨rfl, rfl⟩
  clear c0
  go_upto_region 5 with (fail)
  go_wp2_with (refine wpList_5p rfl _ _ _ _ _ rfl (some ⟨w.heap.size + 2, 1, none⟩) (some ⟨w.heap.size + 2, 2, none⟩) (some ⟨w.heap.size + 2, 3, none⟩) (some ⟨w.heap.size + 2, 4, none⟩) (some ⟨w.heap.size + 2, 5, none⟩) rfl rfl rfl rfl rfl ?_)
  have HTB := Lib.hid (HTA.out.fresh ((Kept.refl _ _).alloc (.cells #[.pointer (some ⟨w.heap.size + 2, 1, none⟩), .pointer (some ⟨w.heap.size + 2, 2, none⟩), .pointer (some ⟨w.heap.size + 2, 3, none⟩), .pointer (some ⟨w.heap.size + 2, 4, none⟩), .pointer (some ⟨w.heap.size + 2, 5, none⟩)] 98)))
  have HPB := Lib.hid (Box.new wd 98 #[.pointer (some ⟨w.heap.size + 2, 1, none⟩), .pointer (some ⟨w.heap.size + 2, 2, none⟩), .pointer (some ⟨w.heap.size + 2, 3, none⟩), .pointer (some ⟨w.heap.size + 2, 4, none⟩), .pointer (some ⟨w.heap.size + 2, 5, none⟩)])
  have HLT := Lib.hid HTA.out.n.lt
  generalize wd.alloc (.cells #[.pointer (some ⟨w.heap.size + 2, 1, none⟩), .pointer (some ⟨w.heap.size + 2, 2, none⟩), .pointer (some ⟨w.heap.size + 2, 3, none⟩), .pointer (some ⟨w.heap.size + 2, 4, none⟩), .pointer (some ⟨w.heap.size + 2, 5, none⟩)] 98) = we at HTB HPB ⊢
  generalize wd.heap.size = rp at HPB HLT ⊢
  clear HTA
  go_loopw [33] (fun i wr => ∃ k : Nat, i = .int .i64 k ∧ k ≤ 5 ∧ Ta w d g (csK k) (lK k) wr ∧ Box wr rp 98 #[.pointer (some ⟨w.heap.size + 2, 1, none⟩), .pointer (some ⟨w.heap.size + 2, 2, none⟩), .pointer (some ⟨w.heap.size + 2, 3, none⟩), .pointer (some ⟨w.heap.size + 2, 4, none⟩), .pointer (some ⟨w.heap.size + 2, 5, none⟩)]) (fun i _ => 5 - (intOf i).toNat)
  case atStart => exact ⟨0, rfl, by omega, HTB.out, HPB.out⟩
  case round =>
    obtain ⟨k, rfl, hk, ht, hp⟩ := hrel
    have HT := Lib.hid ht
    have HP := Lib.hid hp
    clear ht hp
    have hcase : k = 0 ∨ k = 1 ∨ k = 2 ∨ k = 3 ∨ k = 4 ∨ k = 5 := by omega
    rcases hcase with rfl | rfl | rfl | rfl | rfl | rfl
    · as_aux_lemma =>
      have q : wr.cell? ⟨rp, 0, none⟩ = some (.pointer (some ⟨w.heap.size + 2, 1, none⟩)) := (HP.out.cell 0).trans rfl
      go_wp2_with (fail)
      refine (number10_ok d g _ 1 1 rfl (by decide) [2, 3, 4, 5, 1, 1, 1, 7, 0] wr HT.out.p (by have := HG.out; omega) HT.out.r).mono ?_
      rintro r w2 ⟨rfl, hk2, hr⟩
      have HP2 := Lib.hid (HP.out.kept hk2 (by have := HG.out; have := HLT.out; omega))
      have HT2 := Lib.hid (HT.out.rd HG.out hk2 hr)
      clear hk2 hr q
      have c0 : w2.cell? ⟨w.heap.size + 2, 1, none⟩ = some (.int .i64 0) := (HT2.out.n.cell 1).trans rfl
      have f0 := HT2.out.n.frozen 1
      go_wp2_with (fail)
      go_roundw
      case rel => exact ⟨1, rfl, by omega, show Ta w d g (csK 1) (lK 1) _ from HT2.out.put HG.out HDD.out 1 (.int .i64 1), HP2.out.far (p := ⟨w.heap.size + 2, 1, none⟩) (by have := HLT.out; simp; omega) _⟩
      case measure => simp [intOf]
    · as_aux_lemma =>
      have q : wr.cell? ⟨rp, 1, none⟩ = some (.pointer (some ⟨w.heap.size + 2, 2, none⟩)) := (HP.out.cell 1).trans rfl
      go_wp2_with (fail)
      refine (number10_ok d g _ 2 2 rfl (by decide) [3, 4, 5, 1, 1, 1, 7, 0] wr HT.out.p (by have := HG.out; omega) HT.out.r).mono ?_
      rintro r w2 ⟨rfl, hk2, hr⟩
      have HP2 := Lib.hid (HP.out.kept hk2 (by have := HG.out; have := HLT.out; omega))
      have HT2 := Lib.hid (HT.out.rd HG.out hk2 hr)
      clear hk2 hr q
      have c0 : w2.cell? ⟨w.heap.size + 2, 2, none⟩ = some (.int .i64 0) := (HT2.out.n.cell 2).trans rfl
      have f0 := HT2.out.n.frozen 2
      go_wp2_with (fail)
      go_roundw
      case rel => exact ⟨2, rfl, by omega, show Ta w d g (csK 2) (lK 2) _ from HT2.out.put HG.out HDD.out 2 (.int .i64 2), HP2.out.far (p := ⟨w.heap.size + 2, 2, none⟩) (by have := HLT.out; simp; omega) _⟩
      case measure => simp [intOf]
    · as_aux_lemma =>
      have q : wr.cell? ⟨rp, 2, none⟩ = some (.pointer (some ⟨w.heap.size + 2, 3, none⟩)) := (HP.out.cell 2).trans rfl
      go_wp2_with (fail)
      refine (number10_ok d g _ 3 3 rfl (by decide) [4, 5, 1, 1, 1, 7, 0] wr HT.out.p (by have := HG.out; omega) HT.out.r).mono ?_
      rintro r w2 ⟨rfl, hk2, hr⟩
      have HP2 := Lib.hid (HP.out.kept hk2 (by have := HG.out; have := HLT.out; omega))
      have HT2 := Lib.hid (HT.out.rd HG.out hk2 hr)
      clear hk2 hr q
      have c0 : w2.cell? ⟨w.heap.size + 2, 3, none⟩ = some (.int .i64 0) := (HT2.out.n.cell 3).trans rfl
      have f0 := HT2.out.n.frozen 3
      go_wp2_with (fail)
      go_roundw
      case rel => exact ⟨3, rfl, by omega, show Ta w d g (csK 3) (lK 3) _ from HT2.out.put HG.out HDD.out 3 (.int .i64 3), HP2.out.far (p := ⟨w.heap.size + 2, 3, none⟩) (by have := HLT.out; simp; omega) _⟩
      case measure => simp [intOf]
    · as_aux_lemma =>
      have q : wr.cell? ⟨rp, 3, none⟩ = some (.pointer (some ⟨w.heap.size + 2, 4, none⟩)) := (HP.out.cell 3).trans rfl
      go_wp2_with (fail)
      refine (number10_ok d g _ 4 4 rfl (by decide) [5, 1, 1, 1, 7, 0] wr HT.out.p (by have := HG.out; omega) HT.out.r).mono ?_
      rintro r w2 ⟨rfl, hk2, hr⟩
      have HP2 := Lib.hid (HP.out.kept hk2 (by have := HG.out; have := HLT.out; omega))
      have HT2 := Lib.hid (HT.out.rd HG.out hk2 hr)
      clear hk2 hr q
      have c0 : w2.cell? ⟨w.heap.size + 2, 4, none⟩ = some (.int .i64 0) := (HT2.out.n.cell 4).trans rfl
      have f0 := HT2.out.n.frozen 4
      go_wp2_with (fail)
      go_roundw
      case rel => exact ⟨4, rfl, by omega, show Ta w d g (csK 4) (lK 4) _ from HT2.out.put HG.out HDD.out 4 (.int .i64 4), HP2.out.far (p := ⟨w.heap.size + 2, 4, none⟩) (by have := HLT.out; simp; omega) _⟩
      case measure => simp [intOf]
    · as_aux_lemma =>
      have q : wr.cell? ⟨rp, 4, none⟩ = some (.pointer (some ⟨w.heap.size + 2, 5, none⟩)) := (HP.out.cell 4).trans rfl
      go_wp2_with (fail)
      refine (number10_ok d g _ 5 5 rfl (by decide) [1, 1, 1, 7, 0] wr HT.out.p (by have := HG.out; omega) HT.out.r).mono ?_
      rintro r w2 ⟨rfl, hk2, hr⟩
      have HP2 := Lib.hid (HP.out.kept hk2 (by have := HG.out; have := HLT.out; omega))
      have HT2 := Lib.hid (HT.out.rd HG.out hk2 hr)
      clear hk2 hr q
      have c0 : w2.cell? ⟨w.heap.size + 2, 5, none⟩ = some (.int .i64 0) := (HT2.out.n.cell 5).trans rfl
      have f0 := HT2.out.n.frozen 5
      go_wp2_with (fail)
      go_roundw
      case rel => exact ⟨5, rfl, by omega, show Ta w d g (csK 5) (lK 5) _ from HT2.out.put HG.out HDD.out 5 (.int .i64 5), HP2.out.far (p := ⟨w.heap.size + 2, 5, none⟩) (by have := HLT.out; simp; omega) _⟩
      case measure => simp [intOf]
    · as_aux_lemma =>
      clear HTB HPB HLT HP
      go_wp2_with (fail)
      refine (number10_ok d g _ 1 1 rfl (by decide) [1, 1, 7, 0] wr HT.out.p (by have := HG.out; omega) HT.out.r).mono ?_
      rintro r w3 ⟨rfl, hk, hr⟩
      have HT3 := Lib.hid (HT.out.rd HG.out hk hr)
      clear hk hr
      go_wp2_with (fail)
      refine (unless_ok _ _).mono ?_
      rintro r wb ⟨rfl, rfl⟩
      go_wp2_with (fail)
      refine (must_ok _).mono ?_
      rintro r wd ⟨rfl, rfl⟩
      have c6 : wd.cell? ⟨w.heap.size + 2, 6, none⟩ = some (.bool false) := (HT3.out.n.cell 6).trans rfl
      have f6 := HT3.out.n.frozen 6
      go_upto_region 13 with (fail)
      have HTA := Lib.hid (show Ta w d g #[.int .i64 1, .int .i64 1, .int .i64 2, .int .i64 3, .int .i64 4, .int .i64 5, .bool true, .slice none 0 0, .slice none 0 0, .slice none 0 0, .slice none 0 0, .int .i64 0, .slice none 0 0, .slice none 0 0, .slice none 0 0, .slice none 0 0, .int .i64 0] [1, 1, 7, 0] _ from HT3.out.put HG.out HDD.out 6 (.bool true))
      generalize wd.setCell ⟨w.heap.size + 2, 6, none⟩ (.bool true) = wa at HTA ⊢
      clear c6 f6 HT3 HT
      have p0 : wa.cell? ⟨w.heap.size, 0, none⟩ = some (.pointer (some ⟨g, 0, none⟩)) := (HTA.out.p.cell 0).trans rfl
      have HTK := Lib.hid (Take_any d g _ wa HTA.out.r)
      rw [take_one] at HTK
      go_wp2_with (fail)
      refine HTK.out.mono ?_
      rintro r w5 ⟨A, c, rfl, ho, hk5, hr5⟩
      have HT5 := Lib.hid (HTA.out.rd HG.out hk5 hr5)
      have HO5 := Lib.hid (own_base ho (show w.heap.size ≤ wa.heap.size from HTA.out.k.size))
      clear ho hk5 hr5 HTK HTA p0
      have c7 : w5.cell? ⟨w.heap.size + 2, 7, none⟩ = some (.slice none 0 0) := (HT5.out.n.cell 7).trans rfl
      have f7 := HT5.out.n.frozen 7
      simp only [List.length_cons, List.length_nil, Nat.zero_add] at HO5 ⊢
      go_upto_region 15 with (fail)
      have HT6 := Lib.hid (show Ta w d g (exC A c) [0] _ from HT5.out.put HG.out HDD.out 7 (.slice A 1 c))
      have HO6 := Lib.hid (((Kept.refl (fun k => k = w.heap.size + 2) w5).at 7 (.slice A 1 c) (.inl rfl)).own HO5.out fun k e1 e2 => own_box_ne HO5.out HT5.out.n (by decide) (by rw [e1, e2]))
      generalize w5.setCell ⟨w.heap.size + 2, 7, none⟩ (.slice A 1 c) = w6 at HT6 HO6 ⊢
      clear c7 f7 HT5 HO5
      have c0 : w6.cell? ⟨w.heap.size + 2, 0, none⟩ = some (.int .i64 1) := (HT6.out.n.cell 0).trans rfl
      go_wp2_with (fail)
      refine (must_ok _).mono ?_
      rintro r wf ⟨rfl, rfl⟩
      go_wp2_with (fail)
      refine (number10_ok d g _ 0 0 rfl (by decide) [] wf HT6.out.p (by have := HG.out; omega) HT6.out.r).mono ?_
      rintro r w7 ⟨rfl, hk7, hr7⟩
      have HT7 := Lib.hid (HT6.out.rd HG.out hk7 hr7)
      have HO7 := Lib.hid (hk7.own HO6.out fun k e1 e2 => by have := (HO6.out.lt k e1).1; have := HG.out; omega)
      clear hk7 hr7 HT6 HO6 c0
      go_wp2_with (fail)
      refine (unless_ok _ _).mono ?_
      rintro r w8 ⟨rfl, rfl⟩
      go_wp2_with (fail)
      refine (must_ok _).mono ?_
      rintro r w9 ⟨rfl, rfl⟩
      go_wp2_with (fail)
      go_loopw [78] (fun i wr => i = .int .i64 0 ∧ wr = w9) (fun _ _ => 0)
      case atStart => exact ⟨rfl, rfl⟩
      case round =>
        obtain ⟨rfl, rfl⟩ := hrel
        go_wp2_with (first | (refine wpList_load_fr rfl _ rfl (w.heap.size + 2) rfl _ rfl HT7.out.n ?_) | (refine wpList_store_box rfl 39 _ _ rfl (w.heap.size + 1) (exC A c) rfl rfl 39 _ HT7.out.z (size_fr.trans rfl) rfl (fr_one A c) ?_; intro w20 HRB hk20))
        have HKF := Lib.hid (HT7.out.k.trans hk20 fun k hk e => by omega)
        have HRD := Lib.hid (HT7.out.r.kept hk20 (by have := HG.out; omega) (by have := HDD.out; omega))
        have HOD := Lib.hid (hk20.own HO7.out fun k e1 e2 => own_box_ne HO7.out HT7.out.z (by decide) (by rw [e1, e2]))
        refine bodyPost_ret (results_cell_row rfl _ _ (w.heap.size + 1) 39 (exC A c) (0, 0) _ rfl HRB.out und_fr rfl (size_fr.trans rfl)) rfl ?_
        exact ⟨A, c, rfl, HOD.out, HKF.out, HRD.out⟩
end Go.Proofs.YtoeipjhdpeibpaaGreat
