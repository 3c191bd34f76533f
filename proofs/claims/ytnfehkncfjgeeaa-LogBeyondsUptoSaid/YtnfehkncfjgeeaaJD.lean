/- The walks of New, Base, Vector, Len, on a log and on none. Conditions: the log and the vector lie in memory; nothing is longer than a million. · The walk of the law's vectors: are two lists the same Dots. Conditions: they lie in memory. · A script of calls in memory; the walk of the law's much. Conditions: the script lies in memory. · The walk of the law's rest: all that an iterator goes through, up to so many. Conditions: the operations lie in memory; nothing is longer than a million. -/
import Derived.Test.YtnfehkncfjgeeaaJA
import Derived.Test.YtnfehkncfjgeeaaVSame
import Derived.Test.YtnfehkncfjgeeaaJB
namespace Go.Proofs.Ytnfehkncfjgeeaa
open Go Go.RowKit

def NewPost (w : World) (hv : List Dt) (e : Ending) (w' : World) : Prop :=
  (checkV hv = 0 ∧ ∃ (p : Nat) (L : Lg), e = .returned (.tuple #[.pointer (some ⟨p, 0, none⟩), .int .i64 0]) ∧ LogAt w' p L ∧ L.base = hv ∧ L.all = hv ∧ L.ops = [] ∧ L.oA = none ∧ w.heap.size ≤ p ∧ Kept (fun _ => False) w w') ∨
  (checkV hv ≠ 0 ∧ e = .returned (.tuple #[.pointer none, .int .i64 (checkV hv)]) ∧ Kept (fun _ => False) w w')
set_option maxRecDepth 100000 in
set_option maxHeartbeats 1600000 in
theorem New_any (H : Option Addr) (hv : List Dt) (hc : Nat) (w : World) (hh : DotsAt w H hv) (hlen : hv.length ≤ 1000000) : Calls Try.prog 12 #[.slice H hv.length hc] w (NewPost w hv) := by
  have HH := Lib.hid hh
  clear hh
  go_enter Try.func12, Try.ntmps12
  go_wp2_with (fail)
  refine (Check_any H hv hc _ HH.out (by omega)).mono ?_
  unfold IntPost
  rintro e w1 ⟨rfl, hk1⟩
  have HH1 := Lib.hid (HH.out.fresh hk1)
  have HK1 := Lib.hid hk1
  clear hk1
  by_cases hch : checkV hv = 0
  · have HCH := Lib.hid hch
    rw [hch]
    clear hch
    go_wp2_with (fail)
    refine (CloneD_any H hv hc _ HH1.out hlen).mono ?_
    rintro e w2 ⟨A2, c2, rfl, ho2, hk2⟩
    have HO2 := Lib.hid (own_base (base' := 0) ho2 (Nat.zero_le _))
    have HK2 := Lib.hid (HK1.out.trans hk2 fun _ _ e => e)
    have HH2 := Lib.hid (HH1.out.fresh hk2)
    clear ho2 hk2
    go_wp2_with (fail)
    refine (CloneD_any H hv hc _ HH2.out hlen).mono ?_
    rintro e w3 ⟨A3, c3, rfl, ho3, hk3⟩
    have HL := Lib.hid (show LogAt (w3.alloc (.cells (Lg.cells ⟨hv, hv, [], A2, c2, A3, c3, none, 0⟩) 51)) w3.heap.size ⟨hv, hv, [], A2, c2, A3, c3, none, 0⟩ from
      ⟨Box.new _ _ _, (hk3.own HO2.out fun _ _ => id).alloc _, (own_base ho3 (Nat.zero_le _)).alloc _, World.ownsRow_nil _ _ _ _, fun x h => absurd h (by simp), fun x h => absurd h (by simp), hlen, hlen, by simp⟩)
    have HK3 := Lib.hid ((HK2.out.trans hk3 fun _ _ e => e).alloc (.cells (Lg.cells ⟨hv, hv, [], A2, c2, A3, c3, none, 0⟩) 51))
    have HSZ := Lib.hid ((HK2.out.trans hk3 fun _ _ e => e).size)
    clear ho3 hk3
    go_wp2_with (fail)
    go_ret2
    exact .inl ⟨HCH.out, w3.heap.size, _, rfl, HL.out, rfl, rfl, rfl, rfl, HSZ.out, HK3.out⟩
  · have HCH := Lib.hid hch
    go_wp2_with (fail)
    go_ret2
    exact .inr ⟨HCH.out, rfl, HK1.out⟩
set_option maxRecDepth 100000 in
theorem Base_nil (w : World) : Calls Try.prog 23 #[.pointer none] w (FreshDots w []) := by
  go_enter Try.func23, Try.ntmps23
  go_wp2
  go_ret
  exact ⟨none, 0, rfl, World.ownsRow_nil _ _ _ _, Kept.refl _ _⟩
set_option maxRecDepth 100000 in
theorem Vector_nil (w : World) : Calls Try.prog 24 #[.pointer none] w (FreshDots w []) := by
  go_enter Try.func24, Try.ntmps24
  go_wp2
  go_ret
  exact ⟨none, 0, rfl, World.ownsRow_nil _ _ _ _, Kept.refl _ _⟩
set_option maxRecDepth 100000 in
theorem Len_nil (w : World) : Calls Try.prog 25 #[.pointer none] w (IntPost w 0) := by
  go_enter Try.func25, Try.ntmps25
  go_wp2
  go_ret
  exact ⟨rfl, Kept.refl _ _⟩
set_option maxRecDepth 100000 in
set_option maxHeartbeats 1600000 in
theorem Base_any (p : Nat) (L : Lg) (w : World) (h : LogAt w p L) : Calls Try.prog 23 #[.pointer (some ⟨p, 0, none⟩)] w (FreshDots w L.base) := by
  have x0 : w.cell? ⟨p, 0, none⟩ = some (.slice L.bA L.base.length L.bc) := by simpa [Lg.cells] using h.box.cell 0
  have HL := Lib.hid h
  clear h
  go_enter Try.func23, Try.ntmps23
  go_wp2_with (fail)
  refine (CloneD_any L.bA L.base L.bc _ (DotsAt.of_own HL.out.b) HL.out.bl).mono ?_
  rintro e w2 ⟨A2, c2, rfl, ho2, hk2⟩
  have HO := Lib.hid ho2
  have HK := Lib.hid hk2
  clear ho2 hk2 x0
  go_wp2
  go_ret
  exact ⟨A2, c2, rfl, HO.out, HK.out⟩
set_option maxRecDepth 100000 in
set_option maxHeartbeats 1600000 in
theorem Vector_any (p : Nat) (L : Lg) (w : World) (h : LogAt w p L) : Calls Try.prog 24 #[.pointer (some ⟨p, 0, none⟩)] w (FreshDots w L.all) := by
  have x1 : w.cell? ⟨p, 1, none⟩ = some (.slice L.aA L.all.length L.ac) := by simpa [Lg.cells] using h.box.cell 1
  have HL := Lib.hid h
  clear h
  go_enter Try.func24, Try.ntmps24
  go_wp2_with (fail)
  refine (CloneD_any L.aA L.all L.ac _ (DotsAt.of_own HL.out.a) HL.out.al).mono ?_
  rintro e w2 ⟨A2, c2, rfl, ho2, hk2⟩
  have HO := Lib.hid ho2
  have HK := Lib.hid hk2
  clear ho2 hk2 x1
  go_wp2
  go_ret
  exact ⟨A2, c2, rfl, HO.out, HK.out⟩
set_option maxRecDepth 100000 in
set_option maxHeartbeats 1600000 in
theorem Len_any (p : Nat) (L : Lg) (w : World) (h : LogAt w p L) : Calls Try.prog 25 #[.pointer (some ⟨p, 0, none⟩)] w (IntPost w L.ops.length) := by
  have x2 : w.cell? ⟨p, 2, none⟩ = some (.slice L.oA L.ops.length L.oc) := by simpa [Lg.cells] using h.box.cell 2
  clear h
  go_enter Try.func25, Try.ntmps25
  go_wp2
  go_ret
  exact ⟨rfl, Kept.refl _ _⟩
end Go.Proofs.Ytnfehkncfjgeeaa

namespace Go.Proofs.Ytnfehkncfjgeeaa
open Go.RowKit

set_option maxRecDepth 100000 in
set_option maxHeartbeats 1600000 in
theorem vectors_any (A B : Option Addr) (l m : List Dt) (c d : Nat) (w : World) (hl : DotsAt w A l) (hm : DotsAt w B m) (hlen : l.length ≤ 4611686018427387904) :
    Calls Try.prog 14 #[.slice A l.length c, .slice B m.length d] w (SamePost w (decide (l = m))) := by
  by_cases hn : l.length = m.length
  · have HL := Lib.hid hl
    have HM := Lib.hid hm
    clear hl hm
    obtain ⟨b, hb⟩ : ∃ b, decide (l = m) = b := ⟨_, rfl⟩
    rw [hb, ← hn]
    have HN := Lib.hid hn
    have HBB := Lib.hid hb
    clear hn hb
    go_enter Try.func14, Try.ntmps14
    go_wp2_with (fail)
    go_loopw [5] (fun i wr => ∃ k : Nat, i = .int .i64 k ∧ k ≤ l.length ∧ l.take k = m.take k ∧ Kept (fun _ => False) w wr) (fun i _ => l.length - (intOf i).toNat)
    case atStart => exact ⟨0, rfl, Nat.zero_le _, rfl, Kept.refl _ _⟩
    case round =>
      obtain ⟨k, rfl, hk, hat, hkk⟩ := hrel
      have HK := Lib.hid hkk
      have HAT := Lib.hid hat
      by_cases hlt : k < l.length
      · obtain ⟨ad, rfl, x0, x1⟩ := HL.out.fresh hkk k hlt
        obtain ⟨ad', rfl, y0, y1⟩ := HM.out.fresh hkk k (by rw [← HN.out]; exact hlt)
        generalize hd : l[k] = d1 at x0 x1
        generalize hd' : m[k]'(by rw [← HN.out]; exact hlt) = d2 at y0 y1
        have HD := Lib.hid hd
        have HD' := Lib.hid hd'
        clear hd hd' hkk hat
        obtain ⟨a1, b1⟩ := d1
        obtain ⟨a2, b2⟩ := d2
        simp only at x0 x1 y0 y1
        have hx := fun W => neq_dot a1 b1 a2 b2 W
        by_cases he : a1 = a2 ∧ b1 = b2
        · rw [decide_eq_true he] at hx
          have HE := Lib.hid he
          clear he
          go_wp2_with (fail)
          go_quiet (fail)
          go_wp2
          go_roundw
          case rel =>
            refine ⟨k + 1, by go_num, by omega, ?_, HK.out.trans (Kept.drewN_eq nq) fun _ _ e => e⟩
            have hm' : k < m.length := by rw [← HN.out]; exact hlt
            rw [List.take_succ_eq_append_getElem hlt, List.take_succ_eq_append_getElem hm', HAT.out, HD.out, HD'.out, HE.out.1, HE.out.2]
          case measure => simp [intOf]; omega
        · rw [decide_eq_false he] at hx
          have HE := Lib.hid he
          clear he
          go_wp2_with (fail)
          go_quiet (fail)
          go_wp2
          go_ret
          refine ⟨?_, HK.out.trans (Kept.drewN_eq nq) fun _ _ e => e⟩
          rw [← HBB.out]
          refine (ret_bool (decide_eq_false fun e => HE.out ?_)).symm
          subst e
          have := HD.out.symm.trans HD'.out
          injection this with e1 e2
          exact ⟨e1, e2⟩
      · obtain rfl : k = l.length := by omega
        have hkk' := HK.out
        clear hat hkk
        go_wp2
        go_ret
        refine ⟨?_, hkk'⟩
        rw [← HBB.out]
        refine (ret_bool (decide_eq_true ?_)).symm
        have := HAT.out
        rwa [List.take_length, HN.out, List.take_length] at this
  · have hn' : (l.length : Int) ≠ m.length := by omega
    have hb : decide (l = m) = false := decide_eq_false fun e => hn (by rw [e])
    rw [hb]
    generalize l.length = p at *
    generalize m.length = q at *
    clear hb hl hm
    go_enter Try.func14, Try.ntmps14
    go_wp2
    go_ret
    exact ⟨rfl, Kept.refl _ _⟩
end Go.Proofs.Ytnfehkncfjgeeaa

namespace Go.Proofs.Ytnfehkncfjgeeaa
open Go Go.RowKit

structure Stp where
  kind : Int
  x : Lop
  vA : Option Addr
  vc : Nat
  v : List Dt
/-- The cells of the steps. -/
def StepsAt (w : World) (A : Option Addr) (l : List Stp) : Prop := ∀ k (h : k < l.length), ∃ ad : Addr, A = some ad ∧ w.cell? (ad.add (k * 13)) = some (.int .i64 l[k].kind) ∧
  w.rangeAt (ad.add (k * 13)).block ((ad.add (k * 13)).off + 1) l[k].x.c.toList ∧ w.cell? ⟨(ad.add (k * 13)).block, (ad.add (k * 13)).off + 12, none⟩ = some (.slice l[k].vA l[k].v.length l[k].vc)
theorem StepsAt.fresh {w w' : World} {A : Option Addr} {l : List Stp} (h : StepsAt w A l) (hk : Kept (fun _ => False) w w') : StepsAt w' A l := fun k hlt => by
  obtain ⟨ad, e, x0, x1, x2⟩ := h k hlt
  have go : ∀ a v, w.cell? a = some v → w'.cell? a = some v := fun a v hv => by
    rw [World.cell?_of_block (w := w) (hk.block _ (World.block_lt_of_cell? w _ hv) id)]
    exact hv
  exact ⟨ad, e, go _ _ x0, fun j v hj => go _ _ (x1 j v hj), go _ _ x2⟩
def Stp.size (s : Stp) : Nat := s.x.o.text.size + s.x.o.deps.length + s.x.o.gone.length + s.v.length
def Stp.big (s : Stp) : Bool := decide (60000 < s.x.o.text.size) || decide (60000 < s.x.o.deps.length) || decide (60000 < s.x.o.gone.length) || decide (60000 < s.v.length)
def sizes (l : List Stp) : Nat := (l.map Stp.size).sum
def muchB (l : List Stp) (nb : Nat) : Bool := decide (200 < l.length) || decide (60000 < nb) || l.any Stp.big || decide (60000 < sizes l)
theorem sizes_take (l : List Stp) (k : Nat) (hk : k < l.length) : sizes (l.take (k + 1)) = sizes (l.take k) + l[k].size := by
  unfold sizes
  rw [List.take_succ_eq_append_getElem hk, List.map_append, List.sum_append]
  simp
theorem sizes_le (l : List Stp) (h : l.any Stp.big = false) : sizes l ≤ l.length * 240000 := by
  induction l with
  | nil => simp [sizes]
  | cons s l ih =>
    rw [List.any_cons, Bool.or_eq_false_iff] at h
    have := ih h.2
    have h1 := h.1
    simp only [Stp.big, Bool.or_eq_false_iff, decide_eq_false_iff_not] at h1
    simp only [sizes, List.map_cons, List.sum_cons, List.length_cons] at this ⊢
    unfold Stp.size at *
    omega
theorem load_step {w : World} {ops : Array Oper} {rest : List Oper} {o : Oper} {a : Act} {Q : Exit → Act → World → Prop} (hgd : o.guard = none) (x : Operand) (ho : o.op = .load 45 x) (b k : Nat) (hx : a.eval x = .pointer (some ⟨b, k, none⟩)) (cs : Array Value)
    (hs : cs.size = 11) (hr : w.rangeAt b k cs.toList) (h : wpList Try.prog ops Q rest (a.put o.dst (.agg cs)) w) : wpList Try.prog ops Q (o :: rest) a w := by
  obtain ⟨d, hu, hd⟩ := und_op
  refine wpList_load_mid hgd _ x ho b k hx cs.toList d hr hu hd (by rw [Array.length_toList, hs]; exact size_op) ?_
  rw [Array.toArray_toList]
  exact h

set_option maxRecDepth 100000 in
set_option maxHeartbeats 3200000 in
theorem much_any (A : Option Addr) (l : List Stp) (c : Nat) (B : Option Addr) (nb bc : Nat) (w : World) (h : StepsAt w A l) (hl : l.length ≤ 4611686018427387904) (hnb : nb ≤ 4611686018427387904) :
    Calls Try.prog 10 #[.slice A l.length c, .slice B nb bc] w (BoolPost w (muchB l nb)) := by
  by_cases h1 : 200 < l.length
  · have e : muchB l nb = true := by simp [muchB, h1]
    rw [e]
    clear h
    go_enter Try.func10, Try.ntmps10
    go_wp2
    go_ret
    exact ⟨rfl, Kept.refl _ _⟩
  by_cases h2 : 60000 < nb
  · have e : muchB l nb = true := by simp [muchB, h2]
    rw [e]
    clear h
    have h1' : l.length ≤ 200 := by omega
    go_enter Try.func10, Try.ntmps10
    go_wp2
    go_ret
    exact ⟨rfl, Kept.refl _ _⟩
  have h1' : l.length ≤ 200 := by omega
  have h2' : nb ≤ 60000 := by omega
  have HL := Lib.hid h
  obtain ⟨b, hb⟩ : ∃ b, muchB l nb = b := ⟨_, rfl⟩
  have HB := Lib.hid (show (l.any Stp.big || decide (60000 < sizes l)) = b by rw [← hb]; simp [muchB, h1, h2])
  rw [hb]
  clear h hb h1 h2
  go_enter Try.func10, Try.ntmps10
  go_wp2_with (fail)
  go_loopw [5, 6] (fun n i wr => ∃ k : Nat, n = .int .i64 (sizes (l.take k) : Nat) ∧ i = .int .i64 k ∧ k ≤ l.length ∧ (l.take k).any Stp.big = false ∧ Kept (fun _ => False) w wr) (fun _ i _ => l.length - (intOf i).toNat)
  case atStart => exact ⟨0, rfl, rfl, Nat.zero_le _, by simp, Kept.refl _ _⟩
  case round =>
    obtain ⟨k, rfl, rfl, hk, hnb', hkk⟩ := hrel
    have HK := Lib.hid hkk
    have HNB := Lib.hid hnb'
    have hsz := sizes_le _ hnb'
    have hlen : (l.take k).length ≤ 200 := by rw [List.length_take]; omega
    by_cases hlt : k < l.length
    · obtain ⟨ad, rfl, x0, x1, x2⟩ := HL.out.fresh hkk k hlt
      have HST := Lib.hid (sizes_take l k hlt)
      obtain ⟨s, hs⟩ : ∃ s, l[k] = s := ⟨_, rfl⟩
      rw [hs] at x0 x1 x2 HST
      have HS := Lib.hid hs
      clear hkk hnb' hs x0
      have HSS := Lib.hid (show s.size = s.x.o.text.size + s.x.o.deps.length + s.x.o.gone.length + s.v.length from rfl)
      have HBG := Lib.hid (show s.big = (decide (60000 < s.x.o.text.size) || decide (60000 < s.x.o.deps.length) || decide (60000 < s.x.o.gone.length) || decide (60000 < s.v.length)) from rfl)
      have HANY := Lib.hid (show s.big = true → b = true from fun h => by
        rw [← HB.out]
        have : l.any Stp.big = true := List.any_eq_true.2 ⟨l[k], List.getElem_mem hlt, by rw [HS.out]; exact h⟩
        rw [this, Bool.true_or])
      obtain ⟨kind, ⟨o, dA, dc, gA, gc⟩, vA, vc, v⟩ := s
      obtain ⟨cs, hcs⟩ : ∃ cs, Lop.c ⟨o, dA, dc, gA, gc⟩ = cs := ⟨_, rfl⟩
      have HSZ := Lib.hid (show cs.size = 11 by rw [← hcs]; rfl)
      have HO := Lib.hid (show cs.all (·.oneCell') = true by rw [← hcs]; exact Opr.cells_one ..)
      have HC8 := Lib.hid (show cs[8]? = some (.string o.text) by rw [← hcs]; rfl)
      have HC2 := Lib.hid (show cs[2]? = some (.slice dA o.deps.length dc) by rw [← hcs]; rfl)
      have HC9 := Lib.hid (show cs[9]? = some (.slice gA o.gone.length gc) by rw [← hcs]; rfl)
      simp only at x1 x2 HSS HBG
      rw [hcs] at x1
      have HX1 := Lib.hid x1
      have HX2 := Lib.hid x2
      have HN := Lib.hid (Box.new wr 45 opZ)
      have HK0 := Lib.hid ((Kept.refl (fun _ => False) wr).alloc (.cells opZ 45))
      clear hcs x1 x2
      generalize o.text = text at HSS HBG HC8
      generalize o.deps = deps at HSS HBG HC2
      generalize o.gone = gone at HSS HBG HC9
      go_wp2_with (first | refine load_step rfl _ rfl _ _ rfl cs HSZ.out HX1.out ?_ | (refine wpList_store_box rfl 45 _ _ rfl wr.heap.size cs rfl rfl 45 opZ HN.out (size_op.trans (by rw [HSZ.out])) HSZ.out.symm HO.out ?_; intro w2 HB2 hk2; refine Hid.out ?_))
      refine Lib.hid ?_
      have hk02 : Kept (fun _ => False) wr w2 := HK0.out.trans hk2 fun k hk e => by omega
      have HK2 := Lib.hid (HK.out.trans hk02 fun _ _ e => e)
      have y2 : w2.cell? ⟨(ad.add (k * 13)).block, (ad.add (k * 13)).off + 12, none⟩ = some (.slice vA v.length vc) := by
        rw [World.cell?_of_block (w := wr) (hk02.block _ (World.block_lt_of_cell? wr _ HX2.out) id)]
        exact HX2.out
      have d8 := (HB2.out.cell 8).trans HC8.out
      have d2 := (HB2.out.cell 2).trans HC2.out
      have d9 := (HB2.out.cell 9).trans HC9.out
      clear hk2 hk02 HX1 HX2 HN HK0 HC8 HC2 HC9 HO HSZ HB2
      by_cases g0 : 60000 < text.size
      · have hb' := HANY.out (by rw [HBG.out]; simp [g0])
        have HBT := Lib.hid hb'
        clear hb' HANY HBG HSS HST
        go_wp2
        go_ret
        exact ⟨by rw [HBT.out]; rfl, HK2.out⟩
      have g0' : text.size ≤ 60000 := by omega
      by_cases g1 : 60000 < deps.length
      · have hb' := HANY.out (by rw [HBG.out]; simp [g1])
        have HBT := Lib.hid hb'
        clear hb' HANY HBG HSS HST
        go_wp2
        go_ret
        exact ⟨by rw [HBT.out]; rfl, HK2.out⟩
      have g1' : deps.length ≤ 60000 := by omega
      by_cases g2 : 60000 < gone.length
      · have hb' := HANY.out (by rw [HBG.out]; simp [g2])
        have HBT := Lib.hid hb'
        clear hb' HANY HBG HSS HST
        go_wp2
        go_ret
        exact ⟨by rw [HBT.out]; rfl, HK2.out⟩
      have g2' : gone.length ≤ 60000 := by omega
      by_cases g3 : 60000 < v.length
      · have hb' := HANY.out (by rw [HBG.out]; simp [g3])
        have HBT := Lib.hid hb'
        clear hb' HANY HBG HSS HST
        go_wp2
        go_ret
        exact ⟨by rw [HBT.out]; rfl, HK2.out⟩
      have g3' : v.length ≤ 60000 := by omega
      have HN1 := Lib.hid (show (l.take (k + 1)).any Stp.big = false by
        rw [List.take_succ_eq_append_getElem hlt, List.any_append, HNB.out, HS.out]
        simp [HBG.out, g0, g1, g2, g3])
      have HNS := Lib.hid (show sizes (l.take (k + 1)) = sizes (l.take k) + text.size + deps.length + gone.length + v.length by rw [HST.out, HSS.out]; omega)
      clear HANY HBG HSS HST HB HNB HS g0 g1 g2 g3
      generalize sizes (l.take k) = m at HNS hsz ⊢
      have hw1 : IntKind.i64.wrap ((m : Int) + (text.size : Int)) = (m : Int) + (text.size : Int) := IntWalk.i64_in _ ⟨by omega, by omega⟩
      have hw2 : IntKind.i64.wrap ((m : Int) + (text.size : Int) + (deps.length : Int)) = (m : Int) + (text.size : Int) + (deps.length : Int) := IntWalk.i64_in _ ⟨by omega, by omega⟩
      have hw3 : IntKind.i64.wrap ((m : Int) + (text.size : Int) + (deps.length : Int) + (gone.length : Int)) = (m : Int) + (text.size : Int) + (deps.length : Int) + (gone.length : Int) := IntWalk.i64_in _ ⟨by omega, by omega⟩
      have hw4 : IntKind.i64.wrap ((m : Int) + (text.size : Int) + (deps.length : Int) + (gone.length : Int) + (v.length : Int)) = (m : Int) + (text.size : Int) + (deps.length : Int) + (gone.length : Int) + (v.length : Int) := IntWalk.i64_in _ ⟨by omega, by omega⟩
      go_wp2_with (fail)
      go_quiet (fail)
      go_wp2_with (fail)
      go_roundw
      case rel => exact ⟨k + 1, by rw [HNS.out]; go_num, by go_num, by omega, HN1.out, HK2.out.drewN nq⟩
      case measure => simp [intOf]; omega
    · obtain rfl : k = l.length := by omega
      rw [List.take_length] at HNB hsz ⊢
      have HE := Lib.hid (show decide (60000 < sizes l) = b by rw [← HB.out, HNB.out, Bool.false_or])
      clear hkk hnb'
      go_wp2
      go_ret
      exact ⟨by rw [← HE.out]; first | rfl | exact ret_bool (decide_eq_decide.2 (by omega)), HK.out⟩
end Go.Proofs.Ytnfehkncfjgeeaa

namespace Go.Proofs.Ytnfehkncfjgeeaa
open Go Go.RowKit

/-- What rest has collected. -/
structure ReAt (w : World) (B : Nat) (xs : List Lop) (I : Option Addr) (ic : Nat) (g5 g3 most : Nat) (ys : List Lop) (A : Option Addr) (c : Nat) (W : World) : Prop where
  k : Kept (fun _ => False) w W
  it : ItAt w B xs I ic
  b5 : Box W g5 33 #[.slice A ys.length c]
  b3 : Box W g3 3 #[.int .i64 most]
  row : W.ownsRow w.heap.size 45 11 (.slice A ys.length c) ys.length (lops ys)
  lanes : OpLanes W w.heap.size ys
  ge5 : w.heap.size ≤ g5
  ge3 : w.heap.size ≤ g3
section
variable {w : World} {B : Nat} {xs : List Lop} {I : Option Addr} {ic : Nat} {g5 g3 most : Nat} {ys : List Lop} {A : Option Addr} {c : Nat} {W W' : World}
theorem ReAt.fresh (h : ReAt w B xs I ic g5 g3 most ys A c W) (hk : Kept (fun _ => False) W W') : ReAt w B xs I ic g5 g3 most ys A c W' :=
  ⟨h.k.trans hk fun _ _ e => e, h.it, h.b5.kept hk id, h.b3.kept hk id, hk.own h.row fun _ _ => id, h.lanes.fresh hk, h.ge5, h.ge3⟩
/-- One more; W0: the world ahead of its being made. -/
theorem ReAt.push {W0 w1 w2 : World} {y : Lop} (h0 : ReAt w B xs I ic g5 g3 most ys A c W0) (hk0 : Kept (fun _ => False) W0 W) (hy : y.Own W W0.heap.size) (hk1 : Kept (fun _ => False) W w1) (hK : Kept (fun k => (Value.slice A ys.length c).ownBlock = some k) w1 w2) {A' : Option Addr} {c' : Nat}
    (hr : w2.ownsRow w.heap.size 45 11 (.slice A' (ys.length + 1) c') (ys.length + 1) (lops ys ++ y.c.toList)) :
    Box w2 g5 33 #[.slice A ys.length c] ∧ ReAt w B xs I ic g5 g3 most (ys ++ [y]) A' c' (w2.setCell ⟨g5, 0, none⟩ (.slice A' (ys.length + 1) c')) := by
  have h1 := (h0.fresh hk0).fresh hk1
  have e : (ys ++ [y]).length = ys.length + 1 := by simp
  have hb5 : Box w2 g5 33 #[.slice A ys.length c] := h1.b5.kept hK (own_box_ne h1.row h1.b5 (by decide))
  have hb3 : Box w2 g3 3 #[.int .i64 most] := h1.b3.kept hK (own_box_ne h1.row h1.b3 (by decide))
  have hl : OpLanes w1 w.heap.size (ys ++ [y]) := (h0.lanes.more hk0 hy h0.k.size).fresh hk1
  have hs : ∀ {T : TypeId}, T ≠ 45 → NoKind w1 (fun k => (Value.slice A ys.length c).ownBlock = some k) T := fun hne => .own h1.row hne
  have hk3 : Kept (fun k => k = g5) w2 (w2.setCell ⟨g5, 0, none⟩ (.slice A' (ys.length + 1) c')) := (Kept.refl _ _).at 0 _ (.inl rfl)
  have hs3 : ∀ {T : TypeId}, T ≠ 33 → NoKind w2 (fun k => k = g5) T := fun hne k hk cs' c hc => by
    subst hk
    have := hb5
    unfold Box at this
    rw [hc] at this
    injection this with e1
    injection e1 with _ e2
    exact hne e2
  refine ⟨hb5, (h1.k.trans hK fun k hk e => ?_).trans hk3 fun k hk e => ?_, h0.it, ?_, hb3.kept hk3 (fun e => Box.ne hb3 hb5 (by decide) e), ?_, (hl.kept hK (hs (by decide)) (hs (by decide))).kept hk3 (hs3 (by decide)) (hs3 (by decide)), h0.ge5, h0.ge3⟩
  · have := (h1.row.lt k e).1; omega
  · have := h0.ge5; omega
  · rw [e]; exact hb5.set 0 _
  · rw [e, lops_app]
    exact hk3.own_kind (hs3 (by decide)) hr
end
set_option maxRecDepth 100000 in
set_option maxHeartbeats 1600000 in
theorem rest1_any {w : World} {B : Nat} {xs : List Lop} {I : Option Addr} {ic : Nat} {g5 g3 most : Nat} {ys : List Lop} {A : Option Addr} {c : Nat} {W0 W : World} {y : Lop} (h0 : ReAt w B xs I ic g5 g3 most ys A c W0) (hk0 : Kept (fun _ => False) W0 W) (hy : y.Own W W0.heap.size) (hl : ys.length ≤ 1000000) :
    Calls Try.prog 52 #[.agg y.c, .pointer (some ⟨g5, 0, none⟩), .pointer (some ⟨g3, 0, none⟩)] W fun e W' => e = .returned (.bool (decide (ys.length + 1 < most))) ∧ ∃ A' c', ReAt w B xs I ic g5 g3 most (ys ++ [y]) A' c' W' := by
  have HK1 := Lib.hid ((Kept.refl (fun _ => False) W).alloc (.cells y.c 45))
  have HZ := Lib.hid ((h0.fresh hk0).fresh HK1.out)
  have HP := Lib.hid (fun (w2 : World) A' c' h1 h2 => h0.push hk0 hy HK1.out (w2 := w2) (A' := A') (c' := c') h1 h2)
  have HBX := Lib.hid (Box.new W 45 y.c)
  have x5 : (W.alloc (.cells y.c 45)).cell? ⟨g5, 0, none⟩ = some (.slice A ys.length c) := by simpa using HZ.out.b5.cell 0
  obtain ⟨cs, hcs⟩ : ∃ cs, y.c = cs := ⟨_, rfl⟩
  have HCS := Lib.hid hcs
  have HSZ := Lib.hid (show cs.size = 11 by rw [← hcs]; rfl)
  have HO2 := Lib.hid (show cs.toList.all (·.oneCell') = true by rw [← hcs]; exact Lop.c_one _)
  rw [hcs] at HZ HP HBX x5 ⊢
  clear hcs h0 hk0 hy HK1
  have hge : w.heap.size ≤ (W.alloc (.cells cs 45)).heap.size := HZ.out.k.size
  go_enter Try.func52, Try.ntmps52
  go_wp2_with (first | refine wpList_load_op rfl _ rfl W.heap.size rfl _ cs HSZ.out HBX.out ?_ | refine wpList_one_op rfl _ rfl y cs HCS.out rfl ?_ | (at_builtin; refine Hid.out ?_))
  refine Lib.hid ?_
  refine wpList_append_new eltOps rfl _ _ rfl w.heap.size _ ys.length (lops ys) rfl HZ.out.row 1 1 (by rw [World.size_alloc]; rfl) HSZ.out HO2.out (by omega) hge ?_
  intro A' c' w8 HO8 HK8 HG8
  obtain ⟨hb5, hz8⟩ := HP.out w8 A' c' HK8.out HO8.out
  have x8 : w8.cell? ⟨g5, 0, none⟩ = some (.slice A ys.length c) := by simpa using hb5.cell 0
  have f8 := hb5.frozen 0
  have z5 : (w8.setCell ⟨g5, 0, none⟩ (.slice A' (ys.length + 1) c')).cell? ⟨g5, 0, none⟩ = some (.slice A' (ys.length + 1) c') := by simpa using hz8.b5.cell 0
  have z3 : (w8.setCell ⟨g5, 0, none⟩ (.slice A' (ys.length + 1) c')).cell? ⟨g3, 0, none⟩ = some (.int .i64 most) := by simpa using hz8.b3.cell 0
  have HZ8 := Lib.hid hz8
  clear hb5 hz8 HP HBX x5 HO8 HK8 HG8 HZ HCS HSZ HO2
  go_wp2
  go_ret
  refine ⟨?_, A', c', HZ8.out⟩
  exact ret_bool (a := decide ((ys.length : Int) + 1 < (most : Int))) (decide_eq_decide.2 (by omega))

/-- All that was gone through, up to so many, in memory of its own. -/
def RestPost (w : World) (os : List Opr) (e : Ending) (w' : World) : Prop := ∃ (ys : List Lop) (A : Option Addr) (c : Nat), e = .returned (.slice A ys.length c) ∧ ys.map (·.o) = os ∧
  w'.ownsRow w.heap.size 45 11 (.slice A ys.length c) ys.length (lops ys) ∧ OpLanes w' w.heap.size ys ∧ Kept (fun _ => False) w w'
set_option maxRecDepth 100000 in
set_option maxHeartbeats 1600000 in
theorem rest_any (B : Nat) (xs : List Lop) (I : Option Addr) (ic most : Nat) (w : World) (h : ItAt w B xs I ic) (hm : 1 ≤ most) (_hm2 : most ≤ 1000000) :
    Calls Try.prog 20 #[.func (.func 51) #[] #[.pointer (some ⟨B, 0, none⟩)], .int .i64 most] w (RestPost w ((xs.map (·.o)).take most)) := by
  have hW0 : Kept (fun _ => False) w ((w.alloc (.cells #[.int .i64 most] 3)).alloc (.cells #[.slice none 0 0] 33)) := ((Kept.refl _ w).alloc _).alloc _
  have HR0 := Lib.hid (show ReAt w B xs I ic (w.heap.size + 1) w.heap.size most [] none 0 ((w.alloc (.cells #[.int .i64 most] 3)).alloc (.cells #[.slice none 0 0] 33)) from
    ⟨hW0, h, by have := Box.new (w.alloc (.cells #[.int .i64 most] 3)) 33 #[.slice none 0 0]; rwa [World.size_alloc] at this, (Box.new w 3 #[.int .i64 most]).alloc _, World.ownsRow_nil _ _ _ _, OpLanes.nil, by omega, Nat.le_refl _⟩)
  have hIT := Lib.hid h
  clear hW0 h
  have hN : ∀ W : World, (binOp .eql 55 (.func (.func 51) #[] #[.pointer (some ⟨B, 0, none⟩)]) .nilFunc).run Try.prog W = .ok (.bool false) W := fun _ => rfl
  go_enter Try.func20, Try.ntmps20
  go_wp2_with (fail)
  generalize (w.alloc (.cells #[.int .i64 most] 3)).alloc (.cells #[.slice none 0 0] 33) = w1 at HR0 ⊢
  have hlen := hIT.out.len
  have HM := Lib.hid hm
  refine (Beyond1_any 52 #[.pointer (some ⟨w.heap.size + 1, 0, none⟩), .pointer (some ⟨w.heap.size, 0, none⟩)] (enters_of Try.func52 (by kernel_rfl) rfl) B xs I ic
    (fun k W => ∃ (ys : List Lop) (A : Option Addr) (c : Nat), ys.map (·.o) = (xs.map (·.o)).take k ∧ ys.length = k ∧ k < most ∧ ReAt w B xs I ic (w.heap.size + 1) w.heap.size most ys A c W)
    (fun k W => ∃ (ys : List Lop) (A : Option Addr) (c : Nat), ys.map (·.o) = (xs.map (·.o)).take k ∧ ys.length = k ∧ k = most ∧ ReAt w B xs I ic (w.heap.size + 1) w.heap.size most ys A c W)
    (fun k W ⟨ys, A, c, _, _, _, h⟩ => h.it.fresh h.k) (fun k W W' ⟨ys, A, c, h1, h2, h3, h⟩ hk => ⟨ys, A, c, h1, h2, h3, h.fresh hk⟩) ?_ w1 ⟨[], none, 0, rfl, rfl, HM.out, HR0.out⟩).mono ?_
  · rintro k hk y W0 W ⟨ys, A, c, h1, h2, h3, h⟩ hk0 - hyo hyw
    refine (rest1_any h hk0 hyw (by omega)).mono ?_
    rintro e W' ⟨rfl, A', c', h'⟩
    have hm' : (ys ++ [y]).map (·.o) = (xs.map (·.o)).take (k + 1) := by
      rw [List.map_append, h1, List.take_succ_eq_append_getElem (by simpa using hk)]
      simp [hyo]
    by_cases hlt : k + 1 < most
    · exact .inl ⟨by rw [h2, decide_eq_true hlt], ys ++ [y], A', c', hm', by simp [h2], hlt, h'⟩
    · exact .inr ⟨by rw [h2, decide_eq_false hlt], ys ++ [y], A', c', hm', by simp [h2], by omega, h'⟩
  rintro e W ⟨⟨v, rfl⟩, hend⟩
  obtain ⟨ys, A, c, hm', h⟩ : ∃ (ys : List Lop) (A : Option Addr) (c : Nat), ys.map (·.o) = (xs.map (·.o)).take most ∧ ReAt w B xs I ic (w.heap.size + 1) w.heap.size most ys A c W := by
    rcases hend with ⟨ys, A, c, h1, h2, h3, h⟩ | ⟨k, _, _, ys, A, c, h1, h2, rfl, h⟩
    · refine ⟨ys, A, c, ?_, h⟩
      rw [h1, List.take_of_length_le (by simp), List.take_of_length_le (by simp; omega)]
    · exact ⟨ys, A, c, h1, h⟩
  have x5 : W.cell? ⟨w.heap.size + 1, 0, none⟩ = some (.slice A ys.length c) := by simpa using h.b5.cell 0
  have HH := Lib.hid h
  have HME := Lib.hid hm'
  clear h hm' hend HR0 hm
  go_wp2
  go_ret
  exact ⟨ys, A, c, rfl, HME.out, HH.out.row, HH.out.lanes, HH.out.k⟩
end Go.Proofs.Ytnfehkncfjgeeaa
