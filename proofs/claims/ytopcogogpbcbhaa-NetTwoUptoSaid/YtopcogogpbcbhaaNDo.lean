/- The walk of the law's do: one call on a network. Conditions: the network and the step's bytes lie in memory; less than 100,000 copies were laid. -/
import Derived.Test.YtopcogogpbcbhaaNScr
namespace Go.Proofs.Ytopcogogpbcbhaa
open Go Go.RowKit

/-- What a step answers (the number of a new copy, else 0), and what is there then. -/
def Nt.step (s : Nt) (x : Stn) : Int × Nt :=
  if x.kind = 1 then ((s.send x.src x.dst x.at_ x.data).1.1, (s.send x.src x.dst x.at_ x.data).2)
  else if x.kind = 2 then (0, (s.deliver x.num).2)
  else if x.kind = 3 then (0, (s.deliver x.num).2)
  else if x.kind = 4 then ((s.double x.num).1.1, (s.double x.num).2)
  else if x.kind = 5 then (0, (s.alter x.num x.at_ x.data).2)
  else if x.kind = 6 then (0, (s.cut x.num x.at_).2)
  else (0, s)
def Nt.play (s : Nt) (l : List Stn) : Nt := l.foldl (fun s x => (s.step x).2) s
theorem Nt.send_last (s : Nt) (f t a : Int) (b : List Int) : (s.send f t a b).2.last ≤ s.last + 1 := by
  unfold Nt.send
  split
  · exact Nat.le_refl _
  · exact Nat.le_succ _
theorem Nt.deliver_last (s : Nt) (n : Int) : (s.deliver n).2.last ≤ s.last + 1 := by
  unfold Nt.deliver
  split <;> exact Nat.le_succ _
theorem Nt.double_last (s : Nt) (n : Int) : (s.double n).2.last ≤ s.last + 1 := by
  unfold Nt.double
  split
  · exact Nat.le_succ _
  · exact Nat.le_refl _
theorem Nt.alter_last (s : Nt) (n a : Int) (b : List Int) : (s.alter n a b).2.last ≤ s.last + 1 := by
  unfold Nt.alter
  split
  · exact Nat.le_succ _
  · split
    · split <;> exact Nat.le_succ _
    · exact Nat.le_succ _
theorem Nt.cut_last (s : Nt) (n k : Int) : (s.cut n k).2.last ≤ s.last + 1 := by
  unfold Nt.cut
  split
  · exact Nat.le_succ _
  · split
    · split <;> exact Nat.le_succ _
    · exact Nat.le_succ _
theorem Nt.step_last (s : Nt) (x : Stn) : (s.step x).2.last ≤ s.last + 1 := by
  unfold Nt.step
  split
  · exact s.send_last ..
  split
  · exact s.deliver_last ..
  split
  · exact s.deliver_last ..
  split
  · exact s.double_last ..
  split
  · exact s.alter_last ..
  split
  · exact s.cut_last ..
  · exact Nat.le_succ _
theorem wf_bd {a : Int} (h : (Lit.int .i64 a).wf = true) : -9223372036854775808 ≤ a ∧ a ≤ 9223372036854775807 := by
  simp [Lit.wf] at h
  exact h
def DoPost (w : World) (p : Nat) (F : Nat → Prop) (x : Int × Nt) (r : Ending) (w' : World) : Prop := r = .returned (.int .i64 x.1) ∧ NetPost w p F x.2 w'
theorem NetPost.of_del {w w' : World} {p : Nat} {F : Nat → Prop} {x : (Cp × Int) × Nt} {r : Ending} (h : DelPost w p F x r w') : NetPost w p F x.2 w' := by
  obtain ⟨A, cap, -, -, ⟨es, h1⟩, hk⟩ := h
  exact ⟨F, es, h1, fun _ e => .inl e, hk⟩
theorem NetPost.after {w w0 w' : World} {p : Nat} {F : Nat → Prop} {s : Nt} (hk : Kept (fun _ => False) w w0) (h : NetPost w0 p F s w') : NetPost w p F s w' := by
  obtain ⟨F', es, h1, h2, h3⟩ := h
  exact ⟨F', es, h1, fun k e => (h2 k e).imp_right fun e => Nat.le_trans hk.size e, (hk.more fun _ _ e => e.elim).trans h3 fun _ _ e => e⟩
set_option maxRecDepth 100000 in
set_option maxHeartbeats 3200000 in
theorem Do_any (p : Nat) (F : Nat → Prop) (s : Nt) (es : List Ce) (x : Stn) (w : World) (h : NetAt w p F s es) (hlast : s.last < 100000) (hx : StnOk w x) :
    Calls Try.prog 25 #[.pointer (some ⟨p, 0, none⟩), .agg x.cs] w (DoPost w p F (s.step x)) := by
  have hka : Kept (fun _ => False) w (w.alloc (.cells x.cs 32)) := (Kept.refl _ _).alloc _
  have HK := Lib.hid hka
  have HNET := Lib.hid (h.fresh hka)
  have HX := Lib.hid (hx.fresh hka)
  have HB := Lib.hid (Box.new w 32 x.cs)
  clear h hx hka
  unfold Nt.step
  obtain ⟨kind, num, src, dst, at_, data, dA, dc⟩ := x
  simp only at HX ⊢
  go_enter Try.func25, Try.ntmps25
  go_upto_region 1 with (fail)
  have hzz : w.alloc (.cells #[.int .i64 kind, .int .i64 num, .int .i64 src, .int .i64 dst, .int .i64 at_, .slice dA data.length dc] 32) = w.alloc (.cells (Stn.cs ⟨kind, num, src, dst, at_, data, dA, dc⟩) 32) := rfl
  try rw [hzz]
  clear hzz
  generalize w.alloc (.cells (Stn.cs ⟨kind, num, src, dst, at_, data, dA, dc⟩) 32) = w0 at HK HNET HX HB ⊢
  have x0 : w0.cell? ⟨w.heap.size, 0, none⟩ = some (.int .i64 kind) := (HB.out.cell 0).trans rfl
  have x1 : w0.cell? ⟨w.heap.size, 1, none⟩ = some (.int .i64 num) := (HB.out.cell 1).trans rfl
  have x2 : w0.cell? ⟨w.heap.size, 2, none⟩ = some (.int .i64 src) := (HB.out.cell 2).trans rfl
  have x3 : w0.cell? ⟨w.heap.size, 3, none⟩ = some (.int .i64 dst) := (HB.out.cell 3).trans rfl
  have x4 : w0.cell? ⟨w.heap.size, 4, none⟩ = some (.int .i64 at_) := (HB.out.cell 4).trans rfl
  have x5 : w0.cell? ⟨w.heap.size, 5, none⟩ = some (.slice dA data.length dc) := (HB.out.cell 5).trans rfl
  clear HB
  generalize w.heap.size = g at x0 x1 x2 x3 x4 x5 ⊢
  by_cases h1 : kind = 1
  case' pos =>
    as_aux_lemma =>
    subst h1
    rw [if_pos (by rfl)]
    have hc := Send_any p F s es w0 HNET.out hlast src dst at_ dA data dc HX.out.b HX.out.none HX.out.by_ HX.out.len
    go_wp2_with (fail)
    refine hc.mono ?_
    clear hc x0 x1 x2 x3 x4 x5
    intro r w1 hp
    obtain ⟨rfl, hp⟩ := hp
    have HP := Lib.hid (NetPost.after HK.out hp)
    clear hp
    go_wp2_with (fail)
    go_ret
    exact ⟨rfl, HP.out⟩
  rw [if_neg h1]
  have e1 : (kind == 1) = false := beq_eq_false_iff_ne.mpr h1
  have H1 := Lib.hid h1
  clear h1
  by_cases h2 : kind = 2
  case' pos =>
    as_aux_lemma =>
    subst h2
    rw [if_pos (by rfl)]
    have hc := Deliver_any p F s es w0 HNET.out num HX.out.num
    go_wp2_with (fail)
    refine hc.mono ?_
    clear hc x0 x1 x2 x3 x4 x5
    intro r w1 hp
    have HP := Lib.hid (NetPost.after HK.out (NetPost.of_del hp))
    obtain ⟨A, cap, rfl, -⟩ := hp
    go_wp2_with (fail)
    go_ret
    exact ⟨rfl, HP.out⟩
  rw [if_neg h2]
  have e2 : (kind == 2) = false := beq_eq_false_iff_ne.mpr h2
  have H2 := Lib.hid h2
  clear h2
  by_cases h3 : kind = 3
  case' pos =>
    as_aux_lemma =>
    subst h3
    rw [if_pos (by rfl)]
    have hc := Drop_any p F s es w0 HNET.out num HX.out.num
    go_wp2_with (fail)
    refine hc.mono ?_
    clear hc x0 x1 x2 x3 x4 x5
    intro r w1 hp
    have HP := Lib.hid (NetPost.after HK.out (NetPost.of_del hp))
    obtain ⟨A, cap, rfl, -⟩ := hp
    go_wp2_with (fail)
    go_ret
    exact ⟨rfl, HP.out⟩
  rw [if_neg h3]
  have e3 : (kind == 3) = false := beq_eq_false_iff_ne.mpr h3
  have H3 := Lib.hid h3
  clear h3
  by_cases h4 : kind = 4
  case' pos =>
    as_aux_lemma =>
    subst h4
    rw [if_pos (by rfl)]
    have hc := Double_any p F s es w0 HNET.out hlast num HX.out.num
    go_wp2_with (fail)
    refine hc.mono ?_
    clear hc x0 x1 x2 x3 x4 x5
    intro r w1 hp
    obtain ⟨rfl, hp⟩ := hp
    have HP := Lib.hid (NetPost.after HK.out hp)
    clear hp
    go_wp2_with (fail)
    go_ret
    exact ⟨rfl, HP.out⟩
  rw [if_neg h4]
  have e4 : (kind == 4) = false := beq_eq_false_iff_ne.mpr h4
  have H4 := Lib.hid h4
  clear h4
  by_cases h5 : kind = 5
  case' pos =>
    as_aux_lemma =>
    subst h5
    rw [if_pos (by rfl)]
    have hc := Alter_any p F s es w0 HNET.out num at_ HX.out.num (wf_bd HX.out.at_) dA data dc HX.out.b HX.out.by_ HX.out.len
    go_wp2_with (fail)
    refine hc.mono ?_
    clear hc x0 x1 x2 x3 x4 x5
    intro r w1 hp
    obtain ⟨rfl, hp⟩ := hp
    have HP := Lib.hid (NetPost.after HK.out hp)
    clear hp
    go_wp2_with (fail)
    go_ret
    exact ⟨rfl, HP.out⟩
  rw [if_neg h5]
  have e5 : (kind == 5) = false := beq_eq_false_iff_ne.mpr h5
  have H5 := Lib.hid h5
  clear h5
  by_cases h6 : kind = 6
  case' pos =>
    as_aux_lemma =>
    subst h6
    rw [if_pos (by rfl)]
    have hc := Cut_any p F s es w0 HNET.out num at_ HX.out.num
    go_wp2_with (fail)
    refine hc.mono ?_
    clear hc x0 x1 x2 x3 x4 x5
    intro r w1 hp
    obtain ⟨rfl, hp⟩ := hp
    have HP := Lib.hid (NetPost.after HK.out hp)
    clear hp
    go_wp2_with (fail)
    go_ret
    exact ⟨rfl, HP.out⟩
  rw [if_neg h6]
  have e6 : (kind == 6) = false := beq_eq_false_iff_ne.mpr h6
  have H6 := Lib.hid h6
  clear h6
  go_wp2_with (fail)
  go_ret
  exact ⟨rfl, NetPost.after HK.out (HNET.out.post (Kept.refl _ _))⟩
/-- One call on a network made since w. -/
theorem KnAt.do_ {w W : World} {p : Nat} {s : Nt} {x : Stn} (h : KnAt w p s W) (hlast : s.last < 100000) (hx : StnOk w x) : Calls Try.prog 25 #[.pointer (some ⟨p, 0, none⟩), .agg x.cs] W fun r W' => r = .returned (.int .i64 (s.step x).1) ∧ KnAt w p (s.step x).2 W' := by
  obtain ⟨F, es, h1, h2, h3⟩ := h
  refine (Do_any p F s es x W h1 hlast (hx.fresh h3)).mono ?_
  rintro r W' ⟨rfl, hp⟩
  exact ⟨rfl, KnAt.post h2 h3 hp⟩
end Go.Proofs.Ytopcogogpbcbhaa
