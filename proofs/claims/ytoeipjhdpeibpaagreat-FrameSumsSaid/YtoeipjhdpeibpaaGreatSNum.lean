/- The walk of Writer.Number. Conditions: the Writer lies in memory as WriterAt says. -/
import Derived.Test.YtoeipjhdpeibpaaGreatSAt
namespace Go.Proofs.YtoeipjhdpeibpaaGreat
open Go.RowKit

theorem WriterAt.err {w : World} {base g : Nat} {sv : Value} {l : List Int} {e : Int} (h : WriterAt w base g sv l e) (e' : Int) : WriterAt (w.setCell ⟨g, 1, none⟩ (.int .i64 e')) base g sv l e' := by
  have hk : Kept (fun k => k = g) w (w.setCell ⟨g, 1, none⟩ (.int .i64 e')) := (Kept.refl _ _).at 1 _ (.inl rfl)
  refine ⟨?_, hk.own h.row fun k e hk => ?_, h.base_le⟩
  · have := h.box.set 1 (.int .i64 e')
    simpa using this
  · subst hk
    exact own_box_ne h.row h.box (by decide) e
theorem bits_more (m : Nat) : bits .or .u8 ((m : Int) % 256) 128 = (m : Int) % 128 + 128 := by
  have : ∀ x : Fin 256, bits .or .u8 ((x.val : Nat) : Int) 128 = ((x.val % 128 + 128 : Nat) : Int) := by decide +kernel
  have h := this ⟨m % 256, by omega⟩
  have e1 : ((m : Int) % 256) = ((m % 256 : Nat) : Int) := by omega
  rw [e1, h]
  show ((m % 256 % 128 + 128 : Nat) : Int) = _
  omega
theorem num_len {l l' : List Int} {m n : Nat} (h : l' ++ enc m = l ++ enc n) (hn : (n : Int) ≤ 9223372036854775807) : l'.length ≤ l.length + 9 := by
  have h1 := enc_len 8 n (Nat.lt_of_le_of_lt (show n ≤ 9223372036854775807 by omega) (by decide))
  have h2 := congrArg List.length h
  simp only [List.length_append] at h2
  omega
theorem news_byte (W : World) (b : Int) (T : TypeId) (g : Nat) (hg : g = W.heap.size) : ∀ (j : Nat) (v : Value), [Value.int .u8 b][j]? = some v → (W.alloc (.cells #[.int .u8 b] T)).cell? ((⟨g, 0, none⟩ : Addr).add j) = some v := by
  subst hg
  intro j v hv
  rw [add_none, (Box.new W T #[.int .u8 b]).cell j]
  simpa using hv
theorem one_byte (b : Int) : ∀ u ∈ [Value.int .u8 b], u.oneCell' = true := by
  intro u hu; simp at hu; rcases hu with rfl; rfl
theorem own_form {w : World} {base : Nat} {e : TypeId} {size n : Nat} {v : Value} {xs : List Value} (h : w.ownsRow base e size v n xs) : ∃ A c, v = .slice A n c := by
  rcases Go.Joins.ownsRow_forms h with ⟨rfl, h0⟩ | ⟨g, cap, rfl⟩
  · exact ⟨none, 0, by rw [h0]⟩
  · exact ⟨_, _, rfl⟩
theorem WriterAt.push {wr w1 : World} {base g : Nat} {sv v : Value} {l : List Int} {b : Int} {o : Obj} (h : WriterAt wr base g sv l 0)
    (hown : w1.ownsRow base 5 1 v (l.length + 1) (bys l ++ [.int .u8 b])) (hg : (wr.alloc o).grownBy w1 sv.ownBlock) (hat : v.ownBlock = sv.ownBlock ∨ ∃ j, wr.heap.size ≤ j ∧ v.ownBlock = some j) :
    WriterAt (w1.setCell ⟨g, 0, none⟩ v) base g v (l ++ [b]) 0 ∧ Kept (OwnsW g sv) wr (w1.setCell ⟨g, 0, none⟩ v) ∧ MovedW wr sv v := by
  have hne : some g ≠ sv.ownBlock := fun e => own_box_ne h.row h.box (by decide) e.symm
  have hb : Box w1 g 50 #[sv, .int .i64 0] := (hg.block _ (h.box.alloc _).lt hne).trans (h.box.alloc _)
  have hvg : v.ownBlock ≠ some g := own_box_ne hown hb (by decide)
  have hk1 : Kept (OwnsW g sv) wr w1 := ((Kept.refl _ _).alloc o).grown hg fun k _ e => .inr e
  have hk : Kept (OwnsW g sv) wr (w1.setCell ⟨g, 0, none⟩ v) := hk1.at 0 v (.inl (.inl rfl))
  refine ⟨⟨?_, ?_, h.base_le⟩, hk, ?_⟩
  · have := hb.set 0 v
    simpa using this
  · have h2 : Kept (fun k => k = g) w1 (w1.setCell ⟨g, 0, none⟩ v) := (Kept.refl _ _).at 0 v (.inl rfl)
    have := h2.own hown fun k e hk => hvg (hk ▸ e)
    simpa [bys] using this
  · intro k hk
    rcases hat with e | ⟨j, hj, e⟩
    · exact .inl (e ▸ hk)
    · right
      rw [e] at hk
      injection hk with hk
      subst hk
      exact hj
theorem MovedW.trans {w wr : World} {a b c : Value} (h : MovedW w a b) (h' : MovedW wr b c) (hs : w.heap.size ≤ wr.heap.size) : MovedW w a c := fun k hk =>
  (h' k hk).elim (h k) fun e => .inr (Nat.le_trans hs e)
theorem MovedW.owns {w : World} {a b : Value} {g : Nat} (h : MovedW w a b) : ∀ k, k < w.heap.size → OwnsW g b k → OwnsW g a k := fun k hk ho =>
  ho.elim .inl fun e => (h k e).elim .inr fun e' => absurd hk (by omega)
/-- what is laid so far of the number n: m is left -/
def NumAt (w : World) (base g : Nat) (sv : Value) (l : List Int) (n m : Nat) (wr : World) : Prop :=
  ∃ l' sv', WriterAt wr base g sv' l' 0 ∧ l' ++ enc m = l ++ enc n ∧ Kept (OwnsW g sv) w wr ∧ MovedW w sv sv'

set_option maxHeartbeats 1600000 in
set_option maxRecDepth 100000 in
theorem Number_any (base g : Nat) (sv : Value) (l : List Int) (e v : Int) (w : World) (h : WriterAt w base g sv l e) (hl : l.length ≤ 1000000) (hv : v ≤ 9223372036854775807) :
    Calls Tryz.prog 14 #[.pointer (some ⟨g, 0, none⟩), .int .i64 v] w (WPost w base g sv (wrB l e v) (wrE e v)) := by
  obtain ⟨A, c, rfl⟩ := h.form
  have H := Lib.hid h
  have x0 : w.cell? ⟨g, 0, none⟩ = some (.slice A l.length c) := by simpa using h.box.cell 0
  have x1 : w.cell? ⟨g, 1, none⟩ = some (.int .i64 e) := by simpa using h.box.cell 1
  have f0 : w.frozen? ⟨g, 0, none⟩ = false := h.box.frozen 0
  have f1 : w.frozen? ⟨g, 1, none⟩ = false := h.box.frozen 1
  clear h
  by_cases he : e = 0
  · subst he
    by_cases hn : v < 0
    · have HW := Lib.hid (wr_neg (l := l) hn)
      go_enter Tryz.func14, Tryz.ntmps14
      go_wp2
      go_end0
      rw [HW.out.1, HW.out.2]
      exact WPost.same rfl (H.out.err 1) ((Kept.refl _ _).at 1 _ (.inl (.inl rfl)))
    · obtain ⟨n, rfl⟩ : ∃ n : Nat, v = n := ⟨v.toNat, by omega⟩
      clear hn
      have HW := Lib.hid (wr_ok (l := l) (v := n))
      obtain ⟨i0, hi, hz0, hz1, hz2⟩ := info_parts info_byte
      clear x0 x1 f0 f1
      have x1 : w.cell? ⟨g, 1, none⟩ = some (.int .i64 0) := by simpa using H.out.box.cell 1
      go_enter Tryz.func14, Tryz.ntmps14
      go_wp2_with (fail)
      clear x1
      go_loopw [4] (fun u wr => ∃ m : Nat, u = .int .u64 m ∧ m ≤ n ∧ NumAt w base g (.slice A l.length c) l n m wr) (fun u _ => (intOf u).toNat)
      case atStart => exact ⟨n, rfl, Nat.le_refl _, l, _, H.out, rfl, Kept.refl _ _, fun k h => .inl h⟩
      case round =>
        obtain ⟨m, rfl, hm, hat⟩ := hrel
        obtain ⟨l', sv', ht, heq, hkk, hmv⟩ := hat
        obtain ⟨A', c', rfl⟩ := ht.form
        have x0 : wr.cell? ⟨g, 0, none⟩ = some (.slice A' l'.length c') := by simpa using ht.box.cell 0
        have f0 : wr.frozen? ⟨g, 0, none⟩ = false := ht.box.frozen 0
        have HT := Lib.hid ht
        have HE := Lib.hid heq
        have HK := Lib.hid hkk
        have HM := Lib.hid hmv
        clear ht heq hkk hmv
        have hll := num_len HE.out hv
        by_cases hlt : 128 ≤ m
        · have hbt := bits_more m
          go_wp2_with (at_builtin; refine wpList_append_own_at _ rfl (.tmp 27) (.tmp 31) 22 rfl base 5 i0 _ 1 1 Tryz.underlying22 hi hz0 hz1 hz2 rfl (by decide) _ _ (bys l') rfl (HT.out.row.alloc _) ⟨wr.heap.size, 0, none⟩ 1 1 [.int .u8 ((m : Int) % 128 + 128)] rfl rfl ?c1 ?c2 ?c3 ?c4 ?c5 ?_)
          case c1 => exact news_byte _ _ _ _ rfl
          case c2 => exact one_byte _
          case c3 => unfold maxLen; omega
          case c4 => omega
          case c5 => have := HK.out.size; have := (HT.out.own_lt g (.inl rfl)).1; have := HT.out.box.lt; simp; omega
          intro v' w1 hown1 hg1 _ hat
          have HO1 := Lib.hid hown1
          have HG1 := Lib.hid hg1
          have HAT := Lib.hid hat
          obtain ⟨A2, c2, rfl⟩ : ∃ A2 c2, v' = .slice A2 (l'.length + 1) c2 := own_form hown1
          clear hown1 hg1 hat
          have hne : some g ≠ (Value.slice A' l'.length c').ownBlock := fun e => own_box_ne HT.out.row HT.out.box (by decide) e.symm
          have HB1 := Lib.hid (show Box w1 g 50 #[.slice A' l'.length c', .int .i64 0] from (HG1.out.block _ (HT.out.box.alloc _).lt hne).trans (HT.out.box.alloc _))
          have HP := Lib.hid (HT.out.push HO1.out HG1.out (HAT.out.imp_right fun e => ⟨_, Nat.le_succ _, e⟩))
          have f1 : w1.frozen? ⟨g, 0, none⟩ = false := HB1.out.frozen 0
          have x1 : w1.cell? ⟨g, 0, none⟩ = some (.slice A' l'.length c') := by simpa using HB1.out.cell 0
          clear hne hbt x0 f0
          go_wp2
          go_roundw
          case rel =>
            refine ⟨m / 128, by go_num, by omega, l' ++ [(m : Int) % 128 + 128], _, HP.out.1, ?_, HK.out.trans HP.out.2.1 HM.out.owns, HM.out.trans HP.out.2.2 HK.out.size⟩
            have := HE.out
            rw [enc_big (show ¬ m < 128 by omega)] at this
            simpa using this
          case measure => simp [intOf]; omega
        · have hmm : (m : Int) % 256 = m := by omega
          have HS := Lib.hid (enc_small (show m < 128 by omega))
          go_wp2_with (at_builtin; refine wpList_append_own_at _ rfl (.tmp 41) (.tmp 44) 22 rfl base 5 i0 _ 1 1 Tryz.underlying22 hi hz0 hz1 hz2 rfl (by decide) _ _ (bys l') rfl (HT.out.row.alloc _) ⟨wr.heap.size, 0, none⟩ 1 1 [.int .u8 (m : Int)] rfl rfl ?c1 ?c2 ?c3 ?c4 ?c5 ?_)
          case c1 => exact news_byte _ _ _ _ rfl
          case c2 => exact one_byte _
          case c3 => unfold maxLen; omega
          case c4 => omega
          case c5 => have := HK.out.size; have := (HT.out.own_lt g (.inl rfl)).1; have := HT.out.box.lt; simp; omega
          intro v' w1 hown1 hg1 _ hat
          have HO1 := Lib.hid hown1
          have HG1 := Lib.hid hg1
          have HAT := Lib.hid hat
          obtain ⟨A2, c2, rfl⟩ : ∃ A2 c2, v' = .slice A2 (l'.length + 1) c2 := own_form hown1
          clear hown1 hg1 hat
          have hne : some g ≠ (Value.slice A' l'.length c').ownBlock := fun e => own_box_ne HT.out.row HT.out.box (by decide) e.symm
          have HB1 := Lib.hid (show Box w1 g 50 #[.slice A' l'.length c', .int .i64 0] from (HG1.out.block _ (HT.out.box.alloc _).lt hne).trans (HT.out.box.alloc _))
          have HP := Lib.hid (HT.out.push HO1.out HG1.out (HAT.out.imp_right fun e => ⟨_, Nat.le_succ _, e⟩))
          have f1 : w1.frozen? ⟨g, 0, none⟩ = false := HB1.out.frozen 0
          have x1 : w1.cell? ⟨g, 0, none⟩ = some (.slice A' l'.length c') := by simpa using HB1.out.cell 0
          clear hne hmm x0 f0
          go_wp2
          go_end0
          rw [HW.out.1, HW.out.2, ← HE.out, HS.out]
          exact ⟨rfl, _, HP.out.1, HK.out.trans HP.out.2.1 HM.out.owns, HM.out.trans HP.out.2.2 HK.out.size⟩
  · have HW := Lib.hid (wr_err (l := l) (v := v) he)
    have e1 : (e == 0) = false := beq_eq_false_iff_ne.2 he
    clear he
    go_enter Tryz.func14, Tryz.ntmps14
    go_wp2
    go_end0
    rw [HW.out.1, HW.out.2]
    exact WPost.same rfl H.out (Kept.refl _ _)
end Go.Proofs.YtoeipjhdpeibpaaGreat
