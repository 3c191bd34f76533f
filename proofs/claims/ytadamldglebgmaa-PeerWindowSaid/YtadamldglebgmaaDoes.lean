/- The walk of the law's does: one call on the program's Peer and on the reference's: they answer alike. Conditions: both lie in memory, keep the same, and share no block. -/
import Derived.Test.YtadamldglebgmaaLeaf
import Derived.Test.YtadamldglebgmaaSmall
import Derived.Test.YtadamldglebgmaaFlight
import Derived.Test.YtadamldglebgmaaRSend
import Derived.Test.YtadamldglebgmaaRHeard
import Derived.Deep.RegionHeld3
namespace Go.Proofs.Ytadamldglebgmaa
open Go.RowKit

/-- Both Peers in memory, keeping the same, apart. -/
structure Pair (w : World) (base bp bw : Nat) (fv fw : Value) (s : St) : Prop where
  p : PeerAt w base 39 bp fv s
  r : PeerAt w base 41 bw fw s
  apart : ∀ k, fv.ownBlock = some k → fw.ownBlock ≠ some k
  good : Good s

def Owns2 (bp bw : Nat) (fv fw : Value) (k : Nat) : Prop := OwnsB bp fv k ∨ OwnsB bw fw k

theorem own_ne {w : World} {base b b' : Nat} {T T' : TypeId} {fv fw : Value} {s s' : St} (h : PeerAt w base T b fv s) (h' : PeerAt w base T' b' fw s') (hT : T ≠ T') (hi : T ≠ 3) (hi' : T' ≠ 3) (ha : ∀ k, fv.ownBlock = some k → fw.ownBlock ≠ some k) : ∀ k, OwnsB b fv k → ¬ OwnsB b' fw k := by
  rintro k (rfl | hk) (rfl | hk')
  · exact h.box.ne h'.box hT rfl
  · exact own_box_ne h'.row h.box (fun e => hi e.symm) hk'
  · exact own_box_ne h.row h'.box (fun e => hi' e.symm) hk
  · exact ha k hk hk'

/-- what becomes of a pair: its blocks may have turned, no others -/
def Next (w : World) (base bp bw : Nat) (fv fw : Value) (s' : St) (w' : World) : Prop :=
  ∃ fv' fw', Pair w' base bp bw fv' fw' s' ∧ Kept (Owns2 bp bw fv fw) w w' ∧ Moved w fv fv' ∧ Moved w fw fw'

section
variable {w w1 w2 : World} {base bp bw : Nat} {fv fw fv' fw' : Value} {s s' : St}
theorem Pair.kept {S : Nat → Prop} (h : Pair w base bp bw fv fw s) (hk : Kept S w w1) (hS : ∀ k, Owns2 bp bw fv fw k → ¬ S k) : Pair w1 base bp bw fv fw s :=
  ⟨h.p.kept hk fun k e => hS k (.inl e), h.r.kept hk fun k e => hS k (.inr e), h.apart, h.good⟩
theorem Pair.fresh (h : Pair w base bp bw fv fw s) (hk : Kept (fun _ => False) w w1) : Pair w1 base bp bw fv fw s := h.kept hk fun _ _ => id
theorem Pair.lt (h : Pair w base bp bw fv fw s) : ∀ k, Owns2 bp bw fv fw k → base ≤ k ∧ k < w.heap.size := by
  rintro k (hk | hk)
  · exact h.p.own_lt k hk
  · exact h.r.own_lt k hk
theorem Moved.lt (hm : Moved w fv fv') : ∀ k, fv'.ownBlock = some k → k < w.heap.size → fv.ownBlock = some k := fun k hk hl => (hm k hk).resolve_right (by omega)

theorem Pair.left (h : Pair w base bp bw fv fw s) (hk : Kept (OwnsB bp fv) w w1) (hm : Moved w fv fv') :
    PeerAt w1 base 41 bw fw s ∧ (∀ k, fv'.ownBlock = some k → fw.ownBlock ≠ some k) := by
  have hne := own_ne h.p h.r (by decide) (by decide) (by decide) h.apart
  refine ⟨h.r.kept hk fun k e hs => hne k hs e, fun k e e' => ?_⟩
  rcases hm k e with h1 | h1
  · exact h.apart k h1 e'
  · have := (h.r.own_lt k (.inr e')).2
    omega

theorem Pair.both (h : Pair w base bp bw fv fw s) (hp : PeerAt w1 base 39 bp fv' s') (hk : Kept (OwnsB bp fv) w w1) (hm : Moved w fv fv')
    (hr : PeerAt w2 base 41 bw fw' s') (hk2 : Kept (OwnsB bw fw) w1 w2) (hm2 : Moved w1 fw fw') (hg : Good s') : Next w base bp bw fv fw s' w2 := by
  obtain ⟨hr1, hap⟩ := h.left hk hm
  have hne := own_ne hp hr1 (by decide) (by decide) (by decide) hap
  refine ⟨fv', fw', ⟨hp.kept hk2 fun k e hs => hne k e hs, hr, fun k e e' => ?_, hg⟩, (hk.more fun k _ e => .inl e).trans hk2 fun k _ e => .inr e, hm, fun k e => ?_⟩
  · rcases hm2 k e' with h1 | h1
    · exact hap k e h1
    · have := (hp.own_lt k (.inr e)).2
      omega
  · rcases hm2 k e with h1 | h1
    · exact .inl h1
    · have := hk.size
      exact .inr (by omega)

theorem Next.trans {s2 : St} (h : Next w base bp bw fv fw s' w1) (h' : ∀ fv' fw', Pair w1 base bp bw fv' fw' s' → Next w1 base bp bw fv' fw' s2 w2) : Next w base bp bw fv fw s2 w2 := by
  obtain ⟨fv1, fw1, hp, hk, hm, hm'⟩ := h
  obtain ⟨fv2, fw2, hp2, hk2, hm2, hm2'⟩ := h' fv1 fw1 hp
  refine ⟨fv2, fw2, hp2, hk.trans hk2 ?_, fun k e => ?_, fun k e => ?_⟩
  · rintro k hlt ((rfl | e) | (rfl | e))
    · exact .inl (.inl rfl)
    · exact .inl (.inr (hm.lt k e hlt))
    · exact .inr (.inl rfl)
    · exact .inr (.inr (hm'.lt k e hlt))
  · rcases hm2 k e with h1 | h1
    · exact hm k h1
    · have := hk.size
      exact .inr (by omega)
  · rcases hm2' k e with h1 | h1
    · exact hm' k h1
    · have := hk.size
      exact .inr (by omega)
theorem Next.fresh (h : Pair w base bp bw fv fw s) (hk : Kept (fun _ => False) w w1) : Next w base bp bw fv fw s w1 :=
  ⟨fv, fw, h.fresh hk, hk.more fun _ _ e => e.elim, fun _ e => .inl e, fun _ e => .inl e⟩
theorem Next.after (h : Next w base bp bw fv fw s' w1) (hk : Kept (fun _ => False) w1 w2) : Next w base bp bw fv fw s' w2 := by
  obtain ⟨fv1, fw1, hp, hk1, hm, hm'⟩ := h
  exact ⟨fv1, fw1, hp.fresh hk, hk1.trans hk fun _ _ e => e.elim, hm, hm'⟩
theorem Next.before (h : Next w1 base bp bw fv fw s' w2) (hk : Kept (fun _ => False) w w1) : Next w base bp bw fv fw s' w2 := by
  obtain ⟨fv1, fw1, hp, hk1, hm, hm'⟩ := h
  have := hk.size
  exact ⟨fv1, fw1, hp, (hk.more fun _ _ e => e.elim).trans hk1 fun _ _ e => e, fun k e => (hm k e).imp id fun e => by omega, fun k e => (hm' k e).imp id fun e => by omega⟩
end

def St.step (s : St) (kind num got credit : Int) : St :=
  if kind = 1 then s.sent num else if kind = 2 then s.heard num got credit else if kind = 3 then s.clear else s
theorem Good.step {s : St} (h : Good s) (kind num got credit : Int) : Good (s.step kind num got credit) := by
  unfold St.step
  split
  · exact h.sent _
  · split
    · exact h.heard _ _ _
    · split
      · exact h.clear
      · exact h

/-- What does leaves. -/
def DoesPost (w : World) (base bp bw : Nat) (fv fw : Value) (s' : St) (e : Ending) (w' : World) : Prop := e = .returned (.bool true) ∧ Next w base bp bw fv fw s' w'

theorem FreshInts.form {w w' : World} {xs : List Int} {e : Ending} (h : FreshInts w xs e w') : ∃ A c, e = .returned (.slice A xs.length c) ∧ w'.ownsRow w.heap.size 3 1 (.slice A xs.length c) xs.length (ints xs) ∧ Kept (fun _ => False) w w' ∧ Seq w' A xs ∧ (∀ a, A = some a → w.heap.size ≤ a.block) := by
  obtain ⟨v, rfl, ho, hk⟩ := h
  rcases Go.Joins.ownsRow_forms ho with ⟨rfl, h0⟩ | ⟨g, cap, rfl⟩
  · rw [h0] at ho ⊢
    exact ⟨none, 0, rfl, ho, hk, Seq.of_own ho, fun a h => by cases h⟩
  · refine ⟨_, _, rfl, ho, hk, Seq.of_own ho, fun a h => ?_⟩
    injection h with h
    subst h
    exact (ho.lt g rfl).1

theorem ints_same (A B : Option Addr) (xs : List Int) (c d : Nat) (w : World) (ha : Seq w A xs) (hb : Seq w B xs) (hx : xs.length ≤ 4611686018427387904) :
    Calls Try.prog 19 #[.slice A xs.length c, .slice B xs.length d] w fun e w' => e = .returned (.bool true) ∧ ∃ n, w' = w.drewN n :=
  (ints_any A B xs xs c d w ha hb hx).mono fun _ _ ⟨he, hw⟩ => ⟨by rw [he]; simp, hw⟩

set_option maxRecDepth 100000 in
set_option maxHeartbeats 1600000 in
theorem does_any (base bp bw : Nat) (fv fw : Value) (s : St) (kind num got credit : Int) (w : World) (h : Pair w base bp bw fv fw s) (hbase : base ≤ w.heap.size) :
    Calls Try.prog 11 #[.pointer (some ⟨bp, 0, none⟩), .pointer (some ⟨bw, 0, none⟩), .agg #[.int .i64 kind, .int .i64 num, .int .i64 got, .int .i64 credit]] w (DoesPost w base bp bw fv fw (s.step kind num got credit)) := by
  have hK0 : Kept (fun _ => False) w (w.alloc (.cells #[.int .i64 kind, .int .i64 num, .int .i64 got, .int .i64 credit] 31)) := (Kept.refl _ _).alloc _
  have hX := Box.new w 31 #[.int .i64 kind, .int .i64 num, .int .i64 got, .int .i64 credit]
  have hP0 := h.fresh hK0
  have hlt0 := h.lt
  have hgood := h.good
  have HK0 := Lib.hid hK0
  clear hK0 h
  go_enter Try.func11, Try.ntmps11
  go_upto_block 0 with (fail)
  generalize w.alloc (.cells #[.int .i64 kind, .int .i64 num, .int .i64 got, .int .i64 credit] 31) = W at HK0 hX hP0 ⊢
  have hbW : base ≤ W.heap.size := Nat.le_trans hbase HK0.out.size
  have hx : ∀ (S : Nat → Prop) w1, Kept S W w1 → ¬ S w.heap.size → w1.cell? ⟨w.heap.size, 0, none⟩ = some (.int .i64 kind) ∧ w1.cell? ⟨w.heap.size, 1, none⟩ = some (.int .i64 num) ∧ w1.cell? ⟨w.heap.size, 2, none⟩ = some (.int .i64 got) ∧ w1.cell? ⟨w.heap.size, 3, none⟩ = some (.int .i64 credit) := fun S w1 hk hs =>
    ⟨by simpa using (hX.kept hk hs).cell 0, by simpa using (hX.kept hk hs).cell 1, by simpa using (hX.kept hk hs).cell 2, by simpa using (hX.kept hk hs).cell 3⟩
  have hgo : ∀ k, Owns2 bp bw fv fw k → k ≠ w.heap.size := fun k hk e => by have := (hlt0 k hk).2; omega
  have HX := Lib.hid hx
  have HG := Lib.hid hgo
  obtain ⟨x0, x1, x2, x3⟩ := hx _ W (Kept.refl (fun _ => False) W) (fun h => h)
  have HP := Lib.hid hP0
  clear hx hgo hP0 hX hlt0
  go_cut [7] (fun v wx => v = .bool true ∧ Next W base bp bw fv fw (s.step kind num got credit) wx)
  case first =>
    by_cases k1 : kind = 1
    · subst k1
      go_wp2_with (fail)
      refine (Send_any base bp fv s num _ HP.out.p hgood hbW).mono ?_
      rintro e w1 ⟨rfl, fv1, hp1, hk1, hm1⟩
      have hl := HP.out.left hk1 hm1
      obtain ⟨y0, y1, y2, y3⟩ := HX.out _ w1 hk1 (fun h => HG.out _ (.inl h) rfl)
      have hb1 : base ≤ w1.heap.size := Nat.le_trans hbW hk1.size
      have HP1 := Lib.hid hp1
      have HK1 := Lib.hid hk1
      have HM1 := Lib.hid hm1
      have HL := Lib.hid hl
      clear hp1 hk1 hm1 hl x0 x1 x2 x3
      go_wp2_with (fail)
      refine (RSend_any base bw fw s num _ HL.out.1 hgood hb1).mono ?_
      rintro e w2 ⟨rfl, fw2, hp2, hk2, hm2⟩
      have hfin := HP.out.both HP1.out HK1.out HM1.out hp2 hk2 hm2 (hgood.sent num)
      have HF := Lib.hid hfin
      clear hfin hp2 hk2 hm2
      go_wp2
      go_meet
      case rel => exact ⟨rfl, HF.out⟩
    · have b1 : (kind == 1) = false := beq_eq_false_iff_ne.2 k1
      by_cases k3 : kind = 3
      · subst k3
        clear k1
        go_wp2_with (fail)
        refine (Clear_any base bp fv s _ HP.out.p).mono ?_
        rintro e w1 ⟨rfl, hp1, hk1⟩
        have hm1 : Moved W fv (.slice none 0 0) := fun k hk => by cases hk
        have hk1' := hk1.more (T := OwnsB bp fv) fun k _ e => .inl e
        have hl := HP.out.left hk1' hm1
        obtain ⟨y0, y1, y2, y3⟩ := HX.out _ w1 hk1' (fun h => HG.out _ (.inl h) rfl)
        have HP1 := Lib.hid hp1
        have HK1 := Lib.hid hk1'
        have HM1 := Lib.hid hm1
        have HL := Lib.hid hl
        clear hp1 hk1 hm1 hl x0 x1 x2 x3 hk1'
        go_wp2_with (fail)
        refine (RClear_any base bw fw s _ HL.out.1).mono ?_
        rintro e w2 ⟨rfl, hp2, hk2⟩
        have hfin := HP.out.both HP1.out HK1.out HM1.out hp2 (hk2.more fun k _ e => .inl e) (fun k hk => by cases hk) hgood.clear
        have HF := Lib.hid hfin
        clear hfin hp2 hk2
        go_wp2
        go_meet
        case rel => exact ⟨rfl, HF.out⟩
      · have b3 : (kind == 3) = false := beq_eq_false_iff_ne.2 k3
        by_cases k2 : kind = 2
        · subst k2
          clear k1 k3
          go_wp2_with (fail)
          go_region_held3 (fun w' => w'.cell? ⟨w.heap.size, 1, none⟩ = some (.int .i64 num) ∧ w'.cell? ⟨w.heap.size, 2, none⟩ = some (.int .i64 got) ∧ w'.cell? ⟨w.heap.size, 3, none⟩ = some (.int .i64 credit))
            (first | exact ⟨x1, x2, x3⟩ | exact ⟨y1, y2, y3⟩ | exact ⟨z1, z2, z3⟩)
            (first
              | (go_at_call 15; refine (Heard_any base bp fv s num got credit _ (HP.out.p.drewN 1) hgood).mono ?_; rintro e w1 ⟨rfl, fv1, hp1, hk1, hm1⟩; obtain ⟨y0, y1, y2, y3⟩ := HX.out _ w1 ((Kept.drewN_eq 1).trans hk1 fun _ _ e => e) (fun h => HG.out _ (.inl h) rfl); have HP1 := Lib.hid hp1; have HK1 := Lib.hid hk1; have HM1 := Lib.hid hm1; have HL := Lib.hid (HP.out.left ((Kept.drewN_eq 1).trans hk1 fun _ _ e => e) hm1); have hb1 : base ≤ w1.heap.size := Nat.le_trans hbW hk1.size; clear hp1 hk1 hm1)
              | (go_at_call 22; refine (RHeard_any base bw fw s num got credit _ HL.out.1 hgood hb1).mono ?_; rintro e w2 ⟨rfl, fw2, hp2, hk2, hm2⟩; obtain ⟨z0, z1, z2, z3⟩ := HX.out _ w2 (((Kept.drewN_eq 1).trans HK1.out fun _ _ e => e).more (fun _ _ e => .inl e) |>.trans (hk2.more fun _ _ e => .inr e) fun _ _ e => e) (fun h => HG.out _ h rfl); have HF := Lib.hid (HP.out.both HP1.out ((Kept.drewN_eq 1).trans HK1.out fun _ _ e => e) HM1.out hp2 hk2 hm2 (hgood.heard num got credit)); clear hp2 hk2 hm2))
          go_wp2
          go_meet
          case rel => exact ⟨by simp, HF.out⟩
        · have b2 : (kind == 2) = false := beq_eq_false_iff_ne.2 k2
          have HF := Lib.hid (show s.step kind num got credit = s by simp [St.step, k1, k2, k3])
          clear k1 k2 k3
          go_wp2
          go_meet
          case rel => exact ⟨rfl, by rw [HF.out]; exact Next.fresh HP.out (Kept.refl _ _)⟩
  case rest =>
    obtain ⟨rfl, hn⟩ := hcut
    have HN := Lib.hid hn
    obtain ⟨fv1, fw1, hp, hk, hm, hm'⟩ := hn
    have HQ := Lib.hid hp
    clear hp hk hm hm' HP HX HG x0 x1 x2 x3
    have hb1 := HQ.out.p.box.lt
    go_wp2_with (fail)
    refine (Flight_any base bp fv1 _ _ HQ.out.p HQ.out.good).mono ?_
    rintro e w2 hf
    obtain ⟨A, c, rfl, ho2, hk2, hs2, hlt2⟩ := hf.form
    have HK2 := Lib.hid hk2
    have HQ2 := Lib.hid (HQ.out.fresh hk2)
    have HO2 := Lib.hid ho2
    have HS2 := Lib.hid hs2
    clear hf ho2 hk2 hs2
    go_wp2_with (fail)
    refine (RFlight_any base bw fw1 _ _ HQ2.out.r HQ2.out.good).mono ?_
    rintro e w3 hf
    obtain ⟨B, d, rfl, ho3, hk3, hs3, hlt3⟩ := hf.form
    have HK3 := Lib.hid hk3
    have HQ3 := Lib.hid (HQ2.out.fresh hk3)
    have HS3 := Lib.hid hs3
    have HS2' := Lib.hid (HS2.out.kept hk3 fun _ _ => id)
    clear hf ho3 hk3 hs3
    go_wp2_with (fail)
    refine (ints_same A B _ c d _ HS2'.out HS3.out (by have := HQ3.out.good.len; have := HQ3.out.good.w1; omega)).mono ?_
    rintro e w4 ⟨rfl, n, rfl⟩
    go_wp2_with (fail)
    refine (Got_any base bp fv1 _ _ (HQ3.out.p.drewN n)).mono ?_
    rintro e w5 ⟨rfl, rfl⟩
    go_wp2_with (fail)
    refine (RGot_any base bw fw1 _ _ (HQ3.out.r.drewN n)).mono ?_
    rintro e w5 ⟨rfl, rfl⟩
    go_wp2_with (fail)
    refine (Credit_any base bp fv1 _ _ (HQ3.out.p.drewN n)).mono ?_
    rintro e w5 ⟨rfl, rfl⟩
    go_wp2_with (fail)
    refine (RCredit_any base bw fw1 _ _ (HQ3.out.r.drewN n)).mono ?_
    rintro e w5 ⟨rfl, rfl⟩
    go_wp2
    go_ret
    exact ⟨rfl, ((HN.out.after HK2.out).after HK3.out |>.after (Kept.drewN_eq n)).before HK0.out⟩
end Go.Proofs.Ytadamldglebgmaa
