/- The walk of the law PeerOwn: it returns true, whatever the two numbers and the script: what Flight answers is new memory. Conditions: the script lies in memory as StepsAt says. -/
import Derived.Test.YtadamldglebgmaaNothing
namespace Go.Proofs.Ytadamldglebgmaa
open Go.RowKit

/-- Two Peers of the program that keep the same and share no block. -/
structure Duo (w : World) (base bp bq : Nat) (fp fq : Value) (s : St) : Prop where
  p : PeerAt w base 39 bp fp s
  q : PeerAt w base 39 bq fq s
  apart : ∀ k, OwnsB bp fp k → ¬ OwnsB bq fq k
  good : Good s
def OwnsD (bp bq : Nat) (fp fq : Value) (k : Nat) : Prop := OwnsB bp fp k ∨ OwnsB bq fq k

/-- what becomes of two such Peers -/
def NextD (w : World) (base bp bq : Nat) (fp fq : Value) (s' : St) (w' : World) : Prop :=
  ∃ fp' fq', Duo w' base bp bq fp' fq' s' ∧ Kept (OwnsD bp bq fp fq) w w'

section
variable {w w1 w2 : World} {base bp bq : Nat} {fp fq fp' fq' : Value} {s s' : St}
theorem Duo.fresh (h : Duo w base bp bq fp fq s) (hk : Kept (fun _ => False) w w1) : Duo w1 base bp bq fp fq s := ⟨h.p.kept hk fun _ _ => id, h.q.kept hk fun _ _ => id, h.apart, h.good⟩
theorem Duo.kept {S : Nat → Prop} (h : Duo w base bp bq fp fq s) (hk : Kept S w w1) (hS : ∀ k, OwnsD bp bq fp fq k → ¬ S k) : Duo w1 base bp bq fp fq s := ⟨h.p.kept hk fun k e => hS k (.inl e), h.q.kept hk fun k e => hS k (.inr e), h.apart, h.good⟩
theorem Duo.lt (h : Duo w base bp bq fp fq s) : ∀ k, OwnsD bp bq fp fq k → base ≤ k ∧ k < w.heap.size := by
  rintro k (e | e)
  · exact h.p.own_lt k e
  · exact h.q.own_lt k e
theorem moved_owns {b : Nat} {fv fv' : Value} (hm : Moved w fv fv') {k : Nat} (e : OwnsB b fv' k) (hlt : k < w.heap.size) : OwnsB b fv k := by
  rcases e with e | e
  · exact .inl e
  · exact .inr (hm.lt k e hlt)
theorem Duo.left (h : Duo w base bp bq fp fq s) (hk : Kept (OwnsB bp fp) w w1) : PeerAt w1 base 39 bq fq s := h.q.kept hk fun k e e' => h.apart k e' e
theorem Duo.both (h : Duo w base bp bq fp fq s) (hp : PeerAt w1 base 39 bp fp' s') (hk : Kept (OwnsB bp fp) w w1) (hm : Moved w fp fp') (hq : PeerAt w2 base 39 bq fq' s') (hk2 : Kept (OwnsB bq fq) w1 w2) (hm2 : Moved w1 fq fq') (hg : Good s') :
    NextD w base bp bq fp fq s' w2 := by
  have ha : ∀ k, OwnsB bp fp' k → ¬ OwnsB bq fq k := fun k e e' => h.apart k (moved_owns hm e (h.q.own_lt k e').2) e'
  refine ⟨fp', fq', ⟨hp.kept hk2 fun k e e' => ha k e e', hq, fun k e e' => ?_, hg⟩, (hk.more fun _ _ e => .inl e).trans hk2 fun _ _ e => .inr e⟩
  exact ha k e (moved_owns hm2 e' (hp.own_lt k e).2)
end

set_option maxRecDepth 100000 in
set_option maxHeartbeats 3200000 in
theorem Own_walk (window push : Int) (A : Option Addr) (l : List Stp) (c : Nat) (w : World) (hl : StepsAt w A l) :
    Calls Try.prog 8 #[.int .i64 window, .int .i64 push, .slice A l.length c] w (TrueNew w) := by
  by_cases h500 : 500 < l.length
  · have h500' : (500 : Int) < (l.length : Int) := by omega
    clear h500
    go_enter Try.func8, Try.ntmps8
    go_wp2_with (fail)
    refine (known_any _).mono ?_
    rintro e w1 ⟨rfl, hk⟩
    have HK := Lib.hid hk
    clear hk
    go_wp2
    go_ret
    exact ⟨rfl, HK.out⟩
  obtain ⟨i0, hi, hz0, hz1, hz2⟩ := info_parts info_int'
  cases hok : okNew window push with
  | false =>
    have HOK := Lib.hid hok
    clear hok
    go_enter Try.func8, Try.ntmps8
    go_wp2_with (fail)
    refine (New_no window push _ HOK.out).mono ?_
    rintro e w1 ⟨rfl, rfl⟩
    go_wp2_with (fail)
    refine (New_no window push _ HOK.out).mono ?_
    rintro e w1 ⟨rfl, rfl⟩
    go_wp2_with (fail)
    refine (known_any _).mono ?_
    rintro e w1 ⟨rfl, hk⟩
    have HK := Lib.hid hk
    clear hk
    go_wp2
    go_ret
    exact ⟨rfl, HK.out⟩
  | true =>
    have HOK := Lib.hid hok
    have hk0 : Kept (fun _ => False) w ((w.alloc (.cells ((St.new window push).cells (.slice none 0 0)) 39)).alloc (.cells ((St.new window push).cells (.slice none 0 0)) 39)) := ((Kept.refl _ _).alloc _).alloc _
    have hd0 : Duo ((w.alloc (.cells ((St.new window push).cells (.slice none 0 0)) 39)).alloc (.cells ((St.new window push).cells (.slice none 0 0)) 39)) w.heap.size w.heap.size (w.heap.size + 1) (.slice none 0 0) (.slice none 0 0) (St.new window push) := by
      refine ⟨(PeerAt.new w w.heap.size (Nat.le_refl _) 39 (St.new window push) rfl).kept (S := fun _ => False) ((Kept.refl _ _).alloc _) fun _ _ => id, ?_, ?_, Good.new hok⟩
      · simpa using PeerAt.new (w.alloc (.cells ((St.new window push).cells (.slice none 0 0)) 39)) w.heap.size (by simp) 39 (St.new window push) rfl
      · rintro k (rfl | e) (h | h)
        · omega
        · cases h
        · cases e
        · cases e
    have HD0 := Lib.hid hd0
    have HK0 := Lib.hid hk0
    have HL := Lib.hid hl
    clear hok hd0 hk0 hl
    go_enter Try.func8, Try.ntmps8
    go_wp2_with (fail)
    refine (New_yes window push _ HOK.out).mono ?_
    rintro e w1 ⟨rfl, rfl⟩
    go_wp2_with (fail)
    refine (New_yes window push _ HOK.out).mono ?_
    rintro e w1 ⟨rfl, rfl⟩
    go_wp2_with (fail)
    generalize (w.alloc (.cells ((St.new window push).cells (.slice none 0 0)) 39)).alloc (.cells ((St.new window push).cells (.slice none 0 0)) 39) = w0 at HD0 HK0 ⊢
    go_loopw [11] (fun i wr => ∃ k fp fq s, i = .int .i64 (k : Nat) ∧ k ≤ l.length ∧ Duo wr w.heap.size w.heap.size (w.heap.size + 1) fp fq s ∧ Kept (fun _ => False) w wr) (fun i _ => l.length - (intOf i).toNat)
    case atStart => exact ⟨0, _, _, _, rfl, Nat.zero_le _, HD0.out, HK0.out⟩
    case round =>
      obtain ⟨k, fp, fq, s, rfl, hk, hp, hkw⟩ := hrel
      have HP := Lib.hid hp
      have HKW := Lib.hid hkw
      by_cases hlt : k < l.length
      · obtain ⟨ad, rfl, x0, x1, x2, x3⟩ := HL.out.fresh hkw k hlt
        obtain ⟨X, hX⟩ : ∃ X, X = l[k] := ⟨_, rfl⟩
        rw [← hX] at x0 x1 x2 x3
        clear hX
        have hXb := Box.new wr 31 #[.int .i64 X.kind, .int .i64 X.num, .int .i64 X.got, .int .i64 X.credit]
        have hkX : Kept (fun _ => False) wr (wr.alloc (.cells #[.int .i64 X.kind, .int .i64 X.num, .int .i64 X.got, .int .i64 X.credit] 31)) := (Kept.refl _ _).alloc _
        have hgX : ∀ j, OwnsD w.heap.size (w.heap.size + 1) fp fq j → j ≠ wr.heap.size := fun j hj e => by have := (hp.lt j hj).2; omega
        have HGX := Lib.hid hgX
        have HBX := Lib.hid hXb
        have HKX := Lib.hid hkX
        clear hp hkw hXb hkX hgX
        go_upto_block 2 with (fail)
        generalize wr.alloc (.cells #[.int .i64 X.kind, .int .i64 X.num, .int .i64 X.got, .int .i64 X.credit] 31) = W at HBX HKX ⊢
        clear x0 x1 x2 x3
        have HP' := Lib.hid (HP.out.fresh HKX.out)
        have HKW' := Lib.hid (HKW.out.trans HKX.out fun _ _ e => e)
        have hbW : w.heap.size ≤ W.heap.size := HKW'.out.size
        have hx : ∀ (S : Nat → Prop) w1, Kept S W w1 → ¬ S wr.heap.size → w1.cell? ⟨wr.heap.size, 1, none⟩ = some (.int .i64 X.num) ∧ w1.cell? ⟨wr.heap.size, 2, none⟩ = some (.int .i64 X.got) ∧ w1.cell? ⟨wr.heap.size, 3, none⟩ = some (.int .i64 X.credit) := fun S w1 hk hs =>
          ⟨by simpa using (HBX.out.kept hk hs).cell 1, by simpa using (HBX.out.kept hk hs).cell 2, by simpa using (HBX.out.kept hk hs).cell 3⟩
        have HX := Lib.hid hx
        clear hx
        go_cut [13, 14, 15, 16] (fun a b c d wx => ∃ n m s', a = .int .i64 n ∧ b = .int .i64 m ∧ c = .int .i64 n ∧ d = .int .i64 m ∧ NextD W w.heap.size w.heap.size (w.heap.size + 1) fp fq s' wx)
        case first =>
          obtain ⟨x1, x2, x3⟩ := HX.out _ W (Kept.refl (fun _ => False) W) fun h => h
          have hgood := HP'.out.good
          by_cases k1 : X.kind = 1
          · have b1 : (X.kind == 1) = true := beq_iff_eq.2 k1
            clear k1
            go_wp2_with (fail)
            refine (Send_any w.heap.size w.heap.size fp s X.num _ HP'.out.p hgood hbW).mono ?_
            rintro e w1 ⟨rfl, fp1, hp1, hk1, hm1⟩
            have hq1 := HP'.out.left hk1
            obtain ⟨y1, y2, y3⟩ := HX.out _ w1 hk1 fun h => HGX.out _ (.inl h) rfl
            have hbw1 : w.heap.size ≤ w1.heap.size := Nat.le_trans hbW hk1.size
            have HP1 := Lib.hid hp1
            have HK1 := Lib.hid hk1
            have HM1 := Lib.hid hm1
            have HQ1 := Lib.hid hq1
            clear hp1 hk1 hm1 hq1 x1 x2 x3
            go_wp2_with (fail)
            refine (Send_any w.heap.size (w.heap.size + 1) fq s X.num _ HQ1.out hgood hbw1).mono ?_
            rintro e w2 ⟨rfl, fq2, hp2, hk2, hm2⟩
            have HF := Lib.hid (HP'.out.both HP1.out HK1.out HM1.out hp2 hk2 hm2 (hgood.sent X.num))
            clear hp2 hk2 hm2
            go_wp2
            go_meet
            case rel => exact ⟨_, _, _, rfl, rfl, rfl, rfl, HF.out⟩
          · have b1 : (X.kind == 1) = false := beq_eq_false_iff_ne.2 k1
            clear k1
            by_cases k2 : X.kind = 2
            · have b2 : (X.kind == 2) = true := beq_iff_eq.2 k2
              clear k2
              go_wp2_with (fail)
              refine (Heard_any w.heap.size w.heap.size fp s X.num X.got X.credit _ HP'.out.p hgood).mono ?_
              rintro e w1 ⟨rfl, fp1, hp1, hk1, hm1⟩
              have hq1 := HP'.out.left hk1
              obtain ⟨y1, y2, y3⟩ := HX.out _ w1 hk1 fun h => HGX.out _ (.inl h) rfl
              have HP1 := Lib.hid hp1
              have HK1 := Lib.hid hk1
              have HM1 := Lib.hid hm1
              have HQ1 := Lib.hid hq1
              clear hp1 hk1 hm1 hq1 x1 x2 x3
              go_wp2_with (fail)
              refine (Heard_any w.heap.size (w.heap.size + 1) fq s X.num X.got X.credit _ HQ1.out hgood).mono ?_
              rintro e w2 ⟨rfl, fq2, hp2, hk2, hm2⟩
              have HF := Lib.hid (HP'.out.both HP1.out HK1.out HM1.out hp2 hk2 hm2 (hgood.heard X.num X.got X.credit))
              clear hp2 hk2 hm2
              go_wp2
              go_meet
              case rel => exact ⟨_, _, _, rfl, rfl, rfl, rfl, HF.out⟩
            · have b2 : (X.kind == 2) = false := beq_eq_false_iff_ne.2 k2
              clear k2
              by_cases k3 : X.kind = 3
              · have b3 : (X.kind == 3) = true := beq_iff_eq.2 k3
                clear k3
                go_wp2_with (fail)
                refine (Clear_any w.heap.size w.heap.size fp s _ HP'.out.p).mono ?_
                rintro e w1 ⟨rfl, hp1, hk1'⟩
                have hk1 := hk1'.more (T := OwnsB w.heap.size fp) fun k _ e => .inl e
                have hm1 : Moved W fp (.slice none 0 0) := fun k hk => by cases hk
                have hq1 := HP'.out.left hk1
                have HP1 := Lib.hid hp1
                have HK1 := Lib.hid hk1
                have HM1 := Lib.hid hm1
                have HQ1 := Lib.hid hq1
                clear hp1 hk1 hm1 hq1 hk1' x1 x2 x3
                go_wp2_with (fail)
                refine (Clear_any w.heap.size (w.heap.size + 1) fq s _ HQ1.out).mono ?_
                rintro e w2 ⟨rfl, hp2, hk2⟩
                have HF := Lib.hid (HP'.out.both HP1.out HK1.out HM1.out hp2 (hk2.more fun k _ e => .inl e) (fun k hk => (by cases hk)) hgood.clear)
                clear hp2 hk2
                go_wp2
                go_meet
                case rel => exact ⟨_, _, _, rfl, rfl, rfl, rfl, HF.out⟩
              · have b3 : (X.kind == 3) = false := beq_eq_false_iff_ne.2 k3
                clear k3
                go_wp2
                go_meet
                case rel => exact ⟨_, _, s, rfl, rfl, rfl, rfl, _, _, HP'.out, Kept.refl _ _⟩
        case rest =>
          obtain ⟨n1, n2, s', rfl, rfl, rfl, rfl, hn⟩ := hcut
          obtain ⟨wq, rfl⟩ : ∃ wq : World, wq = wc := ⟨_, rfl⟩
          obtain ⟨fp1, fq1, hd, hkd⟩ := hn
          have HD := Lib.hid hd
          have HKC := Lib.hid (HKW'.out.trans hkd fun j hlt e => by have := (HP'.out.lt j e).1; omega)
          have hgs := hd.good
          have HSW0 := Lib.hid HKC.out.size
          have hfl : s'.fl.length ≤ 64 := by have := hgs.len; have := hgs.w1; omega
          clear hd hkd HX HBX HGX HP' HP HKX HKW' HKW
          go_wp2_with (fail)
          refine (Flight_any w.heap.size w.heap.size fp1 s' _ HD.out.p hgs).mono ?_
          rintro e w2 hf
          obtain ⟨Ag, cg, rfl, ho2, hk2, hs2, hb2⟩ := hf.form
          have HD2 := Lib.hid (HD.out.fresh hk2)
          have HSZ2 := Lib.hid hk2.size
          have HKC2 := Lib.hid (HKC.out.trans hk2 fun _ _ e => e)
          have HO2 := Lib.hid ho2
          have HS2 := Lib.hid hs2
          clear hf ho2 hk2 hs2
          go_wp2_with (fail)
          refine (Flight_any w.heap.size w.heap.size fp1 s' _ HD2.out.p hgs).mono ?_
          rintro e w3 hf
          obtain ⟨Ah, ch, rfl, ho3, hk3, hs3, hb3⟩ := hf.form
          have HD3 := Lib.hid (HD2.out.fresh hk3)
          have HSZ3 := Lib.hid (Nat.le_trans HSZ2.out hk3.size)
          have HKC3 := Lib.hid (HKC2.out.trans hk3 fun _ _ e => e)
          have HO23 := Lib.hid (hk3.own HO2.out fun _ _ => id)
          have HS23 := Lib.hid (HS2.out.kept hk3 fun _ _ => id)
          have HS3 := Lib.hid hs3
          clear hf ho3 hk3 hs3
          go_wp2_with (fail)
          refine (Flight_any w.heap.size (w.heap.size + 1) fq1 s' _ HD3.out.q hgs).mono ?_
          rintro e w4 hf
          obtain ⟨Aq, cq, rfl, ho4, hk4, hs4, _⟩ := hf.form
          have HD4 := Lib.hid (HD3.out.fresh hk4)
          have HSZ4 := Lib.hid (Nat.le_trans HSZ3.out hk4.size)
          have HKC4 := Lib.hid (HKC3.out.trans hk4 fun _ _ e => e)
          have HO24 := Lib.hid (hk4.own HO23.out fun _ _ => id)
          have HS24 := Lib.hid (HS23.out.kept hk4 fun _ _ => id)
          have HS34 := Lib.hid (HS3.out.kept hk4 fun _ _ => id)
          have HS4 := Lib.hid hs4
          clear hf ho4 hk4 hs4
          go_wp2_with (fail)
          refine (ints_same Ag Aq _ cg cq _ HS24.out HS4.out (by omega)).mono ?_
          rintro e w5 ⟨rfl, n5, rfl⟩
          have HD5 := Lib.hid (show Duo (w4.drewN n5) w.heap.size w.heap.size (w.heap.size + 1) fp1 fq1 s' from HD4.out.fresh (Kept.drewN_eq n5))
          have HKC5 := Lib.hid (HKC4.out.drewN n5)
          have HO5 := Lib.hid (show (w4.drewN n5).ownsRow _ _ _ _ _ _ from HO24.out)
          have HS5 := Lib.hid (HS34.out.drewN n5)
          have hG1 : ∀ j, (Value.slice Ag s'.fl.length cg).ownBlock = some j → wq.heap.size ≤ j ∧ j < w2.heap.size := fun j hj => HO2.out.lt j hj
          have HG1 := Lib.hid hG1
          have HD' := Lib.hid HD.out.lt
          have HSZ := Lib.hid (show wq.heap.size ≤ (w4.drewN n5).heap.size from HSZ4.out)
          have HSW := Lib.hid (show w.heap.size ≤ wq.heap.size from HSW0.out)
          clear hG1 HD2 HD3 HD4 HKC HKC2 HKC3 HKC4 HO23 HO24 HS2 HS23 HS24 HS34 HS4
          go_upto_block 3 with (fail)
          generalize w4.drewN n5 = w5 at HD5 HKC5 HO5 HS5 HSZ ⊢
          go_cut [19] (fun _ wx => ∃ xs, wx.ownsRow wq.heap.size 3 1 (.slice Ag s'.fl.length cg) s'.fl.length xs ∧ Kept (fun j => (Value.slice Ag s'.fl.length cg).ownBlock = some j) w5 wx)
          case first =>
            go_wp2_with (fail)
            go_loopw [19] (fun i wr => ∃ j xs, i = .int .i64 (j : Nat) ∧ j ≤ s'.fl.length ∧ wr.ownsRow wq.heap.size 3 1 (.slice Ag s'.fl.length cg) s'.fl.length xs ∧ Kept (fun j => (Value.slice Ag s'.fl.length cg).ownBlock = some j) w5 wr) (fun i _ => s'.fl.length - (intOf i).toNat)
            case atStart => exact ⟨0, _, rfl, Nat.zero_le _, HO5.out, Kept.refl _ _⟩
            case round =>
              obtain ⟨j, xs, rfl, hj, ho, hkr⟩ := hrel
              have HOr := Lib.hid ho
              have HKr := Lib.hid hkr
              by_cases hjl : j < s'.fl.length
              · obtain ⟨g, cap, hv, _, _⟩ := ho.form (by omega)
                injection hv with e1 _ e3
                subst e1 e3
                obtain ⟨u, hcell⟩ : ∃ u, wr.cell? ⟨g, j, none⟩ = some u := by
                  have hxl : xs.length = s'.fl.length := by have := ho.1; omega
                  exact ⟨xs[j], by rw [ho.cellAt j (by omega), List.getElem?_eq_getElem (by omega)]⟩
                have hfr := ho.frozenAt j
                have hst := ho.stored j (.int .i64 (-7))
                have HST := Lib.hid hst
                clear ho hkr hst
                go_wp2
                go_roundw
                case rel =>
                  refine ⟨j + 1, _, by go_num, by omega, HST.out.1, HKr.out.at j _ (.inl rfl)⟩
                case measure => simp [intOf]; omega
              · clear ho hkr
                go_wp2
                go_meet
                case rel => exact ⟨_, HOr.out, HKr.out⟩
          case rest =>
            obtain ⟨xs, ho, hkr⟩ := hcut
            have HOr := Lib.hid ho
            have HKr := Lib.hid hkr
            clear ho hkr
            go_upto_block 5 with (fail)
            go_cut [20] (fun _ wx => Kept (fun j => (Value.slice Ag s'.fl.length cg).ownBlock = some j) w5 wx)
            case first =>
              go_wp2_with (fail)
              go_loopw [20, 21] (fun v i wr => ∃ (j n : Nat) (xs : List Value), i = .int .i64 (j : Nat) ∧ j ≤ 20 ∧ n ≤ 64 + j ∧ wr.ownsRow wq.heap.size 3 1 v n xs ∧ Kept (fun j => (Value.slice Ag s'.fl.length cg).ownBlock = some j) w5 wr ∧ (∀ b, v.ownBlock = some b → (Value.slice Ag s'.fl.length cg).ownBlock = some b ∨ w5.heap.size ≤ b)) (fun _ i _ => 20 - (intOf i).toNat)
              case atStart => exact ⟨0, _, _, rfl, by omega, by omega, HOr.out, HKr.out, fun b hb => .inl hb⟩
              case round =>
                obtain ⟨j, n, xs, rfl, hj, hn, ho, hkr, hbl⟩ := hrel
                have hsz : wq.heap.size ≤ wr.heap.size := by
                  have := hkr.size; have := HSZ.out; omega
                have HO1 := Lib.hid ho
                have HK1 := Lib.hid hkr
                have HB1 := Lib.hid hbl
                clear ho hkr hbl
                by_cases hjl : j < 20
                · go_wp2_with (at_builtin; refine wpList_append_own_at _ rfl (.tmp 129) (.tmp 130) 37 rfl wq.heap.size 3 i0 (.int .i64 0) 1 8 Try.underlying37 hi hz0 hz1 hz2 rfl (by decide) _ n xs rfl (HO1.out.alloc _) ⟨wr.heap.size, 0, none⟩ 1 1 [.int .i64 (-8)] rfl rfl ?c1 ?c2 ?c3 ?c4 ?c5 ?_)
                  case c1 => exact news_one _ _ _ _ rfl
                  case c2 => exact one_int _ _
                  case c3 => unfold maxLen; omega
                  case c4 => omega
                  case c5 => simp; omega
                  intro v' w1 hown1 hg1 _ hat
                  have HO2 := Lib.hid hown1
                  have HG2 := Lib.hid hg1
                  have HA2 := Lib.hid hat
                  clear hown1 hg1 hat
                  go_wp2
                  go_roundw
                  case rel =>
                    refine ⟨j + 1, n + 1, _, by go_num, by omega, by omega, HO2.out, (HK1.out.alloc _).grown HG2.out fun b hb e => ?_, fun b hb => ?_⟩
                    · exact (HB1.out b e).resolve_right (by omega)
                    · have := HK1.out.size
                      rcases HA2.out with e | e
                      · exact HB1.out b (e ▸ hb)
                      · rw [e] at hb
                        injection hb with hb
                        have : wr.heap.size + 1 = b := by simpa using hb
                        exact .inr (by omega)
                  case measure => simp [intOf]; omega
                · go_wp2
                  go_meet
                  case rel => exact HK1.out
            case rest =>
              have hk7 := hcut
              have HK7 := Lib.hid hk7
              have HD7 := Lib.hid (HD5.out.kept hk7 fun j hj e => by
                have h1 := (HD'.out j hj).2
                have h2 := (HG1.out j e).1
                omega)
              have HS7 := Lib.hid (HS5.out.kept hk7 fun a ha e => by
                have h1 := hb3 a ha
                have h2 := (HG1.out _ e).2
                omega)
              clear hk7 hcut
              go_wp2_with (fail)
              refine (Flight_any w.heap.size (w.heap.size + 1) fq1 s' _ HD7.out.q hgs).mono ?_
              rintro e w8 hf
              obtain ⟨Ar, cr, rfl, ho8, hk8, hs8, _⟩ := hf.form
              have HD8 := Lib.hid (HD7.out.fresh hk8)
              have HK8 := Lib.hid hk8
              have HS78 := Lib.hid (HS7.out.kept hk8 fun _ _ => id)
              have HS8 := Lib.hid hs8
              clear hf ho8 hk8 hs8
              go_wp2_with (fail)
              refine (ints_same Ah Ar _ ch cr _ HS78.out HS8.out (by omega)).mono ?_
              rintro e w9 ⟨rfl, n9, rfl⟩
              go_wp2
              go_roundw
              case rel =>
                refine ⟨k + 1, fp1, fq1, s', by go_num, by omega, HD8.out.fresh (Kept.drewN_eq n9), ?_⟩
                refine ((HKC5.out.trans HK7.out fun j hlt e => ?_).trans HK8.out fun _ _ e => e).drewN n9
                have := (HG1.out j e).1
                have := HSW.out
                omega
              case measure => simp [intOf]; omega
      · clear hp hkw
        have hgood := HP.out.good
        have hfl : s.fl.length ≤ 64 := by have := hgood.len; have := hgood.w1; omega
        go_wp2_with (fail)
        refine (Flight_any w.heap.size w.heap.size fp s _ HP.out.p hgood).mono ?_
        rintro e w2 hf
        obtain ⟨Ag, cg, rfl, ho2, hk2, hs2, hb2⟩ := hf.form
        have HD2 := Lib.hid (HP.out.fresh hk2)
        have HK2 := Lib.hid (HKW.out.trans hk2 fun _ _ e => e)
        have HS2 := Lib.hid hs2
        clear hf ho2 hk2 hs2
        go_wp2_with (fail)
        refine (Flight_any w.heap.size (w.heap.size + 1) fq s _ HD2.out.q hgood).mono ?_
        rintro e w3 hf
        obtain ⟨Ah, ch, rfl, ho3, hk3, hs3, hb3⟩ := hf.form
        have HK3 := Lib.hid (HK2.out.trans hk3 fun _ _ e => e)
        have HS23 := Lib.hid (HS2.out.kept hk3 fun _ _ => id)
        have HS3 := Lib.hid hs3
        clear hf ho3 hk3 hs3
        go_wp2_with (fail)
        refine (ints_same Ag Ah _ cg ch _ HS23.out HS3.out (by omega)).mono ?_
        rintro e w4 ⟨rfl, n4, rfl⟩
        go_wp2_with (fail)
        refine (known_any _).mono ?_
        rintro e w5 ⟨rfl, hk⟩
        have HK := Lib.hid hk
        clear hk
        go_wp2
        go_ret
        exact ⟨rfl, (HK3.out.drewN n4).trans HK.out fun _ _ e => e⟩
end Go.Proofs.Ytadamldglebgmaa
