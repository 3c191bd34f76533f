/- The walk of NetApart: it is true. Conditions: the script and the step lie in memory. -/
import Derived.Test.YtopcogogpbcbhaaNApP
import Derived.Test.YtopcogogpbcbhaaNOpL
namespace Go.Proofs.Ytopcogogpbcbhaa
open Go Go.RowKit

theorem CopAt.kept {S : Nat → Prop} {w w' : World} {base : Nat} {L : Option Addr} {lc : Nat} {l : List Cc} (h : CopAt w base L lc l) (hk : Kept S w w') (hS : ∀ k, base ≤ k → k < w.heap.size → ¬ S k) : CopAt w' base L lc l :=
  ⟨hk.own h.row fun k e => hS k (h.row.lt k e).1 (h.row.lt k e).2, fun x hx => hk.own (h.d x hx) fun k e => hS k ((h.d x hx).lt k e).1 ((h.d x hx).lt k e).2, h.ap⟩
theorem load_stn_box {w : World} {ops : Array Oper} {rest : List Oper} {o : Oper} {a : Act} {Q : Exit → Act → World → Prop} (hgd : o.guard = none) (x : Operand) (ho : o.op = .load 32 x) (g : Nat) (hx : a.eval x = .pointer (some ⟨g, 0, none⟩)) (s : Stn) (t : TypeId) (hg : Box w g t s.cs)
    (h : wpList Try.prog ops Q rest (a.put o.dst (.agg s.cs)) w) : wpList Try.prog ops Q (o :: rest) a w :=
  load_stn hgd x ho _ hx s ((hg.cell 0).trans rfl) (fun j v hj => by show w.cell? ⟨g, 0 + j, none⟩ = _; rw [Nat.zero_add, hg.cell j]; simpa using hj) h
theorem Nt.double_num (s : Nt) (n : Int) : ∃ m : Nat, (s.double n).1.1 = m ∧ m ≤ s.last + 1 := by
  unfold Nt.double
  split
  · exact ⟨0, rfl, Nat.zero_le _⟩
  · exact ⟨s.last + 1, rfl, Nat.le_refl _⟩
theorem drop_cons {α : Type} {l : List α} {k : Nat} (h : k < l.length) : l.drop k = l[k] :: l.drop (k + 1) := List.drop_eq_getElem_cons h
set_option maxRecDepth 100000 in
set_option maxHeartbeats 6400000 in
theorem Apart_walk (A : Option Addr) (c : Nat) (l : List Stn) (num : Int) (x : Stn) (w : World) (h : ScnAt w A l) (hl : l.length ≤ 4611686018427387904) (hnum : (Lit.int .i64 num).wf = true) (hx : x.Arg w) :
    Calls Try.prog 7 #[.slice A l.length c, .int .i64 num, .agg x.cs] w (KnownPost w) := by
  have HSC := Lib.hid h
  have HXA := Lib.hid hx
  have HNUM := Lib.hid hnum
  have HA := Lib.hid ((Kept.refl (fun _ => False) w).alloc (.cells x.cs 32))
  have HB := Lib.hid (Box.new w 32 x.cs)
  clear h hx hnum
  go_enter Try.func7, Try.ntmps7
  go_upto_region 1 with (fail)
  generalize w.alloc (.cells x.cs 32) = w0 at HA HB ⊢
  obtain ⟨X, hX⟩ : ∃ X, w.heap.size = X := ⟨_, rfl⟩
  have HWX := Lib.hid hX
  rw [hX] at HB ⊢
  clear hX
  go_wp2_with (fail)
  refine (Much20_any A l c w0 (HSC.out.steps.fresh HA.out) hl).mono ?_
  rintro r w1 ⟨rfl, hk⟩
  have HA1 := Lib.hid (HA.out.trans hk fun _ _ e => e)
  have HB1 := Lib.hid (HB.out.kept hk id)
  clear hk HA HB
  have x5 : w1.cell? ⟨X, 5, none⟩ = some (.slice x.dA x.data.length x.dc) := (HB1.out.cell 5).trans rfl
  obtain ⟨bm, hbm⟩ : ∃ bm, muchN l = bm := ⟨_, rfl⟩
  rw [hbm]
  have HBM := Lib.hid hbm
  clear hbm
  cases bm with
  | true =>
    as_aux_lemma =>
    go_wp2_with (fail)
    refine (Known20_any w1).mono ?_
    rintro r w2 ⟨rfl, hk⟩
    have HK := Lib.hid (HA1.out.trans hk fun _ _ e => e)
    clear hk
    go_wp2_with (fail)
    go_ret
    exact ⟨rfl, HK.out⟩
  | false =>
  by_cases hlx : 60000 < x.data.length
  case' pos =>
    as_aux_lemma =>
    have hlx' : (60000 : Int) < (x.data.length : Int) := by omega
    go_wp2_with (fail)
    refine (Known20_any w1).mono ?_
    rintro r w2 ⟨rfl, hk⟩
    have HK := Lib.hid (HA1.out.trans hk fun _ _ e => e)
    clear hk
    go_wp2_with (fail)
    go_ret
    exact ⟨rfl, HK.out⟩
  have hlx' : ¬ (60000 : Int) < (x.data.length : Int) := by omega
  obtain ⟨hok, hll, -⟩ := HSC.out.ok HBM.out
  have HOK := Lib.hid hok
  have HXK := Lib.hid (HXA.out.ok (by omega))
  clear hok HBM HXA hl
  go_wp2_with (fail)
  refine (Nw.new w1 w1.heap.size (Nat.le_refl _)).mono ?_
  rintro r w2 ⟨rfl, hn, hk⟩
  have HN2 := Lib.hid hn
  have HA2 := Lib.hid (HA1.out.trans hk fun _ _ e => e)
  have HB2 := Lib.hid (HB1.out.kept hk id)
  have HXP := Lib.hid HB1.out.lt
  have HPS := Lib.hid hk.size
  clear hn hk HA1 HB1 x5 hlx hlx'
  obtain ⟨p, hp⟩ : ∃ p, w1.heap.size = p := ⟨_, rfl⟩
  rw [hp] at HN2 HXP HPS ⊢
  clear hp
  go_wp2_with (fail)
  go_loopw [8] (fun i wr => ∃ k : Nat, i = .int .i64 k ∧ k ≤ l.length ∧ Nw (fun k => p ≤ k) p (Nt.play ⟨0, []⟩ (l.take k)) wr ∧ Kept (fun k => p ≤ k) w2 wr) (fun i _ => l.length - (intOf i).toNat)
  case atStart => exact ⟨0, rfl, Nat.zero_le _, HN2.out, Kept.refl _ _⟩
  case round =>
    obtain ⟨k, rfl, hk, hn, hkk⟩ := hrel
    have HN := Lib.hid hn
    have HK := Lib.hid hkk
    have HA := Lib.hid (HA2.out.trans hkk fun j hj e => by have := HWX.out; have := HXP.out; omega)
    have HB := Lib.hid (HB2.out.kept hkk fun e => by have := HXP.out; omega)
    have HPW := Lib.hid (Nat.le_trans HPS.out hkk.size)
    have hlast : (Nt.play ⟨0, []⟩ (l.take k)).last ≤ k := by
      have := Nt.play_last ⟨0, []⟩ (l.take k)
      rw [List.length_take] at this
      have e : (⟨0, []⟩ : Nt).last = 0 := rfl
      omega
    clear hn hkk HN2 HA2 HB2
    by_cases hlt : k < l.length
    · obtain ⟨ad, rfl, x0, x1⟩ := HSC.out.steps.fresh HA.out k hlt
      have HST := Lib.hid (Nt.play_take ⟨0, []⟩ l k hlt)
      have HOX := Lib.hid ((HOK.out l[k] (List.getElem_mem hlt)).fresh HA.out)
      obtain ⟨y, hy⟩ : ∃ y, l[k] = y := ⟨_, rfl⟩
      rw [hy] at x0 x1 HST HOX
      have HX0 := Lib.hid x0
      have HX1 := Lib.hid x1
      clear x0 x1 hy
      go_wp2_with (refine load_stn rfl _ rfl _ rfl y HX0.out HX1.out ?_)
      refine (Nw.do_ HN.out (fun j e => Nat.le_trans HPW.out e) (by omega) HOX.out).mono ?_
      rintro r w4 ⟨rfl, hn, hkk⟩
      have HN4 := Lib.hid hn
      have HK4 := Lib.hid (HK.out.trans hkk fun _ _ e => e)
      clear hn hkk HX0 HX1 HOX
      go_wp2_with (fail)
      go_roundw
      case rel => exact ⟨k + 1, by go_num, by omega, by rw [HST.out]; exact HN4.out, HK4.out⟩
      case measure => simp [intOf]; omega
    obtain rfl : k = l.length := by omega
    rw [List.take_length] at HN hlast
    obtain ⟨s0, hs0⟩ : ∃ s0, Nt.play ⟨0, []⟩ l = s0 := ⟨_, rfl⟩
    rw [hs0] at HN hlast
    clear hs0 HOK HSC HK
    obtain ⟨w3, rfl⟩ : ∃ w3 : World, w3 = wr := ⟨_, rfl⟩
    have hl0 : s0.last ≤ 200 := by omega
    clear hlast
    have HOK0 := Lib.hid HN.out.ok
    have hdb := Nw.double_ (n := num) HN.out (fun j e => Nat.le_trans HPW.out e) (by omega) HNUM.out
    have hdl : (s0.double num).2.last ≤ 201 := Nat.le_trans (s0.double_last num) (by omega)
    obtain ⟨v, hv, hvl⟩ := s0.double_num num
    have HDN := Lib.hid (s0.double_no num)
    have HDG := Lib.hid (s0.double_get HOK0.out (x.on num) (x.on_kind num).1 (x.on_kind num).2)
    rw [show (x.on num).num = num from rfl] at HDG
    have hzz : ∃ e s1, s0.double num = (((v : Int), e), s1) := ⟨(s0.double num).1.2, (s0.double num).2, by rw [← hv]⟩
    obtain ⟨e, s1, hz⟩ := hzz
    rw [hz] at hdb hdl HDN HDG
    simp only at hdb hdl HDN HDG
    clear hz hv HOK0
    have hwv : (Lit.int .i64 (v : Int)).wf = true := num_wf (by omega)
    go_wp2_with (fail)
    refine hdb.mono ?_
    clear hdb
    rintro r w4 ⟨rfl, hn, hkk⟩
    have HN4 := Lib.hid hn
    have HA4 := Lib.hid (HA.out.trans hkk fun j hj e => by have := HWX.out; have := HXP.out; omega)
    have HB4 := Lib.hid (HB.out.kept hkk fun e => by have := HXP.out; omega)
    have HPW4 := Lib.hid (Nat.le_trans HPW.out hkk.size)
    clear hn hkk HN HA HB
    go_wp2_with (fail)
    refine (Nw.copies_ HN4.out (by omega)).mono ?_
    rintro r w5 ⟨L, lc, lw, F, rfl, hcop, hlw, hk5, hF, hn⟩
    have HLW := Lib.hid hlw
    have hlen : lw.length = s1.l.length := by rw [← hlw, List.length_map]
    have hcnt := hn.ok.count
    have HC5 := Lib.hid hcop
    have HN5 := Lib.hid hn
    have HOK1 := Lib.hid hn.ok
    have HA5 := Lib.hid (HA4.out.trans hk5 fun _ _ e => e)
    have HB5 := Lib.hid (HB4.out.kept hk5 id)
    have HF5 := Lib.hid hF
    have HXS := Lib.hid HB4.out.lt
    have x1 : w5.cell? ⟨X, 1, none⟩ = some (.int .i64 x.num) := (HB5.out.cell 1).trans rfl
    have f1 : w5.frozen? ⟨X, 1, none⟩ = false := HB5.out.frozen 1
    clear hlw hcop hn hk5 hF HN4 HA4 HB4
    obtain ⟨b5, hb5⟩ : ∃ b5, w4.heap.size = b5 := ⟨_, rfl⟩
    rw [hb5] at HC5 HF5 HXS HPW4
    clear hb5
    go_upto_region 13 with (fail)
    have hks : Kept (fun k => k = X) w5 (w5.setCell ⟨X, 1, none⟩ (.int .i64 num)) := (Kept.refl (fun k => k = X) _).at 1 _ (.inl rfl)
    have HB6 := Lib.hid (show Box (w5.setCell ⟨X, 1, none⟩ (.int .i64 num)) X 32 #[.int .i64 x.kind, .int .i64 num, .int .i64 x.src, .int .i64 x.dst, .int .i64 x.at_, .slice x.dA x.data.length x.dc] from by simpa [Stn.cs] using HB5.out.set 1 (.int .i64 num))
    have HC6 := Lib.hid (HC5.out.kept hks fun k e _ => by have := HXS.out; omega)
    have HN6 := Lib.hid (HN5.out.kept hks fun k e ek => by
      subst ek
      rcases e with e | e
      · have := (HF5.out _ e).1; have := HXP.out; omega
      · have := HB5.out.lt; omega)
    have HA6 := Lib.hid (HA5.out.trans hks fun k hk e => by have := HWX.out; omega)
    have HS6 := Lib.hid (show (w5.setCell ⟨X, 1, none⟩ (.int .i64 num)).heap.size = w5.heap.size by simp)
    have HX6 := Lib.hid HB5.out.lt
    clear hks HC5 HN5 HA5 HB5 x1 f1
    generalize w5.setCell ⟨X, 1, none⟩ (.int .i64 num) = w6 at HB6 HC6 HN6 HA6 HS6 ⊢
    have x0 : w6.cell? ⟨X, 0, none⟩ = some (.int .i64 x.kind) := (HB6.out.cell 0).trans rfl
    have f0 : w6.frozen? ⟨X, 0, none⟩ = false := HB6.out.frozen 0
    have hcase : x.kind = 1 ∨ (x.kind ≠ 1 ∧ x.kind = 4) ∨ (x.kind ≠ 1 ∧ x.kind ≠ 4) := by omega
    rcases hcase with h1 | ⟨h1, h4⟩ | ⟨h1, h4⟩
    · have HXN := Lib.hid (show StnOk w (x.on num) from ⟨HXK.out.b, HXK.out.by_, HXK.out.none, HXK.out.len, HNUM.out, HXK.out.at_⟩)
      have b1 : (x.kind == 1) = true := beq_iff_eq.2 h1
      have HON := Lib.hid (show (x.on num).cs = #[.int .i64 5, .int .i64 num, .int .i64 x.src, .int .i64 x.dst, .int .i64 x.at_, .slice x.dA x.data.length x.dc] by simp [Stn.cs, Stn.on, h1])
      clear h1
      go_upto_region 15 with (fail)
      have hks : Kept (fun k => k = X) w6 (w6.setCell ⟨X, 0, none⟩ (.int .i64 5)) := (Kept.refl (fun k => k = X) _).at 0 _ (.inl rfl)
      have HB7 := Lib.hid (show Box (w6.setCell ⟨X, 0, none⟩ (.int .i64 5)) X 32 (x.on num).cs from by rw [HON.out]; simpa using HB6.out.set 0 (.int .i64 5))
      have HC7 := Lib.hid (HC6.out.kept hks fun k e _ => by have := HXS.out; omega)
      have HN7 := Lib.hid (HN6.out.kept hks fun k e ek => by
        subst ek
        rcases e with e | e
        · have := (HF5.out _ e).1; have := HXP.out; omega
        · have := HX6.out; omega)
      have HA7 := Lib.hid (HA6.out.trans hks fun k hk e => by have := HWX.out; omega)
      have HS7 := Lib.hid (show (w6.setCell ⟨X, 0, none⟩ (.int .i64 5)).heap.size = w5.heap.size by simp [HS6.out])
      clear hks HC6 HN6 HA6 HB6 x0 f0 HS6 HON
      generalize w6.setCell ⟨X, 0, none⟩ (.int .i64 5) = w7 at HB7 HC7 HN7 HA7 HS7 ⊢
      go_wp2_with (refine load_stn_box rfl _ rfl X rfl (x.on num) _ HB7.out ?_)
      refine (Nw.do_ HN7.out (fun j e => .inr (by have := HS7.out; omega)) (by omega) (HXN.out.fresh HA7.out)).mono ?_
      rintro r w8 ⟨rfl, hn, hkk⟩
      have HN8 := Lib.hid hn
      have HC8 := Lib.hid (HC7.out.kept hkk fun k e1 e2 e3 => by
        rcases e3 with e3 | e3
        · have := (HF5.out _ e3).2; omega
        · have := HS7.out; omega)
      have HA8 := Lib.hid (HA7.out.trans hkk fun k hk e => by
        rcases e with e | e
        · have := (HF5.out _ e).1; have := HXP.out; have := HWX.out; omega
        · have := HX6.out; have := HWX.out; omega)
      have HAL := Lib.hid (s1.step_al (x.on num) (x.on_kind num).1 (x.on_kind num).2)
      rw [show (x.on num).num = num from rfl] at HAL
      have hl2 : (s1.step (x.on num)).2.last ≤ 202 := Nat.le_trans (s1.step_last _) (by omega)
      obtain ⟨s2, hs2⟩ : ∃ s2, (s1.step (x.on num)).2 = s2 := ⟨_, rfl⟩
      rw [hs2] at HN8 HAL hl2 HDG
      clear hn hkk HC7 HN7 HA7 HB7 hs2
      go_wp2_with (fail)
      refine (Nw.copies_ HN8.out (by omega)).mono ?_
      rintro r w9 ⟨M, mc, ln, F2, rfl, hcop, hln, hk9, hf9, hn⟩
      have HF9 := Lib.hid hf9
      have HS9 := Lib.hid hk9.size
      have HLN := Lib.hid hln
      have hlenn : ln.length = s2.l.length := by rw [← hln, List.length_map]
      have hcnt2 := hn.ok.count
      have HD9 := Lib.hid (CcsAt.of hcop fun y hy => by
        have := (hn.ok.len y.c (by rw [← hln]; exact List.mem_map_of_mem hy)).2
        omega)
      have HC9 := Lib.hid (CcsAt.of (HC8.out.fresh hk9) fun y hy => by
        have := (HOK1.out.len y.c (by rw [← HLW.out]; exact List.mem_map_of_mem hy)).2
        omega)
      have HN9 := Lib.hid hn
      have HA9 := Lib.hid (HA8.out.trans hk9 fun _ _ e => e)
      have HA8S := Lib.hid HA8.out.size
      clear hln hcop hn hk9 hf9 HN8 HA8 HC8
      go_wp2_with (fail)
      go_loopw [13, 14] (fun kk ii wr => ∃ (i k : Nat), kk = .int .i64 k ∧ ii = .int .i64 i ∧ i ≤ lw.length ∧ k ≤ ln.length ∧ Al num (s1.l.drop i) (s2.l.drop k) ∧ Kept (fun _ => False) w9 wr) (fun _ ii _ => lw.length - (intOf ii).toNat)
      case atStart => exact ⟨0, 0, rfl, rfl, Nat.zero_le _, Nat.zero_le _, HAL.out, Kept.refl _ _⟩
      case round =>
        obtain ⟨i, k, rfl, rfl, hi, hk, hal, hkk⟩ := hrel
        have HAT := Lib.hid hal
        have HC := Lib.hid (HC9.out.fresh hkk)
        have HD := Lib.hid (HD9.out.fresh hkk)
        have HK := Lib.hid hkk
        clear hal hkk HAL
        by_cases hlt : i < lw.length
        · have hls : i < s1.l.length := by omega
          obtain ⟨g, e1, -, hcell, -⟩ := own_cells HC.out.row (by omega)
          subst e1
          have hlwi : lw[i].c = s1.l[i] := by
            have := congrArg (fun l : List Cp => l[i]?) HLW.out
            simpa [hlt, hls] using this
          have y0 : wr.cell? ⟨g, i * 6, none⟩ = some (.int .i64 (s1.l[i].num : Int)) := hcell (i * 6) _ (by have := ccs_get lw i hlt 0 (by omega); rw [Nat.add_zero] at this; rw [this, ← hlwi]; rfl)
          clear hcell
          have hal := HAT.out
          rw [drop_cons hls] at hal
          generalize hcd : s1.l[i] = cd at hal y0 hlwi
          generalize hm : s2.l.drop k = m at hal
          have HM := Lib.hid hm
          have hkn : k < ln.length ∨ (k = ln.length ∧ m = []) := by
            by_cases hk2 : k < ln.length
            · exact .inl hk2
            · refine .inr ⟨by omega, ?_⟩
              rw [← hm]
              exact List.drop_eq_nil_of_le (by omega)
          clear hm hcd
          cases hal with
          | other hne hr =>
            rename_i m'
            have hk2 : k < ln.length := by
              rcases hkn with h | ⟨h, h'⟩
              · exact h
              · cases h'
            have hks : k < s2.l.length := by omega
            have hmm := HM.out
            rw [drop_cons hks] at hmm
            injection hmm with hm1 hm2
            have hlnk : ln[k].c = s2.l[k] := by
              have := congrArg (fun l : List Cp => l[k]?) HLN.out
              simpa [hk2, hks] using this
            have HR := Lib.hid (show Al num (s1.l.drop (i + 1)) (s2.l.drop (k + 1)) by rw [hm2]; exact hr)
            obtain ⟨g', e1', -, -, -⟩ := own_cells HD.out.row (by omega)
            subst e1'
            have hbe : ((cd.num : Int) == num) = false := beq_eq_false_iff_ne.mpr hne
            have hsame : ln[k].c.same lw[i].c := by rw [hlnk, hm1, hlwi]; exact Cp.same_refl _
            have HSAME := Lib.hid (fun W (hW : Kept (fun _ => False) wr W) => Same20_any ln[k].c lw[i].c ln[k].A lw[i].A ln[k].cap lw[i].cap W (BytesAt.of_own ((HD.out.fresh hW).d _ (List.getElem_mem hk2))) (BytesAt.of_own ((HC.out.fresh hW).d _ (List.getElem_mem hlt))) (HD.out.len _ (List.getElem_mem hk2)))
            have HRY := Lib.hid (fun W (hW : Kept (fun _ => False) wr W) => (HC.out.fresh hW).row)
            have HRZ := Lib.hid (fun W (hW : Kept (fun _ => False) wr W) => (HD.out.fresh hW).row)
            have HSM := Lib.hid hsame
            obtain ⟨cs, hcs⟩ : ∃ cs, cpC lw[i].c lw[i].A lw[i].cap = cs := ⟨_, rfl⟩
            obtain ⟨ds, hds⟩ : ∃ ds, cpC ln[k].c ln[k].A ln[k].cap = ds := ⟨_, rfl⟩
            have HXC := Lib.hid (show lw[i].cs = cs from hcs)
            have HYC := Lib.hid (show ln[k].cs = ds from hds)
            rw [hcs, hds] at HSAME
            have hi0 : (0 : Int) ≤ (i : Int) := by omega
            have hin : (i : Int) < (lw.length : Int) := by omega
            have hk0 : (0 : Int) ≤ (k : Int) := by omega
            have hkl : (k : Int) < (ln.length : Int) := by omega
            have hge : ¬ ((ln.length : Int) ≤ (k : Int)) := by omega
            clear hcs hds hne hr hm1 hm2 hlnk hsame hlwi hkn HM HAT HC HD
            go_upto_region 24 with (fail)
            clear y0
            as_aux_lemma =>
              refine wp_region_held_drew (S := fun W => Kept (fun _ => False) wr W) (by kernel_rfl) (Kept.refl (fun _ => False) wr).drew fun hS => ?_
              generalize World.drew _ = w10 at hS ⊢
              refine held_takeTo 93 (i := 0) (v := .int .i64 k) rfl rfl (by kernel_rfl) (by kernel_rfl) (by kernel_rfl) (fun _ _ _ h => h) rfl hS (fun W hW => by go_simp) ?_
              simp only [List.setIfInBounds_toArray, List.set_cons_zero, List.set_cons_succ]
              refine held_takeTo 94 (i := 1) (v := .slice (some ⟨g', 0, none⟩) ln.length mc) rfl rfl (by kernel_rfl) (by kernel_rfl) (by kernel_rfl) (fun _ _ _ h => h) rfl hS (fun W hW => by go_simp) ?_
              simp only [List.setIfInBounds_toArray, List.set_cons_zero, List.set_cons_succ]
              refine held_takeTo 95 (i := 2) (v := .int .i64 ln.length) rfl rfl (by kernel_rfl) (by kernel_rfl) (by kernel_rfl) (fun _ _ _ h => h) rfl hS (fun W hW => by go_simp) ?_
              simp only [List.setIfInBounds_toArray, List.set_cons_zero, List.set_cons_succ]
              refine held_takeTo 96 (i := 3) (v := .bool false) rfl rfl (by kernel_rfl) (by kernel_rfl) (by kernel_rfl) (fun _ _ _ h => h) rfl hS (fun W hW => by go_simp) ?_
              simp only [List.setIfInBounds_toArray, List.set_cons_zero, List.set_cons_succ]
              refine held_takeTo 97 (i := 4) (v := .bool false) rfl rfl (by kernel_rfl) (by kernel_rfl) (by kernel_rfl) (fun _ _ _ h => h) rfl hS (fun W hW => by go_simp) ?_
              simp only [List.setIfInBounds_toArray, List.set_cons_zero, List.set_cons_succ]
              refine held_takeG 98 (i := 5) (v := .slice (some ⟨g', 0, none⟩) ln.length mc) rfl rfl (by kernel_rfl) (by kernel_rfl) (by kernel_rfl) (fun _ _ _ h => h) (by rfl) hS (fun W hW => by go_simp) ?_
              simp only [List.setIfInBounds_toArray, List.set_cons_zero, List.set_cons_succ]
              refine held_takeG 99 (i := 6) (v := .int .i64 k) rfl rfl (by kernel_rfl) (by kernel_rfl) (by kernel_rfl) (fun _ _ _ h => h) (by rfl) hS (fun W hW => by go_simp) ?_
              simp only [List.setIfInBounds_toArray, List.set_cons_zero, List.set_cons_succ]
              refine held_takeG 100 (i := 7) (v := .pointer (some ⟨g', k * 6, none⟩)) rfl rfl (by kernel_rfl) (by kernel_rfl) (by kernel_rfl) (fun _ _ _ h => h) (by rfl) hS (fun W hW => by go_simp) ?_
              simp only [List.setIfInBounds_toArray, List.set_cons_zero, List.set_cons_succ]
              refine held_takeG 101 (i := 8) (v := .agg ds) rfl rfl (by kernel_rfl) (by kernel_rfl) (by kernel_rfl) (fun _ _ _ h => h) (by rfl) hS (fun W hW => run_load_cc _ _ rfl g' k rfl ln (HRZ.out W hW) hk2 ds HYC.out) ?_
              simp only [List.setIfInBounds_toArray, List.set_cons_zero, List.set_cons_succ]
              refine held_takeG 102 (i := 9) (v := .slice (some ⟨g, 0, none⟩) lw.length lc) rfl rfl (by kernel_rfl) (by kernel_rfl) (by kernel_rfl) (fun _ _ _ h => h) (by rfl) hS (fun W hW => by go_simp) ?_
              simp only [List.setIfInBounds_toArray, List.set_cons_zero, List.set_cons_succ]
              refine held_takeG 103 (i := 10) (v := .int .i64 i) rfl rfl (by kernel_rfl) (by kernel_rfl) (by kernel_rfl) (fun _ _ _ h => h) (by rfl) hS (fun W hW => by go_simp) ?_
              simp only [List.setIfInBounds_toArray, List.set_cons_zero, List.set_cons_succ]
              refine held_takeG 104 (i := 11) (v := .pointer (some ⟨g, i * 6, none⟩)) rfl rfl (by kernel_rfl) (by kernel_rfl) (by kernel_rfl) (fun _ _ _ h => h) (by rfl) hS (fun W hW => by go_simp) ?_
              simp only [List.setIfInBounds_toArray, List.set_cons_zero, List.set_cons_succ]
              refine held_takeG 105 (i := 12) (v := .agg cs) rfl rfl (by kernel_rfl) (by kernel_rfl) (by kernel_rfl) (fun _ _ _ h => h) (by rfl) hS (fun W hW => run_load_cc _ _ rfl g i rfl lw (HRY.out W hW) hlt cs HXC.out) ?_
              simp only [List.setIfInBounds_toArray, List.set_cons_zero, List.set_cons_succ]
              refine held_one (i := 13) (by kernel_rfl) rfl fun K hK => ?_
              go_wp2_with (fail)
              refine (HSAME.out w10 hS).mono ?_
              rintro e w11 ⟨bb, rfl, hbb, hk7⟩
              have hS7 := hS.trans hk7 fun _ _ e => e
              obtain rfl : bb = true := hbb.2 HSM.out
              clear hk7 hbb
              go_wp2_with (fail)
              refine hK.out _ _ hS7 fun _ => ?_
              clear hK K
              refine held_takeG 107 (i := 14) (v := .bool false) rfl rfl (by kernel_rfl) (by kernel_rfl) (by kernel_rfl) (fun _ _ _ h => h) (by rfl) hS7 (fun W hW => by go_simp) ?_
              simp only [List.setIfInBounds_toArray, List.set_cons_zero, List.set_cons_succ]
              refine held_takeTo 108 (i := 15) (v := .bool false) rfl rfl (by kernel_rfl) (by kernel_rfl) (by kernel_rfl) (fun _ _ _ h => h) rfl hS7 (fun W hW => by go_simp) ?_
              simp only [List.setIfInBounds_toArray, List.set_cons_zero, List.set_cons_succ]
              refine wpAnyH_done (by kernel_rfl) ?_ _
              have HS7' := Lib.hid (HK.out.trans hS7 fun _ _ e => e)
              clear hS7 hS
              go_wp2_with (fail)
              go_roundw
              case rel => exact ⟨i + 1, k + 1, by go_num, by go_num, by omega, by omega, HR.out, HS7'.out⟩
              case measure => simp [intOf]; omega
          | kept he hd hr =>
            rename_i d m'
            as_aux_lemma =>
            have hk2 : k < ln.length := by
              rcases hkn with h | ⟨h, h'⟩
              · exact h
              · cases h'
            have hks : k < s2.l.length := by omega
            have hmm := HM.out
            rw [drop_cons hks] at hmm
            injection hmm with hm1 hm2
            have hlnk : ln[k].c = s2.l[k] := by
              have := congrArg (fun l : List Cp => l[k]?) HLN.out
              simpa [hk2, hks] using this
            have HR := Lib.hid (show Al num (s1.l.drop (i + 1)) (s2.l.drop (k + 1)) by rw [hm2]; exact hr)
            obtain ⟨g', e1', -, hcell', -⟩ := own_cells HD.out.row (by omega)
            subst e1'
            have z0 : wr.cell? ⟨g', k * 6, none⟩ = some (.int .i64 (d.num : Int)) := hcell' (k * 6) _ (by have := ccs_get ln k hk2 0 (by omega); rw [Nat.add_zero] at this; rw [this, ← hm1, ← hlnk]; rfl)
            have hbe : ((cd.num : Int) == num) = true := beq_iff_eq.2 he
            have hbd : ((d.num : Int) == num) = true := beq_iff_eq.2 hd
            have hi0 : (0 : Int) ≤ (i : Int) := by omega
            have hin : (i : Int) < (lw.length : Int) := by omega
            have hk0 : (0 : Int) ≤ (k : Int) := by omega
            have hkl : (k : Int) < (ln.length : Int) := by omega
            clear he hd hr hm1 hm2 hlnk hlwi hkn HM HAT HC HD hcell'
            go_wp2_with (fail)
            go_roundw
            case rel => exact ⟨i + 1, k + 1, by go_num, by go_num, by omega, by omega, HR.out, HK.out⟩
            case measure => simp [intOf]; omega
          | gone he hd hr =>
            have HR := Lib.hid (show Al num (s1.l.drop (i + 1)) (s2.l.drop k) by rw [HM.out]; exact hr)
            have hbe : ((cd.num : Int) == num) = true := beq_iff_eq.2 he
            have hi0 : (0 : Int) ≤ (i : Int) := by omega
            have hin : (i : Int) < (lw.length : Int) := by omega
            by_cases hk2 : k < ln.length
            · as_aux_lemma =>
              have hks : k < s2.l.length := by omega
              have hlnk : ln[k].c = s2.l[k] := by
                have := congrArg (fun l : List Cp => l[k]?) HLN.out
                simpa [hk2, hks] using this
              have hdn : ¬ (ln[k].c.num : Int) = num := hd _ (by rw [hlnk, ← HM.out, drop_cons hks]; exact List.mem_cons_self ..)
              obtain ⟨g', e1', -, hcell', -⟩ := own_cells HD.out.row (by omega)
              subst e1'
              have z0 : wr.cell? ⟨g', k * 6, none⟩ = some (.int .i64 (ln[k].c.num : Int)) := hcell' (k * 6) _ (by have := ccs_get ln k hk2 0 (by omega); rw [Nat.add_zero] at this; rw [this]; rfl)
              generalize ln[k].c.num = dn at z0 hdn
              have hbd : ((dn : Int) == num) = false := beq_eq_false_iff_ne.mpr hdn
              have hk0 : (0 : Int) ≤ (k : Int) := by omega
              have hkl : (k : Int) < (ln.length : Int) := by omega
              clear he hd hr hlnk hlwi hkn HM HAT HC HD hcell' hdn
              go_wp2_with (fail)
              go_roundw
              case rel => exact ⟨i + 1, k, by go_num, by go_num, by omega, by omega, HR.out, HK.out⟩
              case measure => simp [intOf]; omega
            · as_aux_lemma =>
              have hkl : ¬ (k : Int) < (ln.length : Int) := by omega
              clear he hd hr hlwi hkn HM HAT HC HD
              go_wp2_with (fail)
              go_roundw
              case rel => exact ⟨i + 1, k, by go_num, by go_num, by omega, by omega, HR.out, HK.out⟩
              case measure => simp [intOf]; omega
        · obtain rfl : i = lw.length := by omega
          have hal := HAT.out
          rw [hlen, List.drop_length] at hal
          have hkl : k = ln.length := by
            by_cases hk2 : k < ln.length
            · have hks : k < s2.l.length := by omega
              rw [drop_cons hks] at hal
              cases hal
            · omega
          subst hkl
          have HAZ := Lib.hid (HA9.out.trans HK.out fun _ _ e => e)
          have HNZ := Lib.hid (HN9.out.fresh HK.out)
          clear hal HAT HC HD HN9 HA9 HK HC9 HD9
          by_cases he : e = 0
          case' neg =>
            as_aux_lemma =>
            have hv0 : (v : Int) = 0 := HDN.out he
            have hbe : (e != 0) = true := by simp [he]
            have hbv : ((v : Int) == 0) = true := by simp [hv0]
            clear hv0
            have HE := Lib.hid he
            clear he
            go_wp2_with (fail)
            refine (Known20_any wr).mono ?_
            rintro r wz ⟨rfl, hk⟩
            have HKZ := Lib.hid (HAZ.out.trans hk fun _ _ e => e)
            clear hk
            go_wp2_with (fail)
            go_ret
            exact ⟨rfl, HKZ.out⟩
          subst he
          obtain ⟨cv, hcv, hbad⟩ := HDG.out rfl
          have hdl := Nw.deliver_ (n := (v : Int)) HNZ.out hwv
          obtain ⟨z3, hz3⟩ : ∃ z3, s2.deliver (v : Int) = z3 := ⟨_, rfl⟩
          rw [hz3] at hdl hcv
          obtain ⟨⟨cv', ev'⟩, s3⟩ := z3
          simp only at hdl hcv
          injection hcv with hcv1 hcv2
          subst hcv1 hcv2
          clear hz3
          go_wp2_with (fail)
          refine hdl.mono ?_
          clear hdl
          rintro r wd ⟨A9, cap9, rfl, -, -, hk⟩
          have HAD := Lib.hid (HAZ.out.trans hk fun k hk e => by
            rcases e with e | e
            · rcases (HF9.out _ e).1 with e | e
              · have := (HF5.out _ e).1; have := HXP.out; have := HWX.out; omega
              · have := HX6.out; have := HWX.out; omega
            · have := HA8S.out; have := HS9.out; omega)
          have HBX := Lib.hid (Box.new wd 44 (cpC zeroCp none 0))
          have hka : Kept (fun _ => False) wd (wd.alloc (.cells (cpC zeroCp none 0) 44)) := (Kept.refl _ _).alloc _
          have HKA := Lib.hid hka
          clear hka hk HNZ HAZ
          go_wp2_with (refine wpList_store_box rfl 44 (.tmp 15) _ rfl wd.heap.size (cpC cv' A9 cap9) rfl rfl 44 (cpC zeroCp none 0) HBX.out (size_cp.trans rfl) rfl (cpC_one _ _ _) ?_; intro we HX9 hk9; refine Hid.out ?_)
          refine Lib.hid ?_
          have HKF := Lib.hid (HAD.out.trans (HKA.out.trans hk9 fun k hk e => by omega) fun _ _ e => e)
          have z5 : we.cell? ⟨wd.heap.size, 5, none⟩ = some (.bool false) := (HX9.out.cell 5).trans (by rw [← hbad]; rfl)
          clear hk9 HKA HBX HX9 HAD
          go_wp2_with (fail)
          refine (Known20_any we).mono ?_
          rintro r wz ⟨rfl, hk⟩
          have HKZ := Lib.hid (HKF.out.trans hk fun _ _ e => e)
          clear hk
          go_wp2_with (fail)
          go_ret
          exact ⟨rfl, HKZ.out⟩
    · have HXN := Lib.hid (show StnOk w (x.on num) from ⟨HXK.out.b, HXK.out.by_, HXK.out.none, HXK.out.len, HNUM.out, HXK.out.at_⟩)
      have b1 : (x.kind == 1) = false := beq_eq_false_iff_ne.mpr h1
      have b4 : (x.kind == 4) = true := beq_iff_eq.2 h4
      have HON := Lib.hid (show (x.on num).cs = #[.int .i64 5, .int .i64 num, .int .i64 x.src, .int .i64 x.dst, .int .i64 x.at_, .slice x.dA x.data.length x.dc] by simp [Stn.cs, Stn.on, h4])
      clear h1 h4
      go_upto_region 15 with (fail)
      have hks : Kept (fun k => k = X) w6 (w6.setCell ⟨X, 0, none⟩ (.int .i64 5)) := (Kept.refl (fun k => k = X) _).at 0 _ (.inl rfl)
      have HB7 := Lib.hid (show Box (w6.setCell ⟨X, 0, none⟩ (.int .i64 5)) X 32 (x.on num).cs from by rw [HON.out]; simpa using HB6.out.set 0 (.int .i64 5))
      have HC7 := Lib.hid (HC6.out.kept hks fun k e _ => by have := HXS.out; omega)
      have HN7 := Lib.hid (HN6.out.kept hks fun k e ek => by
        subst ek
        rcases e with e | e
        · have := (HF5.out _ e).1; have := HXP.out; omega
        · have := HX6.out; omega)
      have HA7 := Lib.hid (HA6.out.trans hks fun k hk e => by have := HWX.out; omega)
      have HS7 := Lib.hid (show (w6.setCell ⟨X, 0, none⟩ (.int .i64 5)).heap.size = w5.heap.size by simp [HS6.out])
      clear hks HC6 HN6 HA6 HB6 x0 f0 HS6 HON
      generalize w6.setCell ⟨X, 0, none⟩ (.int .i64 5) = w7 at HB7 HC7 HN7 HA7 HS7 ⊢
      go_wp2_with (refine load_stn_box rfl _ rfl X rfl (x.on num) _ HB7.out ?_)
      refine (Nw.do_ HN7.out (fun j e => .inr (by have := HS7.out; omega)) (by omega) (HXN.out.fresh HA7.out)).mono ?_
      rintro r w8 ⟨rfl, hn, hkk⟩
      have HN8 := Lib.hid hn
      have HC8 := Lib.hid (HC7.out.kept hkk fun k e1 e2 e3 => by
        rcases e3 with e3 | e3
        · have := (HF5.out _ e3).2; omega
        · have := HS7.out; omega)
      have HA8 := Lib.hid (HA7.out.trans hkk fun k hk e => by
        rcases e with e | e
        · have := (HF5.out _ e).1; have := HXP.out; have := HWX.out; omega
        · have := HX6.out; have := HWX.out; omega)
      have HAL := Lib.hid (s1.step_al (x.on num) (x.on_kind num).1 (x.on_kind num).2)
      rw [show (x.on num).num = num from rfl] at HAL
      have hl2 : (s1.step (x.on num)).2.last ≤ 202 := Nat.le_trans (s1.step_last _) (by omega)
      obtain ⟨s2, hs2⟩ : ∃ s2, (s1.step (x.on num)).2 = s2 := ⟨_, rfl⟩
      rw [hs2] at HN8 HAL hl2 HDG
      clear hn hkk HC7 HN7 HA7 HB7 hs2
      go_wp2_with (fail)
      refine (Nw.copies_ HN8.out (by omega)).mono ?_
      rintro r w9 ⟨M, mc, ln, F2, rfl, hcop, hln, hk9, hf9, hn⟩
      have HF9 := Lib.hid hf9
      have HS9 := Lib.hid hk9.size
      have HLN := Lib.hid hln
      have hlenn : ln.length = s2.l.length := by rw [← hln, List.length_map]
      have hcnt2 := hn.ok.count
      have HD9 := Lib.hid (CcsAt.of hcop fun y hy => by
        have := (hn.ok.len y.c (by rw [← hln]; exact List.mem_map_of_mem hy)).2
        omega)
      have HC9 := Lib.hid (CcsAt.of (HC8.out.fresh hk9) fun y hy => by
        have := (HOK1.out.len y.c (by rw [← HLW.out]; exact List.mem_map_of_mem hy)).2
        omega)
      have HN9 := Lib.hid hn
      have HA9 := Lib.hid (HA8.out.trans hk9 fun _ _ e => e)
      have HA8S := Lib.hid HA8.out.size
      clear hln hcop hn hk9 hf9 HN8 HA8 HC8
      go_wp2_with (fail)
      go_loopw [13, 14] (fun kk ii wr => ∃ (i k : Nat), kk = .int .i64 k ∧ ii = .int .i64 i ∧ i ≤ lw.length ∧ k ≤ ln.length ∧ Al num (s1.l.drop i) (s2.l.drop k) ∧ Kept (fun _ => False) w9 wr) (fun _ ii _ => lw.length - (intOf ii).toNat)
      case atStart => exact ⟨0, 0, rfl, rfl, Nat.zero_le _, Nat.zero_le _, HAL.out, Kept.refl _ _⟩
      case round =>
        obtain ⟨i, k, rfl, rfl, hi, hk, hal, hkk⟩ := hrel
        have HAT := Lib.hid hal
        have HC := Lib.hid (HC9.out.fresh hkk)
        have HD := Lib.hid (HD9.out.fresh hkk)
        have HK := Lib.hid hkk
        clear hal hkk HAL
        by_cases hlt : i < lw.length
        · have hls : i < s1.l.length := by omega
          obtain ⟨g, e1, -, hcell, -⟩ := own_cells HC.out.row (by omega)
          subst e1
          have hlwi : lw[i].c = s1.l[i] := by
            have := congrArg (fun l : List Cp => l[i]?) HLW.out
            simpa [hlt, hls] using this
          have y0 : wr.cell? ⟨g, i * 6, none⟩ = some (.int .i64 (s1.l[i].num : Int)) := hcell (i * 6) _ (by have := ccs_get lw i hlt 0 (by omega); rw [Nat.add_zero] at this; rw [this, ← hlwi]; rfl)
          clear hcell
          have hal := HAT.out
          rw [drop_cons hls] at hal
          generalize hcd : s1.l[i] = cd at hal y0 hlwi
          generalize hm : s2.l.drop k = m at hal
          have HM := Lib.hid hm
          have hkn : k < ln.length ∨ (k = ln.length ∧ m = []) := by
            by_cases hk2 : k < ln.length
            · exact .inl hk2
            · refine .inr ⟨by omega, ?_⟩
              rw [← hm]
              exact List.drop_eq_nil_of_le (by omega)
          clear hm hcd
          cases hal with
          | other hne hr =>
            rename_i m'
            have hk2 : k < ln.length := by
              rcases hkn with h | ⟨h, h'⟩
              · exact h
              · cases h'
            have hks : k < s2.l.length := by omega
            have hmm := HM.out
            rw [drop_cons hks] at hmm
            injection hmm with hm1 hm2
            have hlnk : ln[k].c = s2.l[k] := by
              have := congrArg (fun l : List Cp => l[k]?) HLN.out
              simpa [hk2, hks] using this
            have HR := Lib.hid (show Al num (s1.l.drop (i + 1)) (s2.l.drop (k + 1)) by rw [hm2]; exact hr)
            obtain ⟨g', e1', -, -, -⟩ := own_cells HD.out.row (by omega)
            subst e1'
            have hbe : ((cd.num : Int) == num) = false := beq_eq_false_iff_ne.mpr hne
            have hsame : ln[k].c.same lw[i].c := by rw [hlnk, hm1, hlwi]; exact Cp.same_refl _
            have HSAME := Lib.hid (fun W (hW : Kept (fun _ => False) wr W) => Same20_any ln[k].c lw[i].c ln[k].A lw[i].A ln[k].cap lw[i].cap W (BytesAt.of_own ((HD.out.fresh hW).d _ (List.getElem_mem hk2))) (BytesAt.of_own ((HC.out.fresh hW).d _ (List.getElem_mem hlt))) (HD.out.len _ (List.getElem_mem hk2)))
            have HRY := Lib.hid (fun W (hW : Kept (fun _ => False) wr W) => (HC.out.fresh hW).row)
            have HRZ := Lib.hid (fun W (hW : Kept (fun _ => False) wr W) => (HD.out.fresh hW).row)
            have HSM := Lib.hid hsame
            obtain ⟨cs, hcs⟩ : ∃ cs, cpC lw[i].c lw[i].A lw[i].cap = cs := ⟨_, rfl⟩
            obtain ⟨ds, hds⟩ : ∃ ds, cpC ln[k].c ln[k].A ln[k].cap = ds := ⟨_, rfl⟩
            have HXC := Lib.hid (show lw[i].cs = cs from hcs)
            have HYC := Lib.hid (show ln[k].cs = ds from hds)
            rw [hcs, hds] at HSAME
            have hi0 : (0 : Int) ≤ (i : Int) := by omega
            have hin : (i : Int) < (lw.length : Int) := by omega
            have hk0 : (0 : Int) ≤ (k : Int) := by omega
            have hkl : (k : Int) < (ln.length : Int) := by omega
            have hge : ¬ ((ln.length : Int) ≤ (k : Int)) := by omega
            clear hcs hds hne hr hm1 hm2 hlnk hsame hlwi hkn HM HAT HC HD
            go_upto_region 24 with (fail)
            clear y0
            as_aux_lemma =>
              refine wp_region_held_drew (S := fun W => Kept (fun _ => False) wr W) (by kernel_rfl) (Kept.refl (fun _ => False) wr).drew fun hS => ?_
              generalize World.drew _ = w10 at hS ⊢
              refine held_takeTo 93 (i := 0) (v := .int .i64 k) rfl rfl (by kernel_rfl) (by kernel_rfl) (by kernel_rfl) (fun _ _ _ h => h) rfl hS (fun W hW => by go_simp) ?_
              simp only [List.setIfInBounds_toArray, List.set_cons_zero, List.set_cons_succ]
              refine held_takeTo 94 (i := 1) (v := .slice (some ⟨g', 0, none⟩) ln.length mc) rfl rfl (by kernel_rfl) (by kernel_rfl) (by kernel_rfl) (fun _ _ _ h => h) rfl hS (fun W hW => by go_simp) ?_
              simp only [List.setIfInBounds_toArray, List.set_cons_zero, List.set_cons_succ]
              refine held_takeTo 95 (i := 2) (v := .int .i64 ln.length) rfl rfl (by kernel_rfl) (by kernel_rfl) (by kernel_rfl) (fun _ _ _ h => h) rfl hS (fun W hW => by go_simp) ?_
              simp only [List.setIfInBounds_toArray, List.set_cons_zero, List.set_cons_succ]
              refine held_takeTo 96 (i := 3) (v := .bool false) rfl rfl (by kernel_rfl) (by kernel_rfl) (by kernel_rfl) (fun _ _ _ h => h) rfl hS (fun W hW => by go_simp) ?_
              simp only [List.setIfInBounds_toArray, List.set_cons_zero, List.set_cons_succ]
              refine held_takeTo 97 (i := 4) (v := .bool false) rfl rfl (by kernel_rfl) (by kernel_rfl) (by kernel_rfl) (fun _ _ _ h => h) rfl hS (fun W hW => by go_simp) ?_
              simp only [List.setIfInBounds_toArray, List.set_cons_zero, List.set_cons_succ]
              refine held_takeG 98 (i := 5) (v := .slice (some ⟨g', 0, none⟩) ln.length mc) rfl rfl (by kernel_rfl) (by kernel_rfl) (by kernel_rfl) (fun _ _ _ h => h) (by rfl) hS (fun W hW => by go_simp) ?_
              simp only [List.setIfInBounds_toArray, List.set_cons_zero, List.set_cons_succ]
              refine held_takeG 99 (i := 6) (v := .int .i64 k) rfl rfl (by kernel_rfl) (by kernel_rfl) (by kernel_rfl) (fun _ _ _ h => h) (by rfl) hS (fun W hW => by go_simp) ?_
              simp only [List.setIfInBounds_toArray, List.set_cons_zero, List.set_cons_succ]
              refine held_takeG 100 (i := 7) (v := .pointer (some ⟨g', k * 6, none⟩)) rfl rfl (by kernel_rfl) (by kernel_rfl) (by kernel_rfl) (fun _ _ _ h => h) (by rfl) hS (fun W hW => by go_simp) ?_
              simp only [List.setIfInBounds_toArray, List.set_cons_zero, List.set_cons_succ]
              refine held_takeG 101 (i := 8) (v := .agg ds) rfl rfl (by kernel_rfl) (by kernel_rfl) (by kernel_rfl) (fun _ _ _ h => h) (by rfl) hS (fun W hW => run_load_cc _ _ rfl g' k rfl ln (HRZ.out W hW) hk2 ds HYC.out) ?_
              simp only [List.setIfInBounds_toArray, List.set_cons_zero, List.set_cons_succ]
              refine held_takeG 102 (i := 9) (v := .slice (some ⟨g, 0, none⟩) lw.length lc) rfl rfl (by kernel_rfl) (by kernel_rfl) (by kernel_rfl) (fun _ _ _ h => h) (by rfl) hS (fun W hW => by go_simp) ?_
              simp only [List.setIfInBounds_toArray, List.set_cons_zero, List.set_cons_succ]
              refine held_takeG 103 (i := 10) (v := .int .i64 i) rfl rfl (by kernel_rfl) (by kernel_rfl) (by kernel_rfl) (fun _ _ _ h => h) (by rfl) hS (fun W hW => by go_simp) ?_
              simp only [List.setIfInBounds_toArray, List.set_cons_zero, List.set_cons_succ]
              refine held_takeG 104 (i := 11) (v := .pointer (some ⟨g, i * 6, none⟩)) rfl rfl (by kernel_rfl) (by kernel_rfl) (by kernel_rfl) (fun _ _ _ h => h) (by rfl) hS (fun W hW => by go_simp) ?_
              simp only [List.setIfInBounds_toArray, List.set_cons_zero, List.set_cons_succ]
              refine held_takeG 105 (i := 12) (v := .agg cs) rfl rfl (by kernel_rfl) (by kernel_rfl) (by kernel_rfl) (fun _ _ _ h => h) (by rfl) hS (fun W hW => run_load_cc _ _ rfl g i rfl lw (HRY.out W hW) hlt cs HXC.out) ?_
              simp only [List.setIfInBounds_toArray, List.set_cons_zero, List.set_cons_succ]
              refine held_one (i := 13) (by kernel_rfl) rfl fun K hK => ?_
              go_wp2_with (fail)
              refine (HSAME.out w10 hS).mono ?_
              rintro e w11 ⟨bb, rfl, hbb, hk7⟩
              have hS7 := hS.trans hk7 fun _ _ e => e
              obtain rfl : bb = true := hbb.2 HSM.out
              clear hk7 hbb
              go_wp2_with (fail)
              refine hK.out _ _ hS7 fun _ => ?_
              clear hK K
              refine held_takeG 107 (i := 14) (v := .bool false) rfl rfl (by kernel_rfl) (by kernel_rfl) (by kernel_rfl) (fun _ _ _ h => h) (by rfl) hS7 (fun W hW => by go_simp) ?_
              simp only [List.setIfInBounds_toArray, List.set_cons_zero, List.set_cons_succ]
              refine held_takeTo 108 (i := 15) (v := .bool false) rfl rfl (by kernel_rfl) (by kernel_rfl) (by kernel_rfl) (fun _ _ _ h => h) rfl hS7 (fun W hW => by go_simp) ?_
              simp only [List.setIfInBounds_toArray, List.set_cons_zero, List.set_cons_succ]
              refine wpAnyH_done (by kernel_rfl) ?_ _
              have HS7' := Lib.hid (HK.out.trans hS7 fun _ _ e => e)
              clear hS7 hS
              go_wp2_with (fail)
              go_roundw
              case rel => exact ⟨i + 1, k + 1, by go_num, by go_num, by omega, by omega, HR.out, HS7'.out⟩
              case measure => simp [intOf]; omega
          | kept he hd hr =>
            rename_i d m'
            as_aux_lemma =>
            have hk2 : k < ln.length := by
              rcases hkn with h | ⟨h, h'⟩
              · exact h
              · cases h'
            have hks : k < s2.l.length := by omega
            have hmm := HM.out
            rw [drop_cons hks] at hmm
            injection hmm with hm1 hm2
            have hlnk : ln[k].c = s2.l[k] := by
              have := congrArg (fun l : List Cp => l[k]?) HLN.out
              simpa [hk2, hks] using this
            have HR := Lib.hid (show Al num (s1.l.drop (i + 1)) (s2.l.drop (k + 1)) by rw [hm2]; exact hr)
            obtain ⟨g', e1', -, hcell', -⟩ := own_cells HD.out.row (by omega)
            subst e1'
            have z0 : wr.cell? ⟨g', k * 6, none⟩ = some (.int .i64 (d.num : Int)) := hcell' (k * 6) _ (by have := ccs_get ln k hk2 0 (by omega); rw [Nat.add_zero] at this; rw [this, ← hm1, ← hlnk]; rfl)
            have hbe : ((cd.num : Int) == num) = true := beq_iff_eq.2 he
            have hbd : ((d.num : Int) == num) = true := beq_iff_eq.2 hd
            have hi0 : (0 : Int) ≤ (i : Int) := by omega
            have hin : (i : Int) < (lw.length : Int) := by omega
            have hk0 : (0 : Int) ≤ (k : Int) := by omega
            have hkl : (k : Int) < (ln.length : Int) := by omega
            clear he hd hr hm1 hm2 hlnk hlwi hkn HM HAT HC HD hcell'
            go_wp2_with (fail)
            go_roundw
            case rel => exact ⟨i + 1, k + 1, by go_num, by go_num, by omega, by omega, HR.out, HK.out⟩
            case measure => simp [intOf]; omega
          | gone he hd hr =>
            have HR := Lib.hid (show Al num (s1.l.drop (i + 1)) (s2.l.drop k) by rw [HM.out]; exact hr)
            have hbe : ((cd.num : Int) == num) = true := beq_iff_eq.2 he
            have hi0 : (0 : Int) ≤ (i : Int) := by omega
            have hin : (i : Int) < (lw.length : Int) := by omega
            by_cases hk2 : k < ln.length
            · as_aux_lemma =>
              have hks : k < s2.l.length := by omega
              have hlnk : ln[k].c = s2.l[k] := by
                have := congrArg (fun l : List Cp => l[k]?) HLN.out
                simpa [hk2, hks] using this
              have hdn : ¬ (ln[k].c.num : Int) = num := hd _ (by rw [hlnk, ← HM.out, drop_cons hks]; exact List.mem_cons_self ..)
              obtain ⟨g', e1', -, hcell', -⟩ := own_cells HD.out.row (by omega)
              subst e1'
              have z0 : wr.cell? ⟨g', k * 6, none⟩ = some (.int .i64 (ln[k].c.num : Int)) := hcell' (k * 6) _ (by have := ccs_get ln k hk2 0 (by omega); rw [Nat.add_zero] at this; rw [this]; rfl)
              generalize ln[k].c.num = dn at z0 hdn
              have hbd : ((dn : Int) == num) = false := beq_eq_false_iff_ne.mpr hdn
              have hk0 : (0 : Int) ≤ (k : Int) := by omega
              have hkl : (k : Int) < (ln.length : Int) := by omega
              clear he hd hr hlnk hlwi hkn HM HAT HC HD hcell' hdn
              go_wp2_with (fail)
              go_roundw
              case rel => exact ⟨i + 1, k, by go_num, by go_num, by omega, by omega, HR.out, HK.out⟩
              case measure => simp [intOf]; omega
            · as_aux_lemma =>
              have hkl : ¬ (k : Int) < (ln.length : Int) := by omega
              clear he hd hr hlwi hkn HM HAT HC HD
              go_wp2_with (fail)
              go_roundw
              case rel => exact ⟨i + 1, k, by go_num, by go_num, by omega, by omega, HR.out, HK.out⟩
              case measure => simp [intOf]; omega
        · obtain rfl : i = lw.length := by omega
          have hal := HAT.out
          rw [hlen, List.drop_length] at hal
          have hkl : k = ln.length := by
            by_cases hk2 : k < ln.length
            · have hks : k < s2.l.length := by omega
              rw [drop_cons hks] at hal
              cases hal
            · omega
          subst hkl
          have HAZ := Lib.hid (HA9.out.trans HK.out fun _ _ e => e)
          have HNZ := Lib.hid (HN9.out.fresh HK.out)
          clear hal HAT HC HD HN9 HA9 HK HC9 HD9
          by_cases he : e = 0
          case' neg =>
            as_aux_lemma =>
            have hv0 : (v : Int) = 0 := HDN.out he
            have hbe : (e != 0) = true := by simp [he]
            have hbv : ((v : Int) == 0) = true := by simp [hv0]
            clear hv0
            have HE := Lib.hid he
            clear he
            go_wp2_with (fail)
            refine (Known20_any wr).mono ?_
            rintro r wz ⟨rfl, hk⟩
            have HKZ := Lib.hid (HAZ.out.trans hk fun _ _ e => e)
            clear hk
            go_wp2_with (fail)
            go_ret
            exact ⟨rfl, HKZ.out⟩
          subst he
          obtain ⟨cv, hcv, hbad⟩ := HDG.out rfl
          have hdl := Nw.deliver_ (n := (v : Int)) HNZ.out hwv
          obtain ⟨z3, hz3⟩ : ∃ z3, s2.deliver (v : Int) = z3 := ⟨_, rfl⟩
          rw [hz3] at hdl hcv
          obtain ⟨⟨cv', ev'⟩, s3⟩ := z3
          simp only at hdl hcv
          injection hcv with hcv1 hcv2
          subst hcv1 hcv2
          clear hz3
          go_wp2_with (fail)
          refine hdl.mono ?_
          clear hdl
          rintro r wd ⟨A9, cap9, rfl, -, -, hk⟩
          have HAD := Lib.hid (HAZ.out.trans hk fun k hk e => by
            rcases e with e | e
            · rcases (HF9.out _ e).1 with e | e
              · have := (HF5.out _ e).1; have := HXP.out; have := HWX.out; omega
              · have := HX6.out; have := HWX.out; omega
            · have := HA8S.out; have := HS9.out; omega)
          have HBX := Lib.hid (Box.new wd 44 (cpC zeroCp none 0))
          have hka : Kept (fun _ => False) wd (wd.alloc (.cells (cpC zeroCp none 0) 44)) := (Kept.refl _ _).alloc _
          have HKA := Lib.hid hka
          clear hka hk HNZ HAZ
          go_wp2_with (refine wpList_store_box rfl 44 (.tmp 15) _ rfl wd.heap.size (cpC cv' A9 cap9) rfl rfl 44 (cpC zeroCp none 0) HBX.out (size_cp.trans rfl) rfl (cpC_one _ _ _) ?_; intro we HX9 hk9; refine Hid.out ?_)
          refine Lib.hid ?_
          have HKF := Lib.hid (HAD.out.trans (HKA.out.trans hk9 fun k hk e => by omega) fun _ _ e => e)
          have z5 : we.cell? ⟨wd.heap.size, 5, none⟩ = some (.bool false) := (HX9.out.cell 5).trans (by rw [← hbad]; rfl)
          clear hk9 HKA HBX HX9 HAD
          go_wp2_with (fail)
          refine (Known20_any we).mono ?_
          rintro r wz ⟨rfl, hk⟩
          have HKZ := Lib.hid (HKF.out.trans hk fun _ _ e => e)
          clear hk
          go_wp2_with (fail)
          go_ret
          exact ⟨rfl, HKZ.out⟩
    · have HXN := Lib.hid (show StnOk w (x.on num) from ⟨HXK.out.b, HXK.out.by_, HXK.out.none, HXK.out.len, HNUM.out, HXK.out.at_⟩)
      have b1 : (x.kind == 1) = false := beq_eq_false_iff_ne.mpr h1
      have b4 : (x.kind == 4) = false := beq_eq_false_iff_ne.mpr h4
      have HON := Lib.hid (show (x.on num).cs = #[.int .i64 x.kind, .int .i64 num, .int .i64 x.src, .int .i64 x.dst, .int .i64 x.at_, .slice x.dA x.data.length x.dc] by simp [Stn.cs, Stn.on, h1, h4])
      clear h1 h4
      go_upto_region 15 with (fail)
      have HB7 := Lib.hid (show Box w6 X 32 (x.on num).cs by rw [HON.out]; exact HB6.out)
      have HC7 := HC6
      have HN7 := HN6
      have HA7 := HA6
      have HS7 := HS6
      clear HC6 HN6 HA6 HB6 x0 f0 HS6 HON
      go_wp2_with (refine load_stn_box rfl _ rfl X rfl (x.on num) _ HB7.out ?_)
      refine (Nw.do_ HN7.out (fun j e => .inr (by have := HS7.out; omega)) (by omega) (HXN.out.fresh HA7.out)).mono ?_
      rintro r w8 ⟨rfl, hn, hkk⟩
      have HN8 := Lib.hid hn
      have HC8 := Lib.hid (HC7.out.kept hkk fun k e1 e2 e3 => by
        rcases e3 with e3 | e3
        · have := (HF5.out _ e3).2; omega
        · have := HS7.out; omega)
      have HA8 := Lib.hid (HA7.out.trans hkk fun k hk e => by
        rcases e with e | e
        · have := (HF5.out _ e).1; have := HXP.out; have := HWX.out; omega
        · have := HX6.out; have := HWX.out; omega)
      have HAL := Lib.hid (s1.step_al (x.on num) (x.on_kind num).1 (x.on_kind num).2)
      rw [show (x.on num).num = num from rfl] at HAL
      have hl2 : (s1.step (x.on num)).2.last ≤ 202 := Nat.le_trans (s1.step_last _) (by omega)
      obtain ⟨s2, hs2⟩ : ∃ s2, (s1.step (x.on num)).2 = s2 := ⟨_, rfl⟩
      rw [hs2] at HN8 HAL hl2 HDG
      clear hn hkk HC7 HN7 HA7 HB7 hs2
      go_wp2_with (fail)
      refine (Nw.copies_ HN8.out (by omega)).mono ?_
      rintro r w9 ⟨M, mc, ln, F2, rfl, hcop, hln, hk9, hf9, hn⟩
      have HF9 := Lib.hid hf9
      have HS9 := Lib.hid hk9.size
      have HLN := Lib.hid hln
      have hlenn : ln.length = s2.l.length := by rw [← hln, List.length_map]
      have hcnt2 := hn.ok.count
      have HD9 := Lib.hid (CcsAt.of hcop fun y hy => by
        have := (hn.ok.len y.c (by rw [← hln]; exact List.mem_map_of_mem hy)).2
        omega)
      have HC9 := Lib.hid (CcsAt.of (HC8.out.fresh hk9) fun y hy => by
        have := (HOK1.out.len y.c (by rw [← HLW.out]; exact List.mem_map_of_mem hy)).2
        omega)
      have HN9 := Lib.hid hn
      have HA9 := Lib.hid (HA8.out.trans hk9 fun _ _ e => e)
      have HA8S := Lib.hid HA8.out.size
      clear hln hcop hn hk9 hf9 HN8 HA8 HC8
      go_wp2_with (fail)
      go_loopw [13, 14] (fun kk ii wr => ∃ (i k : Nat), kk = .int .i64 k ∧ ii = .int .i64 i ∧ i ≤ lw.length ∧ k ≤ ln.length ∧ Al num (s1.l.drop i) (s2.l.drop k) ∧ Kept (fun _ => False) w9 wr) (fun _ ii _ => lw.length - (intOf ii).toNat)
      case atStart => exact ⟨0, 0, rfl, rfl, Nat.zero_le _, Nat.zero_le _, HAL.out, Kept.refl _ _⟩
      case round =>
        obtain ⟨i, k, rfl, rfl, hi, hk, hal, hkk⟩ := hrel
        have HAT := Lib.hid hal
        have HC := Lib.hid (HC9.out.fresh hkk)
        have HD := Lib.hid (HD9.out.fresh hkk)
        have HK := Lib.hid hkk
        clear hal hkk HAL
        by_cases hlt : i < lw.length
        · have hls : i < s1.l.length := by omega
          obtain ⟨g, e1, -, hcell, -⟩ := own_cells HC.out.row (by omega)
          subst e1
          have hlwi : lw[i].c = s1.l[i] := by
            have := congrArg (fun l : List Cp => l[i]?) HLW.out
            simpa [hlt, hls] using this
          have y0 : wr.cell? ⟨g, i * 6, none⟩ = some (.int .i64 (s1.l[i].num : Int)) := hcell (i * 6) _ (by have := ccs_get lw i hlt 0 (by omega); rw [Nat.add_zero] at this; rw [this, ← hlwi]; rfl)
          clear hcell
          have hal := HAT.out
          rw [drop_cons hls] at hal
          generalize hcd : s1.l[i] = cd at hal y0 hlwi
          generalize hm : s2.l.drop k = m at hal
          have HM := Lib.hid hm
          have hkn : k < ln.length ∨ (k = ln.length ∧ m = []) := by
            by_cases hk2 : k < ln.length
            · exact .inl hk2
            · refine .inr ⟨by omega, ?_⟩
              rw [← hm]
              exact List.drop_eq_nil_of_le (by omega)
          clear hm hcd
          cases hal with
          | other hne hr =>
            rename_i m'
            have hk2 : k < ln.length := by
              rcases hkn with h | ⟨h, h'⟩
              · exact h
              · cases h'
            have hks : k < s2.l.length := by omega
            have hmm := HM.out
            rw [drop_cons hks] at hmm
            injection hmm with hm1 hm2
            have hlnk : ln[k].c = s2.l[k] := by
              have := congrArg (fun l : List Cp => l[k]?) HLN.out
              simpa [hk2, hks] using this
            have HR := Lib.hid (show Al num (s1.l.drop (i + 1)) (s2.l.drop (k + 1)) by rw [hm2]; exact hr)
            obtain ⟨g', e1', -, -, -⟩ := own_cells HD.out.row (by omega)
            subst e1'
            have hbe : ((cd.num : Int) == num) = false := beq_eq_false_iff_ne.mpr hne
            have hsame : ln[k].c.same lw[i].c := by rw [hlnk, hm1, hlwi]; exact Cp.same_refl _
            have HSAME := Lib.hid (fun W (hW : Kept (fun _ => False) wr W) => Same20_any ln[k].c lw[i].c ln[k].A lw[i].A ln[k].cap lw[i].cap W (BytesAt.of_own ((HD.out.fresh hW).d _ (List.getElem_mem hk2))) (BytesAt.of_own ((HC.out.fresh hW).d _ (List.getElem_mem hlt))) (HD.out.len _ (List.getElem_mem hk2)))
            have HRY := Lib.hid (fun W (hW : Kept (fun _ => False) wr W) => (HC.out.fresh hW).row)
            have HRZ := Lib.hid (fun W (hW : Kept (fun _ => False) wr W) => (HD.out.fresh hW).row)
            have HSM := Lib.hid hsame
            obtain ⟨cs, hcs⟩ : ∃ cs, cpC lw[i].c lw[i].A lw[i].cap = cs := ⟨_, rfl⟩
            obtain ⟨ds, hds⟩ : ∃ ds, cpC ln[k].c ln[k].A ln[k].cap = ds := ⟨_, rfl⟩
            have HXC := Lib.hid (show lw[i].cs = cs from hcs)
            have HYC := Lib.hid (show ln[k].cs = ds from hds)
            rw [hcs, hds] at HSAME
            have hi0 : (0 : Int) ≤ (i : Int) := by omega
            have hin : (i : Int) < (lw.length : Int) := by omega
            have hk0 : (0 : Int) ≤ (k : Int) := by omega
            have hkl : (k : Int) < (ln.length : Int) := by omega
            have hge : ¬ ((ln.length : Int) ≤ (k : Int)) := by omega
            clear hcs hds hne hr hm1 hm2 hlnk hsame hlwi hkn HM HAT HC HD
            go_upto_region 24 with (fail)
            clear y0
            as_aux_lemma =>
              refine wp_region_held_drew (S := fun W => Kept (fun _ => False) wr W) (by kernel_rfl) (Kept.refl (fun _ => False) wr).drew fun hS => ?_
              generalize World.drew _ = w10 at hS ⊢
              refine held_takeTo 93 (i := 0) (v := .int .i64 k) rfl rfl (by kernel_rfl) (by kernel_rfl) (by kernel_rfl) (fun _ _ _ h => h) rfl hS (fun W hW => by go_simp) ?_
              simp only [List.setIfInBounds_toArray, List.set_cons_zero, List.set_cons_succ]
              refine held_takeTo 94 (i := 1) (v := .slice (some ⟨g', 0, none⟩) ln.length mc) rfl rfl (by kernel_rfl) (by kernel_rfl) (by kernel_rfl) (fun _ _ _ h => h) rfl hS (fun W hW => by go_simp) ?_
              simp only [List.setIfInBounds_toArray, List.set_cons_zero, List.set_cons_succ]
              refine held_takeTo 95 (i := 2) (v := .int .i64 ln.length) rfl rfl (by kernel_rfl) (by kernel_rfl) (by kernel_rfl) (fun _ _ _ h => h) rfl hS (fun W hW => by go_simp) ?_
              simp only [List.setIfInBounds_toArray, List.set_cons_zero, List.set_cons_succ]
              refine held_takeTo 96 (i := 3) (v := .bool false) rfl rfl (by kernel_rfl) (by kernel_rfl) (by kernel_rfl) (fun _ _ _ h => h) rfl hS (fun W hW => by go_simp) ?_
              simp only [List.setIfInBounds_toArray, List.set_cons_zero, List.set_cons_succ]
              refine held_takeTo 97 (i := 4) (v := .bool false) rfl rfl (by kernel_rfl) (by kernel_rfl) (by kernel_rfl) (fun _ _ _ h => h) rfl hS (fun W hW => by go_simp) ?_
              simp only [List.setIfInBounds_toArray, List.set_cons_zero, List.set_cons_succ]
              refine held_takeG 98 (i := 5) (v := .slice (some ⟨g', 0, none⟩) ln.length mc) rfl rfl (by kernel_rfl) (by kernel_rfl) (by kernel_rfl) (fun _ _ _ h => h) (by rfl) hS (fun W hW => by go_simp) ?_
              simp only [List.setIfInBounds_toArray, List.set_cons_zero, List.set_cons_succ]
              refine held_takeG 99 (i := 6) (v := .int .i64 k) rfl rfl (by kernel_rfl) (by kernel_rfl) (by kernel_rfl) (fun _ _ _ h => h) (by rfl) hS (fun W hW => by go_simp) ?_
              simp only [List.setIfInBounds_toArray, List.set_cons_zero, List.set_cons_succ]
              refine held_takeG 100 (i := 7) (v := .pointer (some ⟨g', k * 6, none⟩)) rfl rfl (by kernel_rfl) (by kernel_rfl) (by kernel_rfl) (fun _ _ _ h => h) (by rfl) hS (fun W hW => by go_simp) ?_
              simp only [List.setIfInBounds_toArray, List.set_cons_zero, List.set_cons_succ]
              refine held_takeG 101 (i := 8) (v := .agg ds) rfl rfl (by kernel_rfl) (by kernel_rfl) (by kernel_rfl) (fun _ _ _ h => h) (by rfl) hS (fun W hW => run_load_cc _ _ rfl g' k rfl ln (HRZ.out W hW) hk2 ds HYC.out) ?_
              simp only [List.setIfInBounds_toArray, List.set_cons_zero, List.set_cons_succ]
              refine held_takeG 102 (i := 9) (v := .slice (some ⟨g, 0, none⟩) lw.length lc) rfl rfl (by kernel_rfl) (by kernel_rfl) (by kernel_rfl) (fun _ _ _ h => h) (by rfl) hS (fun W hW => by go_simp) ?_
              simp only [List.setIfInBounds_toArray, List.set_cons_zero, List.set_cons_succ]
              refine held_takeG 103 (i := 10) (v := .int .i64 i) rfl rfl (by kernel_rfl) (by kernel_rfl) (by kernel_rfl) (fun _ _ _ h => h) (by rfl) hS (fun W hW => by go_simp) ?_
              simp only [List.setIfInBounds_toArray, List.set_cons_zero, List.set_cons_succ]
              refine held_takeG 104 (i := 11) (v := .pointer (some ⟨g, i * 6, none⟩)) rfl rfl (by kernel_rfl) (by kernel_rfl) (by kernel_rfl) (fun _ _ _ h => h) (by rfl) hS (fun W hW => by go_simp) ?_
              simp only [List.setIfInBounds_toArray, List.set_cons_zero, List.set_cons_succ]
              refine held_takeG 105 (i := 12) (v := .agg cs) rfl rfl (by kernel_rfl) (by kernel_rfl) (by kernel_rfl) (fun _ _ _ h => h) (by rfl) hS (fun W hW => run_load_cc _ _ rfl g i rfl lw (HRY.out W hW) hlt cs HXC.out) ?_
              simp only [List.setIfInBounds_toArray, List.set_cons_zero, List.set_cons_succ]
              refine held_one (i := 13) (by kernel_rfl) rfl fun K hK => ?_
              go_wp2_with (fail)
              refine (HSAME.out w10 hS).mono ?_
              rintro e w11 ⟨bb, rfl, hbb, hk7⟩
              have hS7 := hS.trans hk7 fun _ _ e => e
              obtain rfl : bb = true := hbb.2 HSM.out
              clear hk7 hbb
              go_wp2_with (fail)
              refine hK.out _ _ hS7 fun _ => ?_
              clear hK K
              refine held_takeG 107 (i := 14) (v := .bool false) rfl rfl (by kernel_rfl) (by kernel_rfl) (by kernel_rfl) (fun _ _ _ h => h) (by rfl) hS7 (fun W hW => by go_simp) ?_
              simp only [List.setIfInBounds_toArray, List.set_cons_zero, List.set_cons_succ]
              refine held_takeTo 108 (i := 15) (v := .bool false) rfl rfl (by kernel_rfl) (by kernel_rfl) (by kernel_rfl) (fun _ _ _ h => h) rfl hS7 (fun W hW => by go_simp) ?_
              simp only [List.setIfInBounds_toArray, List.set_cons_zero, List.set_cons_succ]
              refine wpAnyH_done (by kernel_rfl) ?_ _
              have HS7' := Lib.hid (HK.out.trans hS7 fun _ _ e => e)
              clear hS7 hS
              go_wp2_with (fail)
              go_roundw
              case rel => exact ⟨i + 1, k + 1, by go_num, by go_num, by omega, by omega, HR.out, HS7'.out⟩
              case measure => simp [intOf]; omega
          | kept he hd hr =>
            rename_i d m'
            as_aux_lemma =>
            have hk2 : k < ln.length := by
              rcases hkn with h | ⟨h, h'⟩
              · exact h
              · cases h'
            have hks : k < s2.l.length := by omega
            have hmm := HM.out
            rw [drop_cons hks] at hmm
            injection hmm with hm1 hm2
            have hlnk : ln[k].c = s2.l[k] := by
              have := congrArg (fun l : List Cp => l[k]?) HLN.out
              simpa [hk2, hks] using this
            have HR := Lib.hid (show Al num (s1.l.drop (i + 1)) (s2.l.drop (k + 1)) by rw [hm2]; exact hr)
            obtain ⟨g', e1', -, hcell', -⟩ := own_cells HD.out.row (by omega)
            subst e1'
            have z0 : wr.cell? ⟨g', k * 6, none⟩ = some (.int .i64 (d.num : Int)) := hcell' (k * 6) _ (by have := ccs_get ln k hk2 0 (by omega); rw [Nat.add_zero] at this; rw [this, ← hm1, ← hlnk]; rfl)
            have hbe : ((cd.num : Int) == num) = true := beq_iff_eq.2 he
            have hbd : ((d.num : Int) == num) = true := beq_iff_eq.2 hd
            have hi0 : (0 : Int) ≤ (i : Int) := by omega
            have hin : (i : Int) < (lw.length : Int) := by omega
            have hk0 : (0 : Int) ≤ (k : Int) := by omega
            have hkl : (k : Int) < (ln.length : Int) := by omega
            clear he hd hr hm1 hm2 hlnk hlwi hkn HM HAT HC HD hcell'
            go_wp2_with (fail)
            go_roundw
            case rel => exact ⟨i + 1, k + 1, by go_num, by go_num, by omega, by omega, HR.out, HK.out⟩
            case measure => simp [intOf]; omega
          | gone he hd hr =>
            have HR := Lib.hid (show Al num (s1.l.drop (i + 1)) (s2.l.drop k) by rw [HM.out]; exact hr)
            have hbe : ((cd.num : Int) == num) = true := beq_iff_eq.2 he
            have hi0 : (0 : Int) ≤ (i : Int) := by omega
            have hin : (i : Int) < (lw.length : Int) := by omega
            by_cases hk2 : k < ln.length
            · as_aux_lemma =>
              have hks : k < s2.l.length := by omega
              have hlnk : ln[k].c = s2.l[k] := by
                have := congrArg (fun l : List Cp => l[k]?) HLN.out
                simpa [hk2, hks] using this
              have hdn : ¬ (ln[k].c.num : Int) = num := hd _ (by rw [hlnk, ← HM.out, drop_cons hks]; exact List.mem_cons_self ..)
              obtain ⟨g', e1', -, hcell', -⟩ := own_cells HD.out.row (by omega)
              subst e1'
              have z0 : wr.cell? ⟨g', k * 6, none⟩ = some (.int .i64 (ln[k].c.num : Int)) := hcell' (k * 6) _ (by have := ccs_get ln k hk2 0 (by omega); rw [Nat.add_zero] at this; rw [this]; rfl)
              generalize ln[k].c.num = dn at z0 hdn
              have hbd : ((dn : Int) == num) = false := beq_eq_false_iff_ne.mpr hdn
              have hk0 : (0 : Int) ≤ (k : Int) := by omega
              have hkl : (k : Int) < (ln.length : Int) := by omega
              clear he hd hr hlnk hlwi hkn HM HAT HC HD hcell' hdn
              go_wp2_with (fail)
              go_roundw
              case rel => exact ⟨i + 1, k, by go_num, by go_num, by omega, by omega, HR.out, HK.out⟩
              case measure => simp [intOf]; omega
            · as_aux_lemma =>
              have hkl : ¬ (k : Int) < (ln.length : Int) := by omega
              clear he hd hr hlwi hkn HM HAT HC HD
              go_wp2_with (fail)
              go_roundw
              case rel => exact ⟨i + 1, k, by go_num, by go_num, by omega, by omega, HR.out, HK.out⟩
              case measure => simp [intOf]; omega
        · obtain rfl : i = lw.length := by omega
          have hal := HAT.out
          rw [hlen, List.drop_length] at hal
          have hkl : k = ln.length := by
            by_cases hk2 : k < ln.length
            · have hks : k < s2.l.length := by omega
              rw [drop_cons hks] at hal
              cases hal
            · omega
          subst hkl
          have HAZ := Lib.hid (HA9.out.trans HK.out fun _ _ e => e)
          have HNZ := Lib.hid (HN9.out.fresh HK.out)
          clear hal HAT HC HD HN9 HA9 HK HC9 HD9
          by_cases he : e = 0
          case' neg =>
            as_aux_lemma =>
            have hv0 : (v : Int) = 0 := HDN.out he
            have hbe : (e != 0) = true := by simp [he]
            have hbv : ((v : Int) == 0) = true := by simp [hv0]
            clear hv0
            have HE := Lib.hid he
            clear he
            go_wp2_with (fail)
            refine (Known20_any wr).mono ?_
            rintro r wz ⟨rfl, hk⟩
            have HKZ := Lib.hid (HAZ.out.trans hk fun _ _ e => e)
            clear hk
            go_wp2_with (fail)
            go_ret
            exact ⟨rfl, HKZ.out⟩
          subst he
          obtain ⟨cv, hcv, hbad⟩ := HDG.out rfl
          have hdl := Nw.deliver_ (n := (v : Int)) HNZ.out hwv
          obtain ⟨z3, hz3⟩ : ∃ z3, s2.deliver (v : Int) = z3 := ⟨_, rfl⟩
          rw [hz3] at hdl hcv
          obtain ⟨⟨cv', ev'⟩, s3⟩ := z3
          simp only at hdl hcv
          injection hcv with hcv1 hcv2
          subst hcv1 hcv2
          clear hz3
          go_wp2_with (fail)
          refine hdl.mono ?_
          clear hdl
          rintro r wd ⟨A9, cap9, rfl, -, -, hk⟩
          have HAD := Lib.hid (HAZ.out.trans hk fun k hk e => by
            rcases e with e | e
            · rcases (HF9.out _ e).1 with e | e
              · have := (HF5.out _ e).1; have := HXP.out; have := HWX.out; omega
              · have := HX6.out; have := HWX.out; omega
            · have := HA8S.out; have := HS9.out; omega)
          have HBX := Lib.hid (Box.new wd 44 (cpC zeroCp none 0))
          have hka : Kept (fun _ => False) wd (wd.alloc (.cells (cpC zeroCp none 0) 44)) := (Kept.refl _ _).alloc _
          have HKA := Lib.hid hka
          clear hka hk HNZ HAZ
          go_wp2_with (refine wpList_store_box rfl 44 (.tmp 15) _ rfl wd.heap.size (cpC cv' A9 cap9) rfl rfl 44 (cpC zeroCp none 0) HBX.out (size_cp.trans rfl) rfl (cpC_one _ _ _) ?_; intro we HX9 hk9; refine Hid.out ?_)
          refine Lib.hid ?_
          have HKF := Lib.hid (HAD.out.trans (HKA.out.trans hk9 fun k hk e => by omega) fun _ _ e => e)
          have z5 : we.cell? ⟨wd.heap.size, 5, none⟩ = some (.bool false) := (HX9.out.cell 5).trans (by rw [← hbad]; rfl)
          clear hk9 HKA HBX HX9 HAD
          go_wp2_with (fail)
          refine (Known20_any we).mono ?_
          rintro r wz ⟨rfl, hk⟩
          have HKZ := Lib.hid (HKF.out.trans hk fun _ _ e => e)
          clear hk
          go_wp2_with (fail)
          go_ret
          exact ⟨rfl, HKZ.out⟩
end Go.Proofs.Ytopcogogpbcbhaa
