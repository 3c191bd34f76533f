/- The walk of stamp.Check: it tells of runs what chkR says. Conditions: the numbers are those of Go's int; the runs are no more than a machine holds. -/
import Derived.Test.YtoeipjhdpeibpaaGreatRCmp
import Derived.Carry
import Derived.Laws.StructEq
namespace Go.Proofs.YtoeipjhdpeibpaaGreat
open Go Go.RowKit

/-- The cells of runs. -/
def runs (l : List Rn) : List Value := l.flatMap fun r => [.int .i64 r.id.time, .int .i64 r.id.site, .int .i64 r.count]
def RunsAt (w : World) (A : Option Addr) (l : List Rn) : Prop := ∀ k (h : k < l.length), ∃ ad : Addr, A = some ad ∧
  w.cell? (ad.add (k * 3)) = some (.int .i64 l[k].id.time) ∧ w.cell? ⟨(ad.add (k * 3)).block, (ad.add (k * 3)).off + 1, none⟩ = some (.int .i64 l[k].id.site) ∧ w.cell? ⟨(ad.add (k * 3)).block, (ad.add (k * 3)).off + 2, none⟩ = some (.int .i64 l[k].count)
theorem RunsAt.kept {S : Nat → Prop} {w w' : World} {A : Option Addr} {l : List Rn} (h : RunsAt w A l) (hk : Kept S w w') (hne : 0 < l.length → ∀ a, A = some a → ¬ S a.block) : RunsAt w' A l := fun k hk' => by
  obtain ⟨ad, rfl, x0, x1, x2⟩ := h k hk'
  have hs := hne (by omega) ad rfl
  have hb : (ad.add (k * 3)).block = ad.block := by unfold Addr.add; split <;> rfl
  have key : ∀ a : Addr, a.block = ad.block → ∀ u, w.cell? a = some u → w'.cell? a = some u := fun a ha u hu => by
    have hlt : a.block < w.heap.size := by
      rcases Nat.lt_or_ge a.block w.heap.size with h1 | h1
      · exact h1
      · exfalso
        rw [World.cell?] at hu
        rw [Array.getElem?_eq_none h1] at hu
        simp at hu
    rw [World.cell?_of_block (w := w) (hk.block a.block hlt (by rw [ha]; exact hs))]
    exact hu
  exact ⟨ad, rfl, key _ hb _ x0, key ⟨_, _, none⟩ hb _ x1, key ⟨_, _, none⟩ hb _ x2⟩
theorem RunsAt.fresh {w w' : World} {A : Option Addr} {l : List Rn} (h : RunsAt w A l) (hk : Kept (fun _ => False) w w') : RunsAt w' A l := h.kept hk fun _ _ _ => id

theorem run_eqFields_id (a b c d : Int) (W : World) : (Op.eqFields 9999 #[.int .i64 a, .int .i64 b] #[.int .i64 c, .int .i64 d] (Tryz.prog.fieldsOf 57).toList).run Tryz.prog W = .ok (decide (a = c ∧ b = d)) W := by
  have hf : (Tryz.prog.fieldsOf 57).toList.map (fun f => (decide (f.name = "_"), f.type, f.offset)) = [(false, 3, 0), (false, 3, 1)] := by kernel_rfl
  generalize (Tryz.prog.fieldsOf 57).toList = fs at hf ⊢
  have hl : fs.length = 2 := by have := congrArg List.length hf; simpa using this
  obtain ⟨f0, f1, rfl⟩ : ∃ f0 f1, fs = [f0, f1] := ⟨fs[0], fs[1], List.ext_getElem (by simp [hl]) fun i h1 h2 => by
    match i, h2 with
    | 0, _ => rfl
    | 1, _ => rfl⟩
  · simp only [List.map_cons, List.map_nil, List.cons.injEq, Prod.mk.injEq, decide_eq_false_iff_not, and_true] at hf
    obtain ⟨⟨n0, t0, o0⟩, n1, t1, o1⟩ := hf
    have hu := Tryz.underlying3
    simp [Op.eqFields, n0, n1, t0, t1, o0, o1, run_part_int _ 0 a W (show #[Value.int .i64 a, .int .i64 b][0]? = _ from rfl), run_part_int _ 0 c W (show #[Value.int .i64 c, .int .i64 d][0]? = _ from rfl), run_part_int _ 1 b W (show #[Value.int .i64 a, .int .i64 b][1]? = _ from rfl), run_part_int _ 1 d W (show #[Value.int .i64 c, .int .i64 d][1]? = _ from rfl), run_equalIn_int W 9998 3 .i64 .i64 _ _ hu]
    by_cases h1 : a = c <;> by_cases h2 : b = d <;> simp [h1, h2]
theorem eql_id (a b c d : Int) (W : World) : (binOp .eql 57 (.agg #[.int .i64 a, .int .i64 b]) (.agg #[.int .i64 c, .int .i64 d])).run Tryz.prog W = .ok (.bool (decide (a = c ∧ b = d))) W := by
  have hu : Tryz.prog.underlying 57 = some (.struct (Tryz.prog.fieldsOf 57)) := by kernel_rfl
  rw [run_eql_struct, run_equalIn_struct _ _ _ _ _ hu (by kernel_rfl), run_eqFields_id, Result.andThen_ok]
theorem info_run : (Tryz.prog.info? 112).map (fun i => (i.zero, i.size, i.bytes)) = some (some (.agg #[.int .i64 0, .int .i64 0, .int .i64 0]), 3, 24) := by kernel_rfl
structure ChkAt (w : World) (A : Option Addr) (l : List Rn) (k : Nat) (wr : World) : Prop where
  r : RunsAt wr A l
  m : ∃ D : DataW Unit, wr.ownsMap Tryz.prog 3 (plainElem Tryz.prog 3) w.heap.size k D ∧ EndsAt D (l.take k)
  k : Kept (fun _ => False) w wr
theorem ChkAt.map {w w' wr : World} {A : Option Addr} {l : List Rn} {k : Nat} (h : ChkAt w A l k wr) (hk : Kept (fun _ => False) wr w') : ChkAt w A l k w' := by
  obtain ⟨hr, ⟨D, hm, he⟩, hkk⟩ := h
  refine ⟨hr.fresh hk, ⟨D, ?_, he⟩, hkk.trans hk fun _ _ e => e⟩
  have hlt := hm.lt
  obtain ⟨es, clock, hb, F, hs, hD⟩ := hm
  exact ⟨es, clock, (hk.block _ hlt id).trans hb, F, hs, hD⟩

set_option maxRecDepth 100000 in
set_option maxHeartbeats 1600000 in
theorem SCheck_any (A : Option Addr) (l : List Rn) (c : Nat) (w : World) (hl : RunsAt w A l) (hc : ∀ r ∈ l, inI r.count) (hlen : l.length ≤ 1000000) :
    Calls Tryz.prog 124 #[.slice A l.length c] w (IntPost w (chkR [] l)) := by
  obtain ⟨x, hx⟩ : ∃ x, chkR [] l = x := ⟨_, rfl⟩
  have HX := Lib.hid (show chkR (l.take 0) (l.drop 0) = x from hx)
  have HL := Lib.hid hl
  have HC := Lib.hid hc
  rw [hx]
  clear hx hl hc
  go_enter Tryz.func124, Tryz.ntmps124
  have hmm := run_makeMap (P := Tryz.prog) 177 w
  go_wp2_with (fail)
  clear hmm
  have HZ0 := Lib.hid (show ChkAt w A l 0 (w.alloc (.map #[] 0)) from ⟨HL.out.fresh ((Kept.refl _ _).alloc _), ⟨.map [], World.ownsMap_made _ _ _ _, EndsAt.nil⟩, (Kept.refl _ _).alloc _⟩)
  go_loopw [12] (fun i wr => ∃ (k : Nat), i = .int .i64 k ∧ k ≤ l.length ∧ chkR (l.take k) (l.drop k) = x ∧ ChkAt w A l k wr) (fun i _ => l.length - (intOf i).toNat)
  case atStart => exact ⟨0, rfl, by omega, HX.out, HZ0.out⟩
  case round =>
    obtain ⟨k, rfl, hk, hchk, hz⟩ := hrel
    have HZ := Lib.hid hz
    clear HZ0 HX hz
    by_cases hlt : k < l.length
    · rw [chkR_step l hlt] at hchk
      obtain ⟨ad, rfl, x0, x1, x2⟩ := HZ.out.r k hlt
      have hci := HC.out l[k] (List.getElem_mem hlt)
      obtain ⟨r, hr⟩ : ∃ r, l[k] = r := ⟨_, rfl⟩
      rw [hr] at hchk x0 x1 x2 hci
      have HR := Lib.hid hr
      have HCH := Lib.hid hchk
      clear hr hchk
      have HST := Lib.hid (show stepR (l.take k) r = if okRn r = false then 1 else if notUp (l.take k) r = true then 9 else if meets (l.take k) r = true then 6 else 0 from rfl)
      have HLA := Lib.hid (lastI_eq r)
      obtain ⟨⟨t, s⟩, n⟩ := r
      simp only at x0 x1 x2 hci
      have hb1 := (Box.new wr 112 #[.int .i64 t, .int .i64 s, .int .i64 n])
      have HB1 := Lib.hid hb1
      have HZ1 := Lib.hid (HZ.out.map ((Kept.refl _ _).alloc (.cells #[.int .i64 t, .int .i64 s, .int .i64 n] 112)))
      have hs1 : (wr.alloc (.cells #[.int .i64 t, .int .i64 s, .int .i64 n] 112)).heap.size = wr.heap.size + 1 := by simp
      clear hb1
      go_wp2_with (fail)
      generalize wr.alloc (.cells #[.int .i64 t, .int .i64 s, .int .i64 n] 112) = w1 at HB1 HZ1 hs1 ⊢
      refine (last_any ⟨⟨t, s⟩, n⟩ w1 hci).mono ?_
      obtain ⟨e, he⟩ : ∃ e, lastI ⟨⟨t, s⟩, n⟩ = e := ⟨_, rfl⟩
      rw [he]
      rw [he] at HLA
      clear he
      obtain ⟨et, es⟩ := e
      unfold IdPost idV
      rintro e w2 ⟨rfl, hk2⟩
      simp only
      have HB2 := Lib.hid ((HB1.out.kept hk2 id).alloc (.cells #[.int .i64 et, .int .i64 es] 57))
      have HZ2 := Lib.hid ((HZ1.out.map hk2).map ((Kept.refl _ _).alloc (.cells #[.int .i64 et, .int .i64 es] 57)))
      have HE2 := Lib.hid (Box.new w2 57 #[.int .i64 et, .int .i64 es])
      clear HB1 HZ1 hs1 hk2 HZ x0 x1 x2
      generalize wr.heap.size = g1 at HB2 ⊢
      have hx := fun W => eql_id et es 0 0 W
      cases hok : okRn ⟨⟨t, s⟩, n⟩ with
      | false =>
        have h1 := HLA.out
        rw [hok] at h1
        injection h1 with e1 e2
        have h2 := HCH.out
        rw [HST.out, hok] at h2
        have HF := Lib.hid (show (1 : Int) = x from h2)
        subst e1 e2
        rw [decide_eq_true ⟨rfl, rfl⟩] at hx
        clear h2 hok
        go_wp2_with (fail)
        go_ret
        exact ⟨by rw [← HF.out]; rfl, HZ2.out.k⟩
      | true =>
        have h1 := HLA.out
        rw [hok] at h1
        injection h1 with e1 e2
        have e1 : et = t + (n - 1) := e1
        have e2 : es = s := e2
        subst e1 e2
        have hob := hok
        unfold okRn at hob
        simp only [Bool.and_eq_true, decide_eq_true_eq, okId_iff] at hob
        obtain ⟨⟨hn1, ht1, ht2, hs1, hs2⟩, hn2⟩ := hob
        rw [decide_eq_false (by omega)] at hx
        have HOK := Lib.hid hok
        clear hok
        go_wp2_with (fail)
        generalize w2.alloc (.cells #[.int .i64 (t + (n - 1)), .int .i64 es] 57) = w3 at HB2 HZ2 HE2 ⊢
        generalize w2.heap.size = g2 at HE2 ⊢
        clear hx
        have y0 : w3.cell? ⟨g1, 0, none⟩ = some (.int .i64 t) := HB2.out.cell 0
        have y1 : w3.cell? ⟨g1, 1, none⟩ = some (.int .i64 es) := HB2.out.cell 1
        go_cut [46] (fun v wx => v = .bool (notUp (l.take k) ⟨⟨t, es⟩, n⟩) ∧ ChkAt w (some ad) l k wx ∧ Box wx g1 112 #[.int .i64 t, .int .i64 es, .int .i64 n] ∧ Box wx g2 57 #[.int .i64 (t + (n - 1)), .int .i64 es])
        case first =>
          rcases Nat.eq_zero_or_pos k with hk0 | hk0
          · subst hk0
            have hg : decide ((0 : Nat) < 0) = false := rfl
            go_quiet (fail)
            go_wp2
            go_meet
            case rel => exact ⟨rfl, HZ2.out.map (Kept.drewN_eq nq), HB2.out.drewN nq, HE2.out.drewN nq⟩
          · obtain ⟨j, rfl⟩ : ∃ j, k = j + 1 := ⟨k - 1, by omega⟩
            have hjl : j < l.length := by omega
            obtain ⟨ad', e, p0, p1, _⟩ := HZ2.out.r j hjl
            injection e with e
            subst e
            have HNU := Lib.hid (notUp_succ l hlt ⟨⟨t, es⟩, n⟩)
            obtain ⟨q, hq⟩ : ∃ q, l[j] = q := ⟨_, rfl⟩
            rw [hq] at p0 p1 HNU
            obtain ⟨⟨qt, qs⟩, qn⟩ := q
            simp only at p0 p1
            clear hq
            have hwj : IntKind.i64.wrap (j : Int) = (j : Int) := IntWalk.i64_in _ ⟨by omega, by omega⟩
            have hj0 : (0 : Int) ≤ (j : Int) := by omega
            have hj1 : (j : Int) < (l.length : Int) := by omega
            go_still_tail 11, (by kernel_rfl)
            change wpList _ _ _ _ _ w3.drew
            have HZ4 := Lib.hid (HZ2.out.map (Kept.refl (fun _ => False) w3).drew)
            have HB4 := Lib.hid HB2.out.drew
            have HE4 := Lib.hid HE2.out.drew
            clear HZ2 HB2 HE2 y0 y1 p0 p1
            generalize w3.drew = w4 at HZ4 HB4 HE4 ⊢
            go_wp2_with (fail)
            refine (Compare_any ⟨t, es⟩ ⟨qt, qs⟩ _).mono ?_
            obtain ⟨y, hy⟩ : ∃ y, cmpId ⟨t, es⟩ ⟨qt, qs⟩ = y := ⟨_, rfl⟩
            have hyl := cmpId_le ⟨t, es⟩ ⟨qt, qs⟩
            unfold IntPost
            rw [hy] at hyl ⊢
            have HYL := Lib.hid hyl
            clear hy hyl
            rintro e w5 ⟨rfl, hk5⟩
            have HZ5 := Lib.hid (HZ4.out.map hk5)
            have HB5 := Lib.hid (HB4.out.kept hk5 id)
            have HE5 := Lib.hid (HE4.out.kept hk5 id)
            have HN2 := Lib.hid (show notUp (l.take (j + 1)) ⟨⟨t, es⟩, n⟩ = decide (y ≤ 0) by
              rw [HNU.out]
              by_cases h : ltId ⟨qt, qs⟩ ⟨t, es⟩
              · have h1 : ¬ y ≤ 0 := fun e => (HYL.out.1 e) h
                simp [h, h1]
              · have h1 : y ≤ 0 := HYL.out.2 h
                simp [h, h1])
            clear hk5 HZ4 HB4 HE4 hwj hj0 hj1
            go_wp2
            go_meet
            case rel => exact ⟨by rw [HN2.out], HZ5.out, HB5.out, HE5.out⟩
        case rest =>
          obtain ⟨rfl, hz3, hb3, he3⟩ := hcut
          have HZ3 := Lib.hid hz3
          have HB3 := Lib.hid hb3
          have HE3 := Lib.hid he3
          clear hz3 hb3 he3 HZ2 HB2 HE2 y0 y1
          cases hnu : notUp (l.take k) ⟨⟨t, es⟩, n⟩ with
          | true =>
            have h2 := HCH.out
            rw [HST.out, HOK.out, hnu] at h2
            have HF := Lib.hid (show (9 : Int) = x from h2)
            clear hnu h2
            go_wp2_with (fail)
            go_ret
            exact ⟨by rw [← HF.out]; rfl, HZ3.out.k⟩
          | false =>
            have HNU := Lib.hid hnu
            clear hnu
            obtain ⟨D, hm, he⟩ := HZ3.out.m
            have HM := Lib.hid hm
            have HE := Lib.hid he
            have hkey := Maps.keyOf_int_mk (P := Tryz.prog) Tryz.underlying3 (q := .i64) (a := es) (by simp only [Lit.wf, Bool.and_eq_true, decide_eq_true_eq]; exact ⟨by show (-9223372036854775808 : Int) ≤ es; omega, by show es ≤ (9223372036854775807 : Int); omega⟩)
            have HKY := Lib.hid hkey
            have y0 : wc.cell? ⟨g1, 0, none⟩ = some (.int .i64 t) := HB3.out.cell 0
            have y1 : wc.cell? ⟨g1, 1, none⟩ = some (.int .i64 es) := HB3.out.cell 1
            have z0 : wc.cell? ⟨g2, 0, none⟩ = some (.int .i64 (t + (n - 1))) := HE3.out.cell 0
            clear hm he hkey
            go_wp2_with (at_lookup; refine wpList_lookup_own_ok_int _ rfl _ _ 177 rfl 3 3 .i64 (Maps.int_keyed Tryz.underlying3) Tryz.underlying177 Tryz.underlying3 rfl w.heap.size k D rfl HM.out _ _ rfl HKY.out ?_)
            intro v hat hwc
            have HTS := Lib.hid (HE.out.test ⟨⟨t, es⟩, n⟩ hat)
            have HBD := Lib.hid (HE.out.bound es hat)
            clear hat hwc
            have hcase : (meets (l.take k) ⟨⟨t, es⟩, n⟩ = false ∧ Maps.has D (.int .i64 es) = false) ∨ (Maps.has D (.int .i64 es) = true ∧ (0 ≤ v ∧ v ≤ 2147483647) ∧ meets (l.take k) ⟨⟨t, es⟩, n⟩ = decide (t ≤ v + 1)) := by
              have h1 := HTS.out
              cases hh : Maps.has D (.int .i64 es) with
              | false => rw [hh] at h1; exact .inl ⟨h1, rfl⟩
              | true => rw [hh] at h1; exact .inr ⟨rfl, HBD.out hh, by rw [h1]; simp⟩
            have hupd : meets (l.take k) ⟨⟨t, es⟩, n⟩ = false → ∀ w9, w9.ownsMap Tryz.prog 3 (plainElem Tryz.prog 3) w.heap.size (k + 1) (D.put (.int .i64 es) (.lit (.int .i64 (t + (n - 1))))) → wc.grownBy w9 (some w.heap.size) → chkR (l.take (k + 1)) (l.drop (k + 1)) = x ∧ ChkAt w (some ad) l (k + 1) w9 := fun hme w9 ho hg => by
              have h2 := HCH.out
              rw [HST.out, HOK.out, HNU.out, hme] at h2
              have hkk := Kept.of_grown hg
              refine ⟨h2, HZ3.out.r.kept hkk fun h0 a ha e => ?_, ⟨_, ho, ?_⟩, HZ3.out.k.trans hkk fun b hb e => by injection e; omega⟩
              · injection ha with ha
                subst ha
                obtain ⟨ad0, e0, q0, _⟩ := HL.out 0 h0
                injection e0 with e0
                subst e0
                have hb : (ad.add (0 * 3)).block = ad.block := by unfold Addr.add; split <;> rfl
                have := World.block_lt_of_cell? w _ q0
                rw [hb] at this
                injection e
                omega
              · have := HE.out.put HOK.out hme
                rw [List.take_succ_eq_append_getElem hlt, HR.out]
                exact this
            have HUP := Lib.hid hupd
            clear hupd
            have hval := plainElem_int (H := Unit) Tryz.underlying3 (q := .i64) (a := t + (n - 1)) (by simp only [Lit.wf, Bool.and_eq_true, decide_eq_true_eq]; exact ⟨by show (-9223372036854775808 : Int) ≤ t + (n - 1); omega, by show t + (n - 1) ≤ (9223372036854775807 : Int); omega⟩)
            have HVAL := Lib.hid hval
            clear hval
            rcases hcase with ⟨hme, hh⟩ | ⟨hh, hvb, hme⟩
            · have HME := Lib.hid hme
              clear hme
              go_wp2_with (at_mapUpdate; refine wpList_mapUpdate_own _ rfl _ _ _ 177 rfl 3 3 (Maps.int_keyed Tryz.underlying3) Tryz.underlying177 _ w.heap.size k D rfl HM.out (by unfold maxLen; omega) _ _ _ rfl rfl HKY.out _ [] HVAL.out ?_)
              intro w9 hown9 hgrow9
              have HW := Lib.hid (HUP.out HME.out w9 hown9 hgrow9)
              clear hown9 hgrow9 hh
              go_wp2
              go_roundw
              case rel => exact ⟨k + 1, by go_num, by omega, HW.out.1, HW.out.2⟩
              case measure => simp [intOf]; omega
            · by_cases htv : t ≤ v + 1
              · have h2 := HCH.out
                rw [HST.out, HOK.out, HNU.out, hme, decide_eq_true htv] at h2
                have HF := Lib.hid (show (6 : Int) = x from h2)
                clear hme h2
                go_wp2_with (fail)
                go_ret
                exact ⟨by rw [← HF.out]; rfl, HZ3.out.k⟩
              · have HME := Lib.hid (hme.trans (decide_eq_false htv))
                have htv' : v + 1 < t := by omega
                clear hme
                go_wp2_with (at_mapUpdate; refine wpList_mapUpdate_own _ rfl _ _ _ 177 rfl 3 3 (Maps.int_keyed Tryz.underlying3) Tryz.underlying177 _ w.heap.size k D rfl HM.out (by unfold maxLen; omega) _ _ _ rfl rfl HKY.out _ [] HVAL.out ?_)
                intro w9 hown9 hgrow9
                have HW := Lib.hid (HUP.out HME.out w9 hown9 hgrow9)
                clear hown9 hgrow9 hh
                go_wp2
                go_roundw
                case rel => exact ⟨k + 1, by go_num, by omega, HW.out.1, HW.out.2⟩
                case measure => simp [intOf]; omega
    · obtain rfl : k = l.length := by omega
      rw [chkR_end] at hchk
      have HF := Lib.hid hchk
      clear hchk
      go_wp2_with (fail)
      go_ret
      exact ⟨by rw [← HF.out]; rfl, HZ.out.k⟩
end Go.Proofs.YtoeipjhdpeibpaaGreat
