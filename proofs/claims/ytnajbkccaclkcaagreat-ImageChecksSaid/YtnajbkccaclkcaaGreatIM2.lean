/- The walks of says.vector and of the reference's Of: the vector of a row. Condition: the row is one (17 numbers, none of place 0). · The walk of the reference's Same: are two lists the same Dots. Conditions: the Dots lie in memory as DotsAt says. · The walks of Get, Has, Sum of both. Conditions: the Dots lie in memory as DotsAt says. -/
import Derived.Test.YtnajbkccaclkcaaGreatIM1
import Derived.Laws.StructEq
namespace Go.Proofs.YtnajbkccaclkcaaGreat
open Go.RowKit

theorem run_index_row (r : List Int) (hr : r.length = 17) (k : Nat) (hk : k < 17) (W : World) :
    (Instr.index 130 (.agg (rowV r)) (.int .i64 (k : Int))).run Tryz.prog W = .ok (.int .i64 (rg r k)) W := by
  have hg := rowV_get r k (by omega)
  have hi : (Tryz.prog.info? 3).map (fun i => (i.zero, i.size, i.bytes)) = some (some (.int .i64 0), 1, 8) := by kernel_rfl
  obtain ⟨i0, h1, h2, h3, h4⟩ := info_parts hi
  simp [Instr.index, asIntOf, run_underlying Tryz.underlying130, sizeOf, typeInfo, h1, h3, part, isAgg, run_underlying Tryz.underlying3, hg, hk]

/-- The vector so far, in new memory. -/
def VecAt (w : World) (l : List Dt) (v : Value) (wr : World) : Prop := wr.ownsRow w.heap.size 59 2 v l.length (dots l) ∧ Kept (fun _ => False) w wr
theorem vecTo_yes (r : List Int) (k : Nat) (h : 0 < rg r k) : vecTo r (k + 1) = vecTo r k ++ [⟨k, rg r k⟩] := by rw [vecTo, if_pos h]
theorem vecTo_no (r : List Int) (k : Nat) (h : ¬ 0 < rg r k) : vecTo r (k + 1) = vecTo r k := by rw [vecTo, if_neg h]
theorem news_dot (W : World) (a b : Int) (T : TypeId) (g : Nat) (hg : g = W.heap.size) : ∀ (j : Nat) (v : Value), [Value.int .i64 a, Value.int .i64 b][j]? = some v → (W.alloc (.cells #[.int .i64 a, .int .i64 b] T)).cell? ((⟨g, 0, none⟩ : Addr).add j) = some v := by
  subst hg
  intro j v hv
  rw [add_none, (Box.new W T #[.int .i64 a, .int .i64 b]).cell j]
  simpa using hv
theorem one_dot (a b : Int) : ∀ u ∈ [Value.int .i64 a, Value.int .i64 b], u.oneCell' = true := by
  intro u hu; simp at hu; rcases hu with rfl | rfl <;> rfl

set_option maxRecDepth 100000 in
set_option maxHeartbeats 1600000 in
theorem vector_any (r : List Int) (w : World) (hr : Row r) :
    Calls Tryz.prog 76 #[.agg (rowV r)] w (FreshDots w (vec r)) := by
  obtain ⟨i0, hi, hz0, hz1, hz2⟩ := info_parts info_dot
  have hb := Box.new w 130 (rowV r)
  have hk0 : Kept (fun _ => False) w (w.alloc (.cells (rowV r) 130)) := (Kept.refl _ _).alloc _
  have HR := Lib.hid hr
  have hld := size_row.trans (size_of_row hr)
  have hidx := fun (k : Nat) (hk : k < 17) (W : World) => run_index_row r hr.len k hk W
  have HIX := Lib.hid hidx
  have HK0 := Lib.hid hk0
  clear hidx hr hk0
  go_enter Tryz.func76, Tryz.ntmps76
  go_wp2_with (refine wpList_load_box rfl 130 (.tmp 1) rfl w.heap.size rfl 130 (rowV r) _ hb Tryz.underlying130 rfl hld ?_)
  generalize w.alloc (.cells (rowV r) 130) = W at HK0 hb ⊢
  clear hb hld
  go_loopw [3, 7] (fun v i wr => ∃ k : Nat, i = .int .i64 k ∧ k ≤ 17 ∧ VecAt w (vecTo r k) v wr) (fun _ i _ => 17 - (intOf i).toNat)
  case atStart => exact ⟨0, rfl, Nat.zero_le _, World.ownsRow_nil _ _ _ _, HK0.out⟩
  case round =>
    obtain ⟨k, rfl, hk, hv⟩ := hrel
    have HV := Lib.hid hv
    have hsz := hv.2.size
    have hvl := vecTo_len r k
    clear hv
    by_cases hlt : k < 17
    · have hix := HIX.out k hlt
      obtain ⟨x, hx⟩ : ∃ x, rg r k = x := ⟨_, rfl⟩
      rw [hx] at hix
      have HX := Lib.hid hx
      clear hx
      by_cases hpos : 0 < x
      · go_wp2_with (at_builtin; refine wpList_append_own_at _ rfl (.tmp 13) (.tmp 17) 23 rfl w.heap.size 59 i0 _ 2 16 Tryz.underlying23 hi hz0 hz1 hz2 rfl (by decide) _ _ (dots (vecTo r k)) rfl (HV.out.1.alloc _) ⟨wr.heap.size, 0, none⟩ 1 1 [.int .i64 (k : Int), .int .i64 x] rfl rfl ?c1 ?c2 ?c3 ?c4 ?c5 ?_)
        case c1 => exact news_dot _ _ _ _ _ rfl
        case c2 => exact one_dot _ _
        case c3 => unfold maxLen; omega
        case c4 => omega
        case c5 => simp; omega
        intro v' w1 hown1 hg1 _ hat
        have HO1 := Lib.hid hown1
        have HG1 := Lib.hid hg1
        clear hown1 hg1 hat hix
        go_wp2
        go_roundw
        case rel =>
          refine ⟨k + 1, by go_num, by omega, ?_, (HV.out.2.alloc _).grown HG1.out fun j hj e => ?_⟩
          · rw [vecTo_yes r k (by rw [HX.out]; exact hpos), dots_app, List.length_append, HX.out]
            exact HO1.out
          · have := (HV.out.1.lt j e).1
            omega
        case measure => simp [intOf]; omega
      · go_wp2
        go_roundw
        case rel => exact ⟨k + 1, by go_num, by omega, by rw [vecTo_no r k (by rw [HX.out]; exact hpos)]; exact HV.out⟩
        case measure => simp [intOf]; omega
    · obtain rfl : k = 17 := by omega
      go_wp2
      go_ret
      exact FreshDots.mk' rfl HV.out.1 HV.out.2

theorem vecTo_one {r : List Int} (h : Row r) : vecTo r 1 = [] := by rw [vecTo_no r 0 (by rw [h.zero]; omega)]; rfl

set_option maxRecDepth 100000 in
set_option maxHeartbeats 1600000 in
theorem Of_any (r : List Int) (w : World) (hr : Row r) :
    Calls Tryz.prog 82 #[.agg (rowV r)] w (FreshDots w (vec r)) := by
  obtain ⟨i0, hi, hz0, hz1, hz2⟩ := info_parts info_dot
  have HB := Lib.hid (Box.new w 117 (rowV r))
  have hk0 : Kept (fun _ => False) w (w.alloc (.cells (rowV r) 117)) := (Kept.refl _ _).alloc _
  have HR := Lib.hid hr
  have HK0 := Lib.hid hk0
  clear hr hk0
  go_enter Tryz.func82, Tryz.ntmps82
  go_wp2_with (fail)
  generalize w.alloc (.cells (rowV r) 117) = W at HK0 HB ⊢
  go_loopw [3, 4] (fun v i wr => ∃ k : Nat, i = .int .i64 ((k : Int) + 1) ∧ k ≤ 16 ∧ VecAt w (vecTo r (k + 1)) v wr ∧ Box wr w.heap.size 117 (rowV r)) (fun _ i _ => 17 - (intOf i).toNat)
  case atStart => exact ⟨0, by go_num, Nat.zero_le _, ⟨by rw [vecTo_one HR.out]; exact World.ownsRow_nil _ _ _ _, HK0.out⟩, HB.out⟩
  case round =>
    obtain ⟨k, rfl, hk, hv, hkW⟩ := hrel
    have HV := Lib.hid hv
    have HKW := Lib.hid hkW
    have hsz := hv.2.size
    have hvl := vecTo_len r (k + 1)
    by_cases hlt : k < 16
    · obtain ⟨x, hx⟩ : ∃ x, rg r (k + 1) = x := ⟨_, rfl⟩
      have hc : wr.cell? ⟨w.heap.size, k + 1, none⟩ = some (.int .i64 x) := by
        rw [hkW.cell (k + 1), rowV_get _ _ (by rw [HR.out.len]; omega), hx]
      have HX := Lib.hid hx
      clear hx hv hkW
      by_cases hpos : 0 < x
      · go_wp2_with (at_builtin; refine wpList_append_own_at _ rfl (.tmp 13) (.tmp 19) 23 rfl w.heap.size 59 i0 _ 2 16 Tryz.underlying23 hi hz0 hz1 hz2 rfl (by decide) _ _ (dots (vecTo r (k + 1))) rfl (HV.out.1.alloc _) ⟨wr.heap.size, 0, none⟩ 1 1 [.int .i64 ((k : Int) + 1), .int .i64 x] rfl rfl ?c1 ?c2 ?c3 ?c4 ?c5 ?_)
        case c1 => exact news_dot _ _ _ _ _ rfl
        case c2 => exact one_dot _ _
        case c3 => unfold maxLen; omega
        case c4 => omega
        case c5 => simp; omega
        intro v' w1 hown1 hg1 _ hat
        have HO1 := Lib.hid hown1
        have HG1 := Lib.hid hg1
        clear hown1 hg1 hat hc
        go_wp2
        go_roundw
        case rel =>
          refine ⟨k + 1, by go_num, by omega, ⟨?_, (HV.out.2.alloc _).grown HG1.out fun j hj e => ?_⟩, ?_⟩
          · rw [vecTo_yes r (k + 1) (by rw [HX.out]; exact hpos), dots_app, List.length_append, HX.out]
            have := HO1.out
            simpa using this
          · have := (HV.out.1.lt j e).1
            omega
          · exact (HG1.out.block _ (HKW.out.alloc _).lt fun e => own_box_ne HV.out.1 HKW.out (by decide) e.symm).trans (HKW.out.alloc _)
        case measure => simp [intOf]; omega
      · go_wp2
        go_roundw
        case rel => exact ⟨k + 1, by go_num, by omega, by rw [vecTo_no r (k + 1) (by rw [HX.out]; exact hpos)]; exact HV.out, HKW.out⟩
        case measure => simp [intOf]; omega
    · obtain rfl : k = 16 := by omega
      clear hv hkW
      go_wp2
      go_ret
      exact FreshDots.mk' rfl HV.out.1 HV.out.2
end Go.Proofs.YtnajbkccaclkcaaGreat

namespace Go.Proofs.YtnajbkccaclkcaaGreat
open Go.RowKit

theorem run_part_int (xs : Array Value) (k : Nat) (a : Int) (W : World) (h : xs[k]? = some (.int .i64 a)) : (part 3 xs k).run Tryz.prog W = .ok (.int .i64 a) W := by
  have hi : (Tryz.prog.info? 3).map (fun i => (i.zero, i.size, i.bytes)) = some (some (.int .i64 0), 1, 8) := by kernel_rfl
  obtain ⟨i0, h1, h2, h3, h4⟩ := info_parts hi
  simp [part, isAgg, run_underlying Tryz.underlying3, h]
theorem run_eqFields_two (a b c d : Int) (W : World) : (Op.eqFields 9999 #[.int .i64 a, .int .i64 b] #[.int .i64 c, .int .i64 d] (Tryz.prog.fieldsOf 59).toList).run Tryz.prog W = .ok (decide (a = c ∧ b = d)) W := by
  have hf : (Tryz.prog.fieldsOf 59).toList.map (fun f => (decide (f.name = "_"), f.type, f.offset)) = [(false, 3, 0), (false, 3, 1)] := by kernel_rfl
  generalize (Tryz.prog.fieldsOf 59).toList = fs at hf ⊢
  have hl : fs.length = 2 := by have := congrArg List.length hf; simpa using this
  obtain ⟨f0, f1, rfl⟩ : ∃ f0 f1, fs = [f0, f1] := ⟨fs[0], fs[1], List.ext_getElem (by simp [hl]) fun i h1 h2 => by
    match i, h2 with
    | 0, _ => rfl
    | 1, _ => rfl⟩
  · simp only [List.map_cons, List.map_nil, List.cons.injEq, Prod.mk.injEq, decide_eq_false_iff_not, and_true] at hf
    obtain ⟨⟨n0, t0, o0⟩, n1, t1, o1⟩ := hf
    have hu := Tryz.underlying3
    simp [Op.eqFields, n0, n1, t0, t1, o0, o1, run_part_int _ 0 a W (show #[Value.int .i64 a, .int .i64 b][0]? = _ from rfl), run_part_int _ 0 c W (show #[Value.int .i64 c, .int .i64 d][0]? = _ from rfl), run_part_int _ 1 b W (show #[Value.int .i64 a, .int .i64 b][1]? = _ from rfl), run_part_int _ 1 d W (show #[Value.int .i64 c, .int .i64 d][1]? = _ from rfl), run_equalIn_int W 9998 3 .i64 .i64 _ _ hu]
    by_cases h1 : a = c <;> by_cases h2 : b = d <;> simp [h1, h2]
theorem neq_dot (a b c d : Int) (W : World) : (binOp .neq 59 (.agg #[.int .i64 a, .int .i64 b]) (.agg #[.int .i64 c, .int .i64 d])).run Tryz.prog W = .ok (.bool (!(decide (a = c ∧ b = d)))) W := by
  have hu : Tryz.prog.underlying 59 = some (.struct (Tryz.prog.fieldsOf 59)) := by kernel_rfl
  rw [run_neq_struct, run_equalIn_struct _ _ _ _ _ hu (by kernel_rfl), run_eqFields_two, Result.andThen_ok]
theorem eql_dot (a b c d : Int) (W : World) : (binOp .eql 59 (.agg #[.int .i64 a, .int .i64 b]) (.agg #[.int .i64 c, .int .i64 d])).run Tryz.prog W = .ok (.bool (decide (a = c ∧ b = d))) W := by
  have hu : Tryz.prog.underlying 59 = some (.struct (Tryz.prog.fieldsOf 59)) := by kernel_rfl
  rw [run_eql_struct, run_equalIn_struct _ _ _ _ _ hu (by kernel_rfl), run_eqFields_two, Result.andThen_ok]

def SamePost (w : World) (b : Bool) (e : Ending) (w' : World) : Prop := e = .returned (.bool b) ∧ Kept (fun _ => False) w w'

set_option maxRecDepth 100000 in
set_option maxHeartbeats 1600000 in
theorem Same_any (A B : Option Addr) (l m : List Dt) (c d : Nat) (w : World) (hl : DotsAt w A l) (hm : DotsAt w B m) (hlen : l.length ≤ 4611686018427387904) :
    Calls Tryz.prog 49 #[.slice A l.length c, .slice B m.length d] w (SamePost w (decide (l = m))) := by
  by_cases hn : l.length = m.length
  · have HL := Lib.hid hl
    have HM := Lib.hid hm
    clear hl hm
    obtain ⟨b, hb⟩ : ∃ b, decide (l = m) = b := ⟨_, rfl⟩
    rw [hb, ← hn]
    have HN := Lib.hid hn
    have HBB := Lib.hid hb
    clear hn hb
    go_enter Tryz.func49, Tryz.ntmps49
    go_wp2_with (fail)
    go_loopw [5] (fun i wr => ∃ k : Nat, i = .int .i64 k ∧ k ≤ l.length ∧ l.take k = m.take k ∧ Kept (fun _ => False) w wr) (fun i _ => l.length - (intOf i).toNat)
    case atStart => exact ⟨0, rfl, Nat.zero_le _, rfl, Kept.refl _ _⟩
    case round =>
      obtain ⟨k, rfl, hk, hat, hkk⟩ := hrel
      have HK := Lib.hid hkk
      have HAT := Lib.hid hat
      by_cases hlt : k < l.length
      · obtain ⟨ad, rfl, x0, x1⟩ := HL.out.fresh hkk k hlt
        obtain ⟨ad', rfl, y0, y1⟩ := HM.out.fresh hkk k (by rw [← HN.out]; exact hlt)
        generalize hd : l[k] = d1 at x0 x1
        generalize hd' : m[k]'(by rw [← HN.out]; exact hlt) = d2 at y0 y1
        have HD := Lib.hid hd
        have HD' := Lib.hid hd'
        clear hd hd' hkk hat
        obtain ⟨a1, b1⟩ := d1
        obtain ⟨a2, b2⟩ := d2
        simp only at x0 x1 y0 y1
        have hx := fun W => neq_dot a1 b1 a2 b2 W
        by_cases he : a1 = a2 ∧ b1 = b2
        · rw [decide_eq_true he] at hx
          have HE := Lib.hid he
          clear he
          go_wp2_with (fail)
          go_quiet (fail)
          go_wp2
          go_roundw
          case rel =>
            refine ⟨k + 1, by go_num, by omega, ?_, HK.out.trans (Kept.drewN_eq nq) fun _ _ e => e⟩
            have hm' : k < m.length := by rw [← HN.out]; exact hlt
            rw [List.take_succ_eq_append_getElem hlt, List.take_succ_eq_append_getElem hm', HAT.out, HD.out, HD'.out, HE.out.1, HE.out.2]
          case measure => simp [intOf]; omega
        · rw [decide_eq_false he] at hx
          have HE := Lib.hid he
          clear he
          go_wp2_with (fail)
          go_quiet (fail)
          go_wp2
          go_ret
          refine ⟨?_, HK.out.trans (Kept.drewN_eq nq) fun _ _ e => e⟩
          rw [← HBB.out]
          refine (ret_bool (decide_eq_false fun e => HE.out ?_)).symm
          subst e
          have := HD.out.symm.trans HD'.out
          injection this with e1 e2
          exact ⟨e1, e2⟩
      · obtain rfl : k = l.length := by omega
        have hkk' := HK.out
        clear hat hkk
        go_wp2
        go_ret
        refine ⟨?_, hkk'⟩
        rw [← HBB.out]
        refine (ret_bool (decide_eq_true ?_)).symm
        have := HAT.out
        rwa [List.take_length, HN.out, List.take_length] at this
  · have hn' : (l.length : Int) ≠ m.length := by omega
    have hb : decide (l = m) = false := decide_eq_false fun e => hn (by rw [e])
    rw [hb]
    generalize l.length = p at *
    generalize m.length = q at *
    clear hb hl hm
    go_enter Tryz.func49, Tryz.ntmps49
    go_wp2
    go_ret
    exact ⟨rfl, Kept.refl _ _⟩
end Go.Proofs.YtnajbkccaclkcaaGreat

namespace Go.Proofs.YtnajbkccaclkcaaGreat
open Go.RowKit

def IntPost (w : World) (n : Int) (e : Ending) (w' : World) : Prop := e = .returned (.int .i64 n) ∧ Kept (fun _ => False) w w'

theorem getV_yes {l : List Dt} {st : Nat} (h : 1 ≤ st ∧ st ≤ 16) : getV l st = rg (says l) st := by
  unfold getV
  rw [if_pos (by simp [siteB]; omega)]
  rfl
theorem getV_no {l : List Dt} {s : Int} (h : siteB s = false) : getV l s = 0 := by
  unfold getV
  rw [h]
  rfl

set_option maxRecDepth 100000 in
set_option maxHeartbeats 1600000 in
theorem Get_any (A : Option Addr) (l : List Dt) (c : Nat) (site : Int) (w : World) (hl : DotsAt w A l) (hlen : l.length ≤ 4611686018427387904) :
    Calls Tryz.prog 87 #[.slice A l.length c, .int .i64 site] w (IntPost w (getV l site)) := by
  have HL := Lib.hid hl
  clear hl
  cases hs : siteB site with
  | false =>
    rw [getV_no hs]
    have HS := Lib.hid hs
    clear hs
    go_enter Tryz.func87, Tryz.ntmps87
    go_wp2_with (fail)
    refine (isSite_is _ false _ HS.out).mono ?_
    rintro e w1 ⟨rfl, rfl⟩
    go_wp2
    go_ret
    exact ⟨rfl, Kept.refl _ _⟩
  | true =>
    have h : 1 ≤ site ∧ site ≤ 16 := by simpa [siteB] using hs
    obtain ⟨st, rfl⟩ : ∃ st : Nat, site = st := ⟨site.toNat, by omega⟩
    obtain ⟨h1, h2⟩ := h
    obtain ⟨x, hx⟩ : ∃ x, rg (says l) st = x := ⟨_, rfl⟩
    rw [getV_yes (by omega), hx]
    have hix := run_index_row (says l) (Row.says l).len st (by omega)
    rw [hx] at hix
    have HS := Lib.hid hs
    clear hs hx
    go_enter Tryz.func87, Tryz.ntmps87
    go_wp2_with (fail)
    refine (isSite_is _ true _ HS.out).mono ?_
    rintro e w1 ⟨rfl, rfl⟩
    go_wp2_with (fail)
    refine (of_any A l c _ HL.out hlen).mono ?_
    rintro e w1 ⟨rfl, hk⟩
    go_wp2
    go_ret
    exact ⟨rfl, hk⟩

theorem run_index_Row (r : List Int) (hr : r.length = 17) (k : Nat) (hk : k < 17) (W : World) :
    (Instr.index 117 (.agg (rowV r)) (.int .i64 (k : Int))).run Tryz.prog W = .ok (.int .i64 (rg r k)) W := by
  have hg := rowV_get r k (by omega)
  have hi : (Tryz.prog.info? 3).map (fun i => (i.zero, i.size, i.bytes)) = some (some (.int .i64 0), 1, 8) := by kernel_rfl
  obtain ⟨i0, h1, h2, h3, h4⟩ := info_parts hi
  simp [Instr.index, asIntOf, run_underlying Tryz.underlying117, sizeOf, typeInfo, h1, h3, part, isAgg, run_underlying Tryz.underlying3, hg, hk]

set_option maxRecDepth 100000 in
set_option maxHeartbeats 1600000 in
theorem RGet_any (A : Option Addr) (l : List Dt) (c : Nat) (site : Int) (w : World) (hl : DotsAt w A l) (hlen : l.length ≤ 4611686018427387904) :
    Calls Tryz.prog 91 #[.slice A l.length c, .int .i64 site] w (IntPost w (getV l site)) := by
  have HL := Lib.hid hl
  clear hl
  cases hs : siteB site with
  | false =>
    rw [getV_no hs]
    have h : site < 1 ∨ (1 ≤ site ∧ 16 < site) := by simp [siteB] at hs; omega
    clear hs
    rcases h with h | ⟨h, h2⟩
    all_goals
      go_enter Tryz.func91, Tryz.ntmps91
      go_wp2
      go_ret
      exact ⟨rfl, Kept.refl _ _⟩
  | true =>
    have h : 1 ≤ site ∧ site ≤ 16 := by simpa [siteB] using hs
    obtain ⟨st, rfl⟩ : ∃ st : Nat, site = st := ⟨site.toNat, by omega⟩
    obtain ⟨h1, h2⟩ := h
    obtain ⟨x, hx⟩ : ∃ x, rg (says l) st = x := ⟨_, rfl⟩
    rw [getV_yes (by omega), hx]
    have hix := run_index_Row (says l) (Row.says l).len st (by omega)
    rw [hx] at hix
    clear hs hx
    go_enter Tryz.func91, Tryz.ntmps91
    go_wp2_with (fail)
    refine (Says_any A l c _ HL.out hlen).mono ?_
    rintro e w1 ⟨rfl, hk⟩
    go_wp2
    go_ret
    exact ⟨rfl, hk⟩

def BoolPost (w : World) (b : Bool) (e : Ending) (w' : World) : Prop := e = .returned (.bool b) ∧ Kept (fun _ => False) w w'

end Go.Proofs.YtnajbkccaclkcaaGreat
