/- The walk of the law's same. Conditions: both operations lie in memory; nothing is longer than a million. · There and back: what is laid is taken as it was. No program in sight but for the words. -/
import Derived.Test.YtnlklhlnnoihiaaMO34
namespace Go.Proofs.Ytnlklhlnnoihiaa
open Go Go.RowKit

theorem neq_idB (a b c e : Int) (W : World) : (binOp .neq 27 (.agg #[.int .i64 a, .int .i64 b]) (.agg #[.int .i64 c, .int .i64 e])).run Try.prog W = .ok (.bool (!decide (a = c ∧ b = e))) W := by
  have hu : Try.prog.underlying 27 = some (.struct (Try.prog.fieldsOf 27)) := by kernel_rfl
  rw [run_neq_struct, run_equalIn_struct _ _ _ _ _ hu (by kernel_rfl), run_eqFields_id, Result.andThen_ok]
theorem run_eqFields_runB (a b c a' b' c' : Int) (W : World) : (Op.eqFields 9999 #[.int .i64 a, .int .i64 b, .int .i64 c] #[.int .i64 a', .int .i64 b', .int .i64 c'] (Try.prog.fieldsOf 32).toList).run Try.prog W = .ok (decide ((a = a' ∧ b = b') ∧ c = c')) W := by
  have hf : (Try.prog.fieldsOf 32).toList.map (fun f => (decide (f.name = "_"), f.type, f.offset)) = [(false, 27, 0), (false, 3, 2)] := by kernel_rfl
  generalize (Try.prog.fieldsOf 32).toList = fs at hf ⊢
  have hl : fs.length = 2 := by have := congrArg List.length hf; simpa using this
  obtain ⟨f0, f1, rfl⟩ : ∃ f0 f1, fs = [f0, f1] := ⟨fs[0], fs[1], List.ext_getElem (by simp [hl]) fun i h1 h2 => by
    match i, h2 with
    | 0, _ => rfl
    | 1, _ => rfl⟩
  simp only [List.map_cons, List.map_nil, List.cons.injEq, Prod.mk.injEq, decide_eq_false_iff_not, and_true] at hf
  obtain ⟨⟨n0, t0, o0⟩, n1, t1, o1⟩ := hf
  have hu := Try.underlying3
  have e0 : (part 27 #[.int .i64 a, .int .i64 b, .int .i64 c] 0).run Try.prog W = .ok (.agg #[.int .i64 a, .int .i64 b]) W := run_part_id _ 0 _ _ W rfl
  have e1 : (part 3 #[.int .i64 a, .int .i64 b, .int .i64 c] 2).run Try.prog W = .ok (.int .i64 c) W := run_part_int _ 2 _ W rfl
  have e0' : (part 27 #[.int .i64 a', .int .i64 b', .int .i64 c'] 0).run Try.prog W = .ok (.agg #[.int .i64 a', .int .i64 b']) W := run_part_id _ 0 _ _ W rfl
  have e1' : (part 3 #[.int .i64 a', .int .i64 b', .int .i64 c'] 2).run Try.prog W = .ok (.int .i64 c') W := run_part_int _ 2 _ W rfl
  have c0 := run_equalIn_id 9996 a b a' b' W
  obtain ⟨p, hp⟩ : ∃ p, decide (a = a' ∧ b = b') = p := ⟨_, rfl⟩
  rw [show decide ((a = a' ∧ b = b') ∧ c = c') = (p && decide (c = c')) by rw [← hp, Bool.decide_and]]
  rw [hp] at c0
  cases p with
  | true =>
    simp [Op.eqFields, n0, n1, t0, t1, o0, o1, e0, e1, e0', e1', c0, run_equalIn_int W 9998 3 .i64 .i64 _ _ hu]
    split
    · rename_i h; rw [decide_eq_true h]
    · rename_i h; rw [decide_eq_false h]
  | false => simp [Op.eqFields, n0, t0, o0, e0, e0', c0]
theorem neq_runB (a b c a' b' c' : Int) (W : World) : (binOp .neq 32 (.agg #[.int .i64 a, .int .i64 b, .int .i64 c]) (.agg #[.int .i64 a', .int .i64 b', .int .i64 c'])).run Try.prog W = .ok (.bool (!decide ((a = a' ∧ b = b') ∧ c = c'))) W := by
  have hu : Try.prog.underlying 32 = some (.struct (Try.prog.fieldsOf 32)) := by kernel_rfl
  rw [run_neq_struct, run_equalIn_struct _ _ _ _ _ hu (by kernel_rfl), run_eqFields_runB, Result.andThen_ok]

/-- Two operations in their boxes. -/
structure Sm8 (w : World) (g h : Nat) (x y : Lop) (W : World) : Prop where
  k : Kept (fun _ => False) w W
  b : Box W g 30 x.c
  c : Box W h 30 y.c
  x : x.At W
  y : y.At W
theorem Sm8.fresh {w : World} {g h : Nat} {x y : Lop} {W W' : World} (z : Sm8 w g h x y W) (hk : Kept (fun _ => False) W W') : Sm8 w g h x y W' :=
  ⟨z.k.trans hk fun _ _ e => e, z.b.kept hk id, z.c.kept hk id, z.x.fresh hk, z.y.fresh hk⟩
theorem box11 {w : World} {g : Nat} {t : TypeId} {a0 a1 a2 a3 a4 a5 a6 a7 a8 a9 a10 : Value} (h : Box w g t #[a0, a1, a2, a3, a4, a5, a6, a7, a8, a9, a10]) :
    w.cell? ⟨g, 0, none⟩ = some a0 ∧ w.cell? ⟨g, 1, none⟩ = some a1 ∧ w.cell? ⟨g, 2, none⟩ = some a2 ∧ w.cell? ⟨g, 3, none⟩ = some a3 ∧ w.cell? ⟨g, 4, none⟩ = some a4 ∧ w.cell? ⟨g, 5, none⟩ = some a5 ∧
    w.cell? ⟨g, 6, none⟩ = some a6 ∧ w.cell? ⟨g, 7, none⟩ = some a7 ∧ w.cell? ⟨g, 8, none⟩ = some a8 ∧ w.cell? ⟨g, 9, none⟩ = some a9 ∧ w.cell? ⟨g, 10, none⟩ = some a10 :=
  ⟨h.cell 0, h.cell 1, h.cell 2, h.cell 3, h.cell 4, h.cell 5, h.cell 6, h.cell 7, h.cell 8, h.cell 9, h.cell 10⟩
def Same8Post (w : World) (x y : Opr) (r : Ending) (w' : World) : Prop := ∃ b, r = .returned (.bool b) ∧ (b = true ↔ x = y) ∧ Kept (fun _ => False) w w'
set_option maxRecDepth 100000 in
set_option maxHeartbeats 3200000 in
theorem Same8_any (x y : Lop) (w : World) (hx : x.At w) (hy : y.At w) (hdl : x.o.deps.length ≤ 1000000) (hgl : x.o.gone.length ≤ 1000000) :
    Calls Try.prog 22 #[.agg x.c, .agg y.c] w (Same8Post w x.o y.o) := by
  have hk : Kept (fun _ => False) w ((w.alloc (.cells x.c 30)).alloc (.cells y.c 30)) := ((Kept.refl _ w).alloc _).alloc _
  have HZ := Lib.hid (show Sm8 w w.heap.size (w.heap.size + 1) x y ((w.alloc (.cells x.c 30)).alloc (.cells y.c 30)) from
    ⟨hk, (Box.new w _ _).alloc _, by have := Box.new (w.alloc (.cells x.c 30)) 30 y.c; rwa [World.size_alloc] at this, hx.fresh hk, hy.fresh hk⟩)
  clear hk hx hy
  obtain ⟨⟨⟨ds, dq⟩, deps, kind, ⟨it, is⟩, ⟨rt, rs⟩, text, gone, site⟩, dA, dc, gA, gc⟩ := x
  obtain ⟨⟨⟨ds', dq'⟩, deps', kind', ⟨it', is'⟩, ⟨rt', rs'⟩, text', gone', site'⟩, dA', dc', gA', gc'⟩ := y
  have HNE := Lib.hid (fun (h : ¬ (ds = ds' ∧ dq = dq') ∨ kind ≠ kind' ∨ ¬ (it = it' ∧ is = is') ∨ ¬ (rt = rt' ∧ rs = rs') ∨ text ≠ text' ∨ site ≠ site' ∨ deps ≠ deps' ∨ gone ≠ gone') => show (false = true ↔ (⟨⟨ds, dq⟩, deps, kind, ⟨it, is⟩, ⟨rt, rs⟩, text, gone, site⟩ : Opr) = ⟨⟨ds', dq'⟩, deps', kind', ⟨it', is'⟩, ⟨rt', rs'⟩, text', gone', site'⟩) from by
    refine ⟨fun e => (by cases e), fun e => ?_⟩
    injection e with e1 e2 e3 e4 e5 e6 e7 e8
    injection e1 with e11 e12
    injection e4 with e41 e42
    injection e5 with e51 e52
    subst e11 e12 e2 e3 e41 e42 e51 e52 e6 e7 e8
    simp at h)
  unfold Lop.c Opr.cells at *
  simp only at *
  obtain ⟨c0, c1, c2, c3, c4, c5, c6, c7, c8, c9, c10⟩ := box11 HZ.out.b
  obtain ⟨d0, d1, d2, d3, d4, d5, d6, d7, d8, d9, d10⟩ := box11 HZ.out.c
  have n1 := neq_dot ds dq ds' dq'
  have n2 := neq_idB it is it' is'
  have n3 := neq_idB rt rs rt' rs'
  by_cases h1 : ds = ds' ∧ dq = dq'
  · obtain ⟨rfl, rfl⟩ := h1
    simp only [and_self, decide_true, Bool.not_true] at n1
    by_cases h2 : kind = kind'
    · subst h2
      by_cases h3 : it = it' ∧ is = is'
      · obtain ⟨rfl, rfl⟩ := h3
        simp only [and_self, decide_true, Bool.not_true] at n2
        by_cases h4 : rt = rt' ∧ rs = rs'
        · obtain ⟨rfl, rfl⟩ := h4
          simp only [and_self, decide_true, Bool.not_true] at n3
          by_cases h5 : text = text'
          · subst h5
            by_cases h6 : site = site'
            · subst h6
              by_cases h7 : deps.length = deps'.length
              · skip
                by_cases h8 : gone.length = gone'.length
                · skip
                  have HK := Lib.hid HZ.out.k
                  have HB := Lib.hid HZ.out.b
                  have HC := Lib.hid HZ.out.c
                  have HXD := Lib.hid HZ.out.x.d
                  have HXG := Lib.hid HZ.out.x.g
                  have HYD := Lib.hid HZ.out.y.d
                  have HYG := Lib.hid HZ.out.y.g
                  unfold Lop.c Opr.cells at HB HC
                  simp only at HB HC HXD HXG HYD HYG
                  rw [← h7, ← h8] at HK HB HC HXD HXG HYD HYG
                  rw [← h7] at d2
                  rw [← h8] at d9
                  have H7 := Lib.hid h7
                  have H8 := Lib.hid h8
                  rw [← h7, ← h8]
                  clear HZ h7 h8 c0 c1 c2 c3 c4 c5 c6 c7 c8 c9 c10 d0 d1 d2 d3 d4 d5 d6 d7 d8 d9 d10
                  obtain ⟨c0, c1, c2, c3, c4, c5, c6, c7, c8, c9, c10⟩ := box11 HB.out
                  obtain ⟨d0, d1, d2, d3, d4, d5, d6, d7, d8, d9, d10⟩ := box11 HC.out
                  go_enter Try.func22, Try.ntmps22
                  go_wp2_with (fail)
                  clear c0 c1 c2 c3 c4 c5 c6 c7 c8 c9 c10 d0 d1 d2 d3 d4 d5 d6 d7 d8 d9 d10
                  generalize (w.alloc _).alloc _ = w0 at HK HB HC HXD HXG HYD HYG ⊢
                  go_loopw [5] (fun i wr => ∃ k : Nat, i = .int .i64 k ∧ k ≤ deps.length ∧ deps.take k = deps'.take k ∧ Kept (fun _ => False) w0 wr) (fun i _ => deps.length - (intOf i).toNat)
                  case atStart => exact ⟨0, rfl, Nat.zero_le _, rfl, Kept.refl _ _⟩
                  case round =>
                    obtain ⟨k, rfl, hk, hat, hkk⟩ := hrel
                    have HKK := Lib.hid hkk
                    have HAT := Lib.hid hat
                    have c2 : wr.cell? ⟨w.heap.size, 2, none⟩ = some (.slice dA deps.length dc) := ((HB.out.kept hkk id).cell 2).trans rfl
                    have d2 : wr.cell? ⟨w.heap.size + 1, 2, none⟩ = some (.slice dA' deps.length dc') := ((HC.out.kept hkk id).cell 2).trans rfl
                    by_cases hlt : k < deps.length
                    · obtain ⟨ad, rfl, x0, x1⟩ := HXD.out.fresh hkk k hlt
                      obtain ⟨ad', rfl, y0, y1⟩ := HYD.out.fresh hkk k (by rw [← H7.out]; exact hlt)
                      generalize hd1 : deps[k] = q1 at x0 x1
                      generalize hd2 : deps'[k]'(by rw [← H7.out]; exact hlt) = q2 at y0 y1
                      have HD1 := Lib.hid hd1
                      have HD2 := Lib.hid hd2
                      clear hd1 hd2 hkk hat
                      have n := neq_dot q1.site q1.seq q2.site q2.seq
                      by_cases he : q1 = q2
                      · have HQ := Lib.hid he
                        subst he
                        simp only [and_self, decide_true, Bool.not_true] at n
                        go_wp2_with (fail)
                        go_quiet (fail)
                        go_wp2_with (fail)
                        go_roundw
                        case rel =>
                          refine ⟨k + 1, by go_num, by omega, ?_, HKK.out.trans ((Kept.refl _ _).drewN nq) fun _ _ e => e⟩
                          have hm' : k < deps'.length := by rw [← H7.out]; exact hlt
                          rw [List.take_succ_eq_append_getElem hlt, List.take_succ_eq_append_getElem hm', HAT.out, HD1.out, HD2.out]
                        case measure => simp [intOf]; omega
                      · have hq : ¬ (q1.site = q2.site ∧ q1.seq = q2.seq) := fun ⟨e1, e2⟩ => he (by cases q1; cases q2; simp only at e1 e2; rw [e1, e2])
                        simp only [hq, decide_false, Bool.not_false] at n
                        have HNO := Lib.hid (HNE.out (.inr (.inr (.inr (.inr (.inr (.inr (.inl fun e => he (by rw [← HD1.out, ← HD2.out]; simp only [e])))))))))
                        clear hq he
                        go_wp2_with (fail)
                        go_quiet (fail)
                        go_wp2_with (fail)
                        go_ret
                        exact ⟨false, rfl, HNO.out, HK.out.trans (HKK.out.trans ((Kept.refl _ _).drewN nq) fun _ _ e => e) fun _ _ e => e⟩
                    · obtain rfl : k = deps.length := by omega
                      have hdd : deps = deps' := by have := HAT.out; rwa [List.take_length, H7.out, List.take_length] at this
                      have HDD := Lib.hid hdd
                      have HK1 := Lib.hid (HK.out.trans HKK.out fun _ _ e => e)
                      have HB1 := Lib.hid (HB.out.kept hkk id)
                      have HC1 := Lib.hid (HC.out.kept hkk id)
                      have HXG1 := Lib.hid (HXG.out.fresh hkk)
                      have HYG1 := Lib.hid (HYG.out.fresh hkk)
                      clear hat hkk hdd HK HB HC HXG HYG HKK HAT HXD HYD
                      go_wp2_with (fail)
                      clear c2 d2
                      go_loopw [6] (fun i wr' => ∃ k : Nat, i = .int .i64 k ∧ k ≤ gone.length ∧ gone.take k = gone'.take k ∧ Kept (fun _ => False) wr wr') (fun i _ => gone.length - (intOf i).toNat)
                      case atStart => exact ⟨0, rfl, Nat.zero_le _, rfl, Kept.refl _ _⟩
                      case round =>
                        obtain ⟨k, rfl, hk, hat, hkk⟩ := hrel
                        have HKK := Lib.hid hkk
                        have HAT := Lib.hid hat
                        have c9 : wr.cell? ⟨w.heap.size, 9, none⟩ = some (.slice gA gone.length gc) := ((HB1.out.kept hkk id).cell 9).trans rfl
                        have d9 : wr.cell? ⟨w.heap.size + 1, 9, none⟩ = some (.slice gA' gone.length gc') := ((HC1.out.kept hkk id).cell 9).trans rfl
                        by_cases hlt : k < gone.length
                        · obtain ⟨ad, rfl, x0, x1, x2⟩ := HXG1.out.fresh hkk k hlt
                          obtain ⟨ad', rfl, y0, y1, y2⟩ := HYG1.out.fresh hkk k (by rw [← H8.out]; exact hlt)
                          generalize hd1 : gone[k] = q1 at x0 x1 x2
                          generalize hd2 : gone'[k]'(by rw [← H8.out]; exact hlt) = q2 at y0 y1 y2
                          have HD1 := Lib.hid hd1
                          have HD2 := Lib.hid hd2
                          clear hd1 hd2 hkk hat
                          obtain ⟨⟨t1, s1⟩, n1⟩ := q1
                          obtain ⟨⟨t2, s2⟩, n2⟩ := q2
                          simp only at x0 x1 x2 y0 y1 y2
                          have n := neq_runB t1 s1 n1 t2 s2 n2
                          by_cases he : (t1 = t2 ∧ s1 = s2) ∧ n1 = n2
                          · obtain ⟨⟨rfl, rfl⟩, rfl⟩ := he
                            simp only [and_self, decide_true, Bool.not_true] at n
                            go_wp2_with (fail)
                            go_quiet (fail)
                            go_wp2_with (fail)
                            go_roundw
                            case rel =>
                              refine ⟨k + 1, by go_num, by omega, ?_, HKK.out.trans ((Kept.refl _ _).drewN nq) fun _ _ e => e⟩
                              have hm' : k < gone'.length := by rw [← H8.out]; exact hlt
                              rw [List.take_succ_eq_append_getElem hlt, List.take_succ_eq_append_getElem hm', HAT.out, HD1.out, HD2.out]
                            case measure => simp [intOf]; omega
                          · simp only [he, decide_false, Bool.not_false] at n
                            have HNO := Lib.hid (HNE.out (.inr (.inr (.inr (.inr (.inr (.inr (.inr fun e => he (by
                              have h1 := HD1.out
                              have h2 := HD2.out
                              simp only [e] at h1
                              have h3 := h1.symm.trans h2
                              injection h3 with h3 h4
                              injection h3 with h5 h6
                              exact ⟨⟨h5, h6⟩, h4⟩)))))))))
                            clear he
                            go_wp2_with (fail)
                            go_quiet (fail)
                            go_wp2_with (fail)
                            go_ret
                            exact ⟨false, rfl, HNO.out, HK1.out.trans (HKK.out.trans ((Kept.refl _ _).drewN nq) fun _ _ e => e) fun _ _ e => e⟩
                        · obtain rfl : k = gone.length := by omega
                          have hgg : gone = gone' := by have := HAT.out; rwa [List.take_length, H8.out, List.take_length] at this
                          have HGG := Lib.hid hgg
                          have HKE := Lib.hid (HK1.out.trans HKK.out fun _ _ e => e)
                          clear hat hkk hgg HAT
                          go_wp2_with (fail)
                          go_ret
                          exact ⟨true, rfl, ⟨fun _ => by rw [HDD.out, HGG.out], fun _ => rfl⟩, HKE.out⟩
                · have hb8 : ((gone.length : Int) != (gone'.length : Int)) = true := bne_iff_ne.2 (by omega)
                  have HK := Lib.hid HZ.out.k
                  rw [← h7] at d2 HK
                  rw [← h7]
                  clear h7
                  go_enter Try.func22, Try.ntmps22
                  go_wp2_with (fail)
                  go_ret
                  exact ⟨false, rfl, HNE.out (.inr (.inr (.inr (.inr (.inr (.inr (.inr fun e => h8 (by rw [e])))))))), HK.out⟩
              · have hb7 : ((deps.length : Int) != (deps'.length : Int)) = true := bne_iff_ne.2 (by omega)
                go_enter Try.func22, Try.ntmps22
                go_wp2_with (fail)
                go_ret
                exact ⟨false, rfl, HNE.out (.inr (.inr (.inr (.inr (.inr (.inr (.inl fun e => h7 (by rw [e])))))))), HZ.out.k⟩
            · have hb6 : (site != site') = true := bne_iff_ne.2 h6
              go_enter Try.func22, Try.ntmps22
              go_wp2_with (fail)
              go_ret
              exact ⟨false, rfl, HNE.out (.inr (.inr (.inr (.inr (.inr (.inl h6)))))), HZ.out.k⟩
          · have hb5 : (text.toList == text'.toList) = false := by rw [str_dec]; exact decide_eq_false h5
            go_enter Try.func22, Try.ntmps22
            go_wp2_with (fail)
            go_ret
            exact ⟨false, rfl, HNE.out (.inr (.inr (.inr (.inr (.inl h5))))), HZ.out.k⟩
        · simp only [h4, decide_false, Bool.not_false] at n3
          go_enter Try.func22, Try.ntmps22
          go_wp2_with (fail)
          go_ret
          exact ⟨false, rfl, HNE.out (.inr (.inr (.inr (.inl h4)))), HZ.out.k⟩
      · simp only [h3, decide_false, Bool.not_false] at n2
        go_enter Try.func22, Try.ntmps22
        go_wp2_with (fail)
        go_ret
        exact ⟨false, rfl, HNE.out (.inr (.inr (.inl h3))), HZ.out.k⟩
    · have hb2 : (kind != kind') = true := bne_iff_ne.2 h2
      go_enter Try.func22, Try.ntmps22
      go_wp2_with (fail)
      go_ret
      exact ⟨false, rfl, HNE.out (.inr (.inl h2)), HZ.out.k⟩
  · simp only [h1, decide_false, Bool.not_false] at n1
    go_enter Try.func22, Try.ntmps22
    go_wp2_with (fail)
    go_ret
    exact ⟨false, rfl, HNE.out (.inl h1), HZ.out.k⟩
end Go.Proofs.Ytnlklhlnnoihiaa

namespace Go.Proofs.Ytnlklhlnnoihiaa
open Go Go.RowKit

theorem strOf_tb (s : ByteArray) : strOfNums (tb s) = s := by
  apply ByteArray.ext
  apply Array.toList_inj.1
  rw [strOfNums_data]
  unfold tb
  rw [List.map_map]
  conv => rhs; rw [← List.map_id s.data.toList]
  apply List.map_congr_left
  intro x _
  simp
theorem takeRuns_encs (l : List Rn) (hl : ∀ r ∈ l, okRn r = true) : ∀ (acc : List Rn) (t : List Int), takeRuns l.length acc ⟨encs (goneNums l) ++ t, 0⟩ = (acc ++ l, ⟨t, 0⟩) := by
  induction l with
  | nil => intro acc t; simp [takeRuns, goneNums, encs]
  | cons r l ih =>
    intro acc t
    have hr := hl r (by simp)
    rw [okRn_iff, okId_iff] at hr
    obtain ⟨⟨⟨it, is⟩, n⟩, rfl⟩ : ∃ q : Rn, r = q := ⟨r, rfl⟩
    simp only at hr
    obtain ⟨a, rfl⟩ : ∃ a : Nat, it = a := ⟨it.toNat, by omega⟩
    obtain ⟨b, rfl⟩ : ∃ a : Nat, is = a := ⟨is.toNat, by omega⟩
    obtain ⟨c, rfl⟩ : ∃ a : Nat, n = a := ⟨n.toNat, by omega⟩
    have he : encs (goneNums (⟨⟨(a : Int), (b : Int)⟩, (c : Int)⟩ :: l)) ++ t = enc a ++ (enc b ++ (enc c ++ (encs (goneNums l) ++ t))) := by
      simp [goneNums, encs]
    rw [he]
    obtain ⟨v1, n1⟩ := Rd.num (x := a) (by omega) (enc b ++ (enc c ++ (encs (goneNums l) ++ t)))
    obtain ⟨v2, n2⟩ := Rd.num (x := b) (by omega) (enc c ++ (encs (goneNums l) ++ t))
    obtain ⟨v3, n3⟩ := Rd.num (x := c) (by omega) (encs (goneNums l) ++ t)
    rw [List.length_cons, takeRuns, v1, n1, v2, n2, v3, n3, if_neg (by simp), ih (fun r hr => hl r (by simp [hr]))]
    simp
theorem Rd.text (s : ByteArray) (hs : s.size ≤ 9223372036854775807) (t : List Int) : (⟨enc s.size ++ tb s ++ t, 0⟩ : Rd).txt = s ∧ (⟨enc s.size ++ tb s ++ t, 0⟩ : Rd).nt = ⟨t, 0⟩ := by
  rw [List.append_assoc]
  obtain ⟨v1, n1⟩ := Rd.num (x := s.size) hs (tb s ++ t)
  have hl : s.size ≤ (tb s ++ t).length := by rw [List.length_append, tb_len]; omega
  unfold Rd.txt Rd.nt
  rw [v1, n1, if_pos ⟨rfl, rfl, hl⟩, if_neg (by simp), if_neg (by simp), if_pos hl]
  have ht : (tb s ++ t).take s.size = tb s := by rw [← tb_len s, List.take_left]
  have hd : (tb s ++ t).drop s.size = t := by rw [← tb_len s, List.drop_left]
  simp only [ht, hd, strOf_tb, and_self]
theorem intoV_enc {o : Opr} (hok : okOp o = true) (hs : o.Small) (t : List Int) :
    intoV { zeroO with dot := o.dot, deps := o.deps, kind := o.kind } ⟨encT o ++ t, 0⟩ = (0, o, ⟨t, 0⟩) := by
  have hf := okOp_f hok
  have htl := hs.tl
  obtain ⟨⟨ds, dq⟩, deps, kind, ⟨it, is⟩, ⟨rt, rs⟩, text, gone, site⟩ := o
  unfold intoV encT
  rcases hf.kd with ⟨k1, hgo, hsi, hc0, hc1, hb, his, hid, hti, href, hlt⟩ | ⟨k2, hid, href, htx, hsi, hg0, hg1, hck⟩ | ⟨k3, hgo, hid, href, htx, hs1, hs2⟩ | ⟨k4, hgo, hid, href, htx, hsi⟩
  · simp only at k1 hgo hsi his hid href hlt htl hti
    subst k1 hgo hsi his
    rw [okId_iff] at hid
    simp only at hid
    have hr0 : 0 ≤ rt ∧ rt ≤ 2147483647 ∧ 0 ≤ rs ∧ rs ≤ 16 := by
      rcases href with h | h
      · injection h with h1 h2; subst h1 h2; exact ⟨by decide, by decide, by decide, by decide⟩
      · rw [okId_iff] at h; simp only at h; omega
    obtain ⟨a, rfl⟩ : ∃ a : Nat, it = a := ⟨it.toNat, by omega⟩
    obtain ⟨b, rfl⟩ : ∃ a : Nat, rt = a := ⟨rt.toNat, by omega⟩
    obtain ⟨c, rfl⟩ : ∃ a : Nat, rs = a := ⟨rs.toNat, by omega⟩
    simp only [if_true, Int.toNat_natCast]
    have he : encs [a, b, c] ++ (enc text.size ++ tb text) ++ t = enc a ++ (enc b ++ (enc c ++ (enc text.size ++ tb text ++ t))) := by simp [encs]
    rw [he]
    obtain ⟨v1, n1⟩ := Rd.num (x := a) (by omega) (enc b ++ (enc c ++ (enc text.size ++ tb text ++ t)))
    obtain ⟨v2, n2⟩ := Rd.num (x := b) (by omega) (enc c ++ (enc text.size ++ tb text ++ t))
    obtain ⟨v3, n3⟩ := Rd.num (x := c) (by omega) (enc text.size ++ tb text ++ t)
    obtain ⟨v4, n4⟩ := Rd.text text (by omega) t
    rw [v1, n1, v2, n2, v3, n3, v4, n4]
    rfl
  · simp only at k2 hid href htx hsi hg0 hg1 hck
    subst k2 htx hsi
    injection hid with h1 h2
    injection href with h3 h4
    subst h1 h2 h3 h4
    rw [if_neg (by simp), if_pos (by simp)]
    simp only [if_neg (show ¬ (2 : Int) = 1 by decide), if_true]
    have he : encs (gone.length :: goneNums gone) ++ t = enc gone.length ++ (encs (goneNums gone) ++ t) := by simp [encs]
    have hr : intoR ⟨encs (gone.length :: goneNums gone) ++ t, 0⟩ = (0, gone, ⟨t, 0⟩) := by
      obtain ⟨v1, n1⟩ := Rd.num (x := gone.length) (by omega) (encs (goneNums gone) ++ t)
      rw [he]
      unfold intoR
      rw [v1, n1, if_neg (by simp), if_neg (by omega), takeRuns_encs gone (chkR_all _ _ hck) [] t]
      simp
    rw [hr]
    rfl
  · simp only at k3 hgo hid href htx hs1 hs2
    subst k3 hgo htx
    injection hid with h1 h2
    injection href with h3 h4
    subst h1 h2 h3 h4
    obtain ⟨a, rfl⟩ : ∃ a : Nat, site = a := ⟨site.toNat, by omega⟩
    simp only [if_neg (show ¬ (3 : Int) = 1 by decide), if_neg (show ¬ (3 : Int) = 2 by decide), if_true, Int.toNat_natCast, encs_one]
    obtain ⟨v1, n1⟩ := Rd.num (x := a) (by omega) t
    rw [v1, n1]
    rfl
  · simp only at k4 hgo hid href htx hsi
    subst k4 hgo htx hsi
    injection hid with h1 h2
    injection href with h3 h4
    subst h1 h2 h3 h4
    simp only [if_neg (show ¬ (4 : Int) = 1 by decide), if_neg (show ¬ (4 : Int) = 2 by decide), if_neg (show ¬ (4 : Int) = 3 by decide), List.nil_append]
    rfl
theorem takeR_enc {o : Opr} (hok : okOp o = true) (hs : o.Small) (t : List Int) : takeR ⟨encOp o ++ t, 0⟩ = (0, o, ⟨t, 0⟩) := by
  have hf := okOp_f hok
  have h1 := hf.s1
  have h2 := hf.s2
  have h3 := hf.q1
  have h4 := hf.q2
  have hkd : 1 ≤ o.kind ∧ o.kind ≤ 4 := by rcases hf.kd with ⟨k, -⟩ | ⟨k, -⟩ | ⟨k, -⟩ | ⟨k, -⟩ <;> omega
  have hdl : o.deps.length ≤ 16 := by
    have := vec_len (Row.says o.deps)
    rwa [vec_says hf.dv] at this
  have hi := intoV_enc hok hs t
  have hdv := hf.dv
  unfold encOp
  obtain ⟨⟨ds, dq⟩, deps, kind, id, ref, text, gone, site⟩ := o
  simp only at h1 h2 h3 h4 hkd hdl hi hdv ⊢
  obtain ⟨a, rfl⟩ : ∃ a : Nat, kind = a := ⟨kind.toNat, by omega⟩
  obtain ⟨b, rfl⟩ : ∃ a : Nat, ds = a := ⟨ds.toNat, by omega⟩
  obtain ⟨c, rfl⟩ : ∃ a : Nat, dq = a := ⟨dq.toNat, by omega⟩
  simp only [Int.toNat_natCast]
  generalize encT _ = T at hi ⊢
  have he : encs [a, b, c] ++ (encs (vnums deps) ++ T) ++ t = enc a ++ (enc b ++ (enc c ++ (encs (vnums deps) ++ (T ++ t)))) := by simp [encs]
  rw [he]
  obtain ⟨v1, n1⟩ := Rd.num (x := a) (by omega) (enc b ++ (enc c ++ (encs (vnums deps) ++ (T ++ t))))
  obtain ⟨v2, n2⟩ := Rd.num (x := b) (by omega) (enc c ++ (encs (vnums deps) ++ (T ++ t)))
  obtain ⟨v3, n3⟩ := Rd.num (x := c) (by omega) (encs (vnums deps) ++ (T ++ t))
  have hv := takeV_encs hdv hdl (T ++ t)
  unfold takeR
  rw [v1, n1, v2, n2, v3, n3, hv, if_neg (by simp), if_neg (by omega), if_neg (by simp), if_neg (by simp)]
  exact hi
theorem takeO_enc {o : Opr} (hok : okOp o = true) (hs : o.Small) (t : List Int) : takeO ⟨encOp o ++ t, 0⟩ = (0, o, ⟨t, 0⟩) := by
  unfold takeO
  rw [takeR_enc hok hs t, if_neg (by simp), if_pos hok]
theorem decO_enc {o : Opr} (hok : okOp o = true) (hs : o.Small) : decO (encOp o) = (0, o) := by
  have := takeO_enc hok hs []
  rw [List.append_nil] at this
  unfold decO
  rw [this, if_neg (by simp), if_neg (by simp)]
end Go.Proofs.Ytnlklhlnnoihiaa
