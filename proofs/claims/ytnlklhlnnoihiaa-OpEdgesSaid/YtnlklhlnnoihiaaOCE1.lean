/- The walk of OpEdges: it is true. Conditions: the operation lies in memory. -/
import Derived.Test.YtnlklhlnnoihiaaOCE0
namespace Go.Proofs.Ytnlklhlnnoihiaa
open Go Go.RowKit

/-- OpEdges' memory: the operation's box and that of the one that is turned. -/
structure EgAt (w : World) (x : Lop) (N : Nat) (cs : Array Value) (W : World) : Prop where
  b : Box W w.heap.size 30 x.c
  n : Box W N 30 cs
  h : x.At w
  k : Kept (fun _ => False) w W
  lt : w.heap.size < N
  ge : w.heap.size ≤ N
section
variable {w W W' : World} {x : Lop} {N : Nat} {cs : Array Value}
theorem EgAt.set (h : EgAt w x N cs W) (i : Nat) (u : Value) : EgAt w x N (cs.setIfInBounds i u) (W.setCell ⟨N, i, none⟩ u) := by
  have hk : Kept (fun k => k = N) W (W.setCell ⟨N, i, none⟩ u) := (Kept.refl _ _).at i u (.inl rfl)
  have hl := h.lt
  exact ⟨h.b.kept hk (by omega), h.n.set i u, h.h, h.k.trans hk fun k h1 e => by have := h.ge; omega, h.lt, h.ge⟩
theorem EgAt.at (h : EgAt w x N cs W) : x.At W := h.h.fresh h.k
theorem own_empty (w : World) : (w.alloc (.cells #[] 32)).ownsRow w.heap.size 32 3 (.slice (some ⟨w.heap.size, 0, none⟩) 0 0) 0 [] := ⟨rfl, .inr ⟨w.heap.size, 0, #[], rfl, Nat.le_refl _, heap_alloc_new w _, Nat.le_refl _, by decide, rfl, rfl⟩⟩
theorem EgAt.fresh (h : EgAt w x N cs W) (hk : Kept (fun _ => False) W W') : EgAt w x N cs W' := ⟨h.b.kept hk id, h.n.kept hk id, h.h, h.k.trans hk fun _ _ e => e, h.lt, h.ge⟩
end
set_option maxRecDepth 100000 in
set_option maxHeartbeats 30000000 in
theorem Edges_walk (x : Lop) (which v : Int) (w : World) (hx : x.At w) (hni : x.Nil) (hc : ∀ r ∈ x.o.gone, inI r.count) : Calls Try.prog 8 #[.agg x.c, .int .i64 which, .int .i64 v] w (KnownPost w) := by
  have hk0 : Kept (fun _ => False) w (w.alloc (.cells x.c 30)) := (Kept.refl _ _).alloc _
  have HK := Lib.hid hk0
  have HX := Lib.hid (hx.fresh hk0)
  have HX0 := Lib.hid hx
  have HB := Lib.hid (Box.new w 30 x.c)
  have HC := Lib.hid hc
  have HNI := Lib.hid hni
  have HLG := Lib.hid (fun W => Long_any x W)
  have HCK := Lib.hid (fun W (h1 : x.At W) (h2 : x.o.Small) => Check_lop x W h1 h2)
  obtain ⟨cs, hcs⟩ : ∃ cs, x.c = cs := ⟨_, rfl⟩
  have HSZ := Lib.hid (show cs.size = 11 by rw [← hcs]; rfl)
  rw [hcs] at HK HX HB HLG HCK ⊢
  have HCS := Lib.hid hcs
  clear hk0 hx hni hc hcs
  go_enter Try.func8, Try.ntmps8
  go_upto_region 1 with (fail)
  generalize w.alloc (.cells cs 30) = w0 at HK HX HB ⊢
  go_wp2_with (refine wpList_load_op rfl _ rfl w.heap.size rfl _ cs HSZ.out HB.out ?_)
  refine (HLG.out w0).mono ?_
  cases hl : isLong x.o with
  | true =>
    rintro r w1 ⟨rfl, hk⟩
    have HK1 := Lib.hid (HK.out.trans hk fun _ _ e => e)
    clear hk
    go_wp2_with (fail)
    refine (Known8_any w1).mono ?_
    rintro r w2 ⟨rfl, hk⟩
    have HK2 := Lib.hid (HK1.out.trans hk fun _ _ e => e)
    clear hk
    go_wp2_with (fail)
    go_ret
    exact ⟨rfl, HK2.out⟩
  | false =>
    rintro r w1 ⟨rfl, hk⟩
    have HSM := Lib.hid (show x.o.Small from by
      have := of_decide_eq_false hl
      exact ⟨HC.out, by omega, by omega, by omega⟩)
    have HTL := Lib.hid (show x.o.text.size ≤ 60000 ∧ x.o.gone.length ≤ 3000 ∧ x.o.deps.length ≤ 3000 from by have := of_decide_eq_false hl; omega)
    have HK1 := Lib.hid (HK.out.trans hk fun _ _ e => e)
    have HX1 := Lib.hid (HX.out.fresh hk)
    have HB1 := Lib.hid (HB.out.kept hk id)
    clear hk hl HK HX HB HLG
    go_wp2_with (refine wpList_unguard rfl ?_; refine wpList_load_op rfl _ rfl w.heap.size rfl _ cs HSZ.out HB1.out ?_)
    refine (HCK.out w1 HX1.out HSM.out).mono ?_
    unfold IntPost opE
    cases hok : okOp x.o with
    | false =>
      rintro r w2 ⟨rfl, hk⟩
      have HK2 := Lib.hid (HK1.out.trans hk fun _ _ e => e)
      clear hk
      simp only [Bool.false_eq_true, if_false]
      go_wp2_with (fail)
      refine (Known8_any w2).mono ?_
      rintro r w3 ⟨rfl, hk⟩
      have HK3 := Lib.hid (HK2.out.trans hk fun _ _ e => e)
      clear hk
      go_wp2_with (fail)
      go_ret
      exact ⟨rfl, HK3.out⟩
    | true =>
      rintro r w2 ⟨rfl, hk⟩
      have HK2 := Lib.hid (HK1.out.trans hk fun _ _ e => e)
      have HX2 := Lib.hid (HX1.out.fresh hk)
      have HB2 := Lib.hid (HB1.out.kept hk id)
      have HOK := Lib.hid ((okOp_iff x.o).1 hok)
      clear hk hok HK1 HX1 HB1
      simp only [if_true]
      have hka : Kept (fun _ => False) w2 (w2.alloc (.cells zeroC 30)) := (Kept.refl _ _).alloc _
      have HN := Lib.hid (Box.new w2 30 zeroC)
      have HBA := Lib.hid (HB2.out.kept hka id)
      have HOY := Lib.hid (show cs.all (·.oneCell') = true by rw [← HCS.out]; exact Opr.cells_one _ _ _ _ _)
      have hlt : w.heap.size < w2.heap.size := HB2.out.lt
      go_upto_region 3 with (fail)
      go_wp2_with (first | refine wpList_load_op rfl _ rfl w.heap.size rfl _ cs HSZ.out HB2.out ?_ | (refine wpList_store_box rfl 30 _ _ rfl w2.heap.size cs rfl rfl 30 zeroC HN.out (by rw [HSZ.out]; exact size_op) HSZ.out.symm HOY.out ?_; intro w3 HN3 hk3; refine Hid.out ?_))
      refine Lib.hid ?_
      have HZ := Lib.hid (show EgAt w x w2.heap.size cs w3 from ⟨by rw [HCS.out]; exact (HBA.out.kept hk3 (by omega)), HN3, HX0.out, (HK2.out.trans hka fun _ _ e => e).trans hk3 fun k hk e => by omega, hlt, Nat.le_of_lt hlt⟩)
      have HC2 := Lib.hid (show cs[2]? = some (.slice x.dA x.o.deps.length x.dc) by rw [← HCS.out]; rfl)
      have HC8 := Lib.hid (show cs[8]? = some (.string x.o.text) by rw [← HCS.out]; rfl)
      have HC9 := Lib.hid (show cs[9]? = some (.slice x.gA x.o.gone.length x.gc) by rw [← HCS.out]; rfl)
      have HCI := Lib.hid (show cs[0]? = some (.int .i64 x.o.dot.site) ∧ cs[1]? = some (.int .i64 x.o.dot.seq) ∧ cs[3]? = some (.int .i64 x.o.kind) ∧ cs[4]? = some (.int .i64 x.o.id.time) ∧ cs[5]? = some (.int .i64 x.o.id.site) ∧ cs[6]? = some (.int .i64 x.o.ref.time) ∧ cs[7]? = some (.int .i64 x.o.ref.site) ∧ cs[10]? = some (.int .i64 x.o.site) by rw [← HCS.out]; exact ⟨rfl, rfl, rfl, rfl, rfl, rfl, rfl, rfl⟩)
      obtain ⟨N, hN⟩ : ∃ N, w2.heap.size = N := ⟨_, rfl⟩
      rw [hN] at HZ hlt ⊢
      clear hka HN HBA hk3 HN3 HK2 HX2 HB2 HOY hN
      have c3 : w3.cell? ⟨w.heap.size, 3, none⟩ = some (.int .i64 x.o.kind) := (HZ.out.b.cell 3).trans (by rw [HCS.out]; exact HCI.out.2.2.1)
      have c8 : w3.cell? ⟨w.heap.size, 8, none⟩ = some (.string x.o.text) := (HZ.out.b.cell 8).trans (by rw [HCS.out]; exact HC8.out)
      obtain ⟨ins, hins⟩ : ∃ ins, (x.o.kind == 1) = ins := ⟨_, rfl⟩
      have HIN := Lib.hid hins
      go_upto_region 7 with (fail)
      clear hins c3
      have hts := HSM.out.tl
      obtain ⟨text, htext⟩ : ∃ text, x.o.text = text := ⟨_, rfl⟩
      have HTX := Lib.hid htext
      rw [htext] at HC8 c8 hts
      clear htext
      go_upto_block 0 with (fail)
      go_cut [10] (fun n wx => n = .int .i64 (cnt text) ∧ Kept (fun _ => False) w3 wx)
      case first =>
        have hc := cnt_le text
        obtain ⟨c, hcc⟩ : ∃ c, cnt text = c := ⟨_, rfl⟩
        have HCN := Lib.hid hcc
        rw [hcc] at hc
        clear hcc
        go_wp2_with (fail)
        go_loopw [10] (fun n wr => ∃ (k pos : Nat), n = .int .i64 k ∧ wr.heap[w3.heap.size]? = some (.stringIter text pos) ∧ k + (pcs text text.size pos).length = c ∧ Kept (fun _ => False) w3 wr) (fun _ wr => text.size - wr.iterPos w3.heap.size)
        case atStart => exact ⟨0, 0, rfl, World.iter_heap w3 text 0, by rw [← HCN.out]; simp [cnt, cuts], (Kept.refl _ _).alloc _⟩
        case round =>
          obtain ⟨k, pos, rfl, hit, hsum, hk⟩ := hrel
          have HK := Lib.hid hk
          have HIT := Lib.hid hit
          by_cases hp : pos < text.size
          · have hnx : ∀ ty, (Instr.next (.pointer (some ⟨w3.heap.size, 0, none⟩)) true ty).run Try.prog wr = _ := fun ty => Lib.run_next_any_at wr w3.heap.size text pos ty hit hp
            rw [pcs_step hp (by omega), List.length_cons] at hsum
            have hk1 : k + 1 ≤ text.size := by omega
            have HSUM := Lib.hid hsum
            have hd := dec_pos text pos
            have HD := Lib.hid hd
            clear hk hsum hd
            go_wp2
            go_roundw
            case rel => exact ⟨k + 1, pos + (dec text pos).2, by go_num, Lib.iterAt_heap _ _ _ _ _ HIT.out, by have := HSUM.out; omega, HK.out.iterAt _ _ (Nat.le_refl _)⟩
            case measure =>
              have h1 : (wr.iterAt w3.heap.size text (pos + (Utf8.decode text pos).2)).iterPos w3.heap.size = pos + (dec text pos).2 := by
                unfold World.iterPos
                rw [Lib.iterAt_heap _ _ _ _ _ HIT.out]
                rfl
              have h2 : wr.iterPos w3.heap.size = pos := by
                unfold World.iterPos
                rw [HIT.out]
              have := HD.out
              rw [h1, h2]
              omega
          · have hnx : ∀ ty, (Instr.next (.pointer (some ⟨w3.heap.size, 0, none⟩)) true ty).run Try.prog wr = _ := fun ty => Lib.run_next_end_at wr w3.heap.size text pos ty hit hp
            rw [pcs_end _ (by omega)] at hsum
            obtain rfl : k = c := by simpa using hsum
            clear hk hsum
            go_wp2
            go_meet
            case rel => exact ⟨by rw [HCN.out], HK.out⟩
      case rest =>
      obtain ⟨rfl, hk⟩ := hcut
      have HZ4 := Lib.hid (HZ.out.fresh hk)
      clear hk HZ
      go_upto_block 2 with (fail)
      obtain ⟨w4, hw4⟩ : ∃ w4, wc = w4 := ⟨_, rfl⟩
      rw [hw4] at HZ4 ⊢
      clear hw4 c8
      have hct : cnt x.o.text = cnt text := by rw [HTX.out]
      go_cut [8] (fun v8 wx => ∃ y : Lop, v8 = .bool (okOp y.o) ∧ EgAt w x N y.c wx ∧ y.At wx ∧ y.o.Small)
      case first =>
        by_cases e0 : which = 0
        · as_aux_lemma =>
            subst e0
            have n0 : w4.cell? ⟨N, 3, none⟩ = some (.int .i64 x.o.kind) := (HZ4.out.n.cell 3).trans (by rw [← HCS.out]; rfl)
            have f0 := HZ4.out.n.frozen 3
            have HZ5 := Lib.hid (HZ4.out.set 3 (.int .i64 v))
            go_upto_region 15 with (fail)
            generalize w4.setCell ⟨N, 3, none⟩ (.int .i64 v) = w5 at HZ5 ⊢
            have c3 : w5.cell? ⟨w.heap.size, 3, none⟩ = some (.int .i64 x.o.kind) := (HZ5.out.b.cell 3).trans rfl
            have HZ6 := Lib.hid (show EgAt w x N (Lop.c ⟨{ x.o with kind := v }, x.dA, x.dc, x.gA, x.gc⟩) w5 by have := HZ5.out; rw [← HCS.out] at this; exact this)
            clear n0 f0
            by_cases q6 : v = x.o.kind
            · subst q6
              go_wp2_with (fail)
              go_meet
              case rel => exact ⟨⟨{ x.o with kind := x.o.kind }, x.dA, x.dc, x.gA, x.gc⟩, congrArg Value.bool (by first | exact ((edgeP0 HOK.out (x.o.kind)).2 (by omega)).symm | exact (Bool.eq_false_iff.2 fun e => by have := (edgeP0 HOK.out (x.o.kind)).1 e; omega).symm), HZ6.out, ⟨HZ5.out.at.d, HZ5.out.at.g⟩, ⟨HSM.out.counts, HSM.out.dl, HSM.out.gl, HSM.out.tl⟩⟩
            · have bq6 : (v == x.o.kind) = false := by simpa using q6
              have Hq6 := Lib.hid q6
              clear q6
              go_wp2_with (fail)
              go_meet
              case rel => exact ⟨⟨{ x.o with kind := v }, x.dA, x.dc, x.gA, x.gc⟩, congrArg Value.bool (by have h0 := Hq6.out; first | exact ((edgeP0 HOK.out (v)).2 (by omega)).symm | exact (Bool.eq_false_iff.2 fun e => by have := (edgeP0 HOK.out (v)).1 e; omega).symm), HZ6.out, ⟨HZ5.out.at.d, HZ5.out.at.g⟩, ⟨HSM.out.counts, HSM.out.dl, HSM.out.gl, HSM.out.tl⟩⟩
        by_cases e1 : which = 1
        · as_aux_lemma =>
            subst e1
            have n0 : w4.cell? ⟨N, 1, none⟩ = some (.int .i64 x.o.dot.seq) := (HZ4.out.n.cell 1).trans (by rw [← HCS.out]; rfl)
            have f0 := HZ4.out.n.frozen 1
            have HZ5 := Lib.hid (HZ4.out.set 1 (.int .i64 v))
            go_upto_region 18 with (fail)
            generalize w4.setCell ⟨N, 1, none⟩ (.int .i64 v) = w5 at HZ5 ⊢
            have c1 : w5.cell? ⟨w.heap.size, 1, none⟩ = some (.int .i64 x.o.dot.seq) := (HZ5.out.b.cell 1).trans rfl
            have HZ6 := Lib.hid (show EgAt w x N (Lop.c ⟨{ x.o with dot := ⟨x.o.dot.site, v⟩ }, x.dA, x.dc, x.gA, x.gc⟩) w5 by have := HZ5.out; rw [← HCS.out] at this; exact this)
            clear n0 f0
            by_cases q6 : v = x.o.dot.seq
            · subst q6
              go_wp2_with (fail)
              go_meet
              case rel => exact ⟨⟨{ x.o with dot := ⟨x.o.dot.site, x.o.dot.seq⟩ }, x.dA, x.dc, x.gA, x.gc⟩, congrArg Value.bool (by first | exact ((edgeP1 HOK.out (x.o.dot.seq)).2 (by omega)).symm | exact (Bool.eq_false_iff.2 fun e => by have := (edgeP1 HOK.out (x.o.dot.seq)).1 e; omega).symm), HZ6.out, ⟨HZ5.out.at.d, HZ5.out.at.g⟩, ⟨HSM.out.counts, HSM.out.dl, HSM.out.gl, HSM.out.tl⟩⟩
            · have bq6 : (v == x.o.dot.seq) = false := by simpa using q6
              have Hq6 := Lib.hid q6
              clear q6
              go_wp2_with (fail)
              go_meet
              case rel => exact ⟨⟨{ x.o with dot := ⟨x.o.dot.site, v⟩ }, x.dA, x.dc, x.gA, x.gc⟩, congrArg Value.bool (by have h0 := Hq6.out; first | exact ((edgeP1 HOK.out (v)).2 (by omega)).symm | exact (Bool.eq_false_iff.2 fun e => by have := (edgeP1 HOK.out (v)).1 e; omega).symm), HZ6.out, ⟨HZ5.out.at.d, HZ5.out.at.g⟩, ⟨HSM.out.counts, HSM.out.dl, HSM.out.gl, HSM.out.tl⟩⟩
        by_cases e2 : which = 2
        · as_aux_lemma =>
            subst e2
            have n0 : w4.cell? ⟨N, 10, none⟩ = some (.int .i64 x.o.site) := (HZ4.out.n.cell 10).trans (by rw [← HCS.out]; rfl)
            have f0 := HZ4.out.n.frozen 10
            have HZ5 := Lib.hid (HZ4.out.set 10 (.int .i64 v))
            go_upto_region 21 with (fail)
            generalize w4.setCell ⟨N, 10, none⟩ (.int .i64 v) = w5 at HZ5 ⊢
            have c10 : w5.cell? ⟨w.heap.size, 10, none⟩ = some (.int .i64 x.o.site) := (HZ5.out.b.cell 10).trans rfl
            have c3 : w5.cell? ⟨w.heap.size, 3, none⟩ = some (.int .i64 x.o.kind) := (HZ5.out.b.cell 3).trans rfl
            have HZ6 := Lib.hid (show EgAt w x N (Lop.c ⟨{ x.o with site := v }, x.dA, x.dc, x.gA, x.gc⟩) w5 by have := HZ5.out; rw [← HCS.out] at this; exact this)
            clear n0 f0
            by_cases q6 : v = x.o.site
            · subst q6
              go_wp2_with (fail)
              go_meet
              case rel => exact ⟨⟨{ x.o with site := x.o.site }, x.dA, x.dc, x.gA, x.gc⟩, congrArg Value.bool (by first | exact ((edgeP2 HOK.out (x.o.site)).2 (by omega)).symm | exact (Bool.eq_false_iff.2 fun e => by have := (edgeP2 HOK.out (x.o.site)).1 e; omega).symm), HZ6.out, ⟨HZ5.out.at.d, HZ5.out.at.g⟩, ⟨HSM.out.counts, HSM.out.dl, HSM.out.gl, HSM.out.tl⟩⟩
            · have bq6 : (v == x.o.site) = false := by simpa using q6
              have Hq6 := Lib.hid q6
              clear q6
              by_cases q7 : x.o.kind = 3
              · have _ := q7
                by_cases q8 : 1 ≤ v
                · have _ := q8
                  by_cases q9 : v ≤ 16
                  · have _ := q9
                    go_wp2_with (fail)
                    go_meet
                    case rel => exact ⟨⟨{ x.o with site := v }, x.dA, x.dc, x.gA, x.gc⟩, congrArg Value.bool (by have h0 := Hq6.out; first | exact ((edgeP2 HOK.out (v)).2 (by omega)).symm | exact (Bool.eq_false_iff.2 fun e => by have := (edgeP2 HOK.out (v)).1 e; omega).symm), HZ6.out, ⟨HZ5.out.at.d, HZ5.out.at.g⟩, ⟨HSM.out.counts, HSM.out.dl, HSM.out.gl, HSM.out.tl⟩⟩
                  · have _ := q9
                    go_wp2_with (fail)
                    go_meet
                    case rel => exact ⟨⟨{ x.o with site := v }, x.dA, x.dc, x.gA, x.gc⟩, congrArg Value.bool (by have h0 := Hq6.out; first | exact ((edgeP2 HOK.out (v)).2 (by omega)).symm | exact (Bool.eq_false_iff.2 fun e => by have := (edgeP2 HOK.out (v)).1 e; omega).symm), HZ6.out, ⟨HZ5.out.at.d, HZ5.out.at.g⟩, ⟨HSM.out.counts, HSM.out.dl, HSM.out.gl, HSM.out.tl⟩⟩
                · have _ := q8
                  go_wp2_with (fail)
                  go_meet
                  case rel => exact ⟨⟨{ x.o with site := v }, x.dA, x.dc, x.gA, x.gc⟩, congrArg Value.bool (by have h0 := Hq6.out; first | exact ((edgeP2 HOK.out (v)).2 (by omega)).symm | exact (Bool.eq_false_iff.2 fun e => by have := (edgeP2 HOK.out (v)).1 e; omega).symm), HZ6.out, ⟨HZ5.out.at.d, HZ5.out.at.g⟩, ⟨HSM.out.counts, HSM.out.dl, HSM.out.gl, HSM.out.tl⟩⟩
              · have bq7 : (x.o.kind == 3) = false := by simpa using q7
                have Hq7 := Lib.hid q7
                clear q7
                go_wp2_with (fail)
                go_meet
                case rel => exact ⟨⟨{ x.o with site := v }, x.dA, x.dc, x.gA, x.gc⟩, congrArg Value.bool (by have h0 := Hq6.out; have h1 := Hq7.out; first | exact ((edgeP2 HOK.out (v)).2 (by omega)).symm | exact (Bool.eq_false_iff.2 fun e => by have := (edgeP2 HOK.out (v)).1 e; omega).symm), HZ6.out, ⟨HZ5.out.at.d, HZ5.out.at.g⟩, ⟨HSM.out.counts, HSM.out.dl, HSM.out.gl, HSM.out.tl⟩⟩
        by_cases e3 : which = 3
        · as_aux_lemma =>
            subst e3
            have n0 : w4.cell? ⟨N, 4, none⟩ = some (.int .i64 x.o.id.time) := (HZ4.out.n.cell 4).trans (by rw [← HCS.out]; rfl)
            have f0 := HZ4.out.n.frozen 4
            have HZ5 := Lib.hid (HZ4.out.set 4 (.int .i64 v))
            go_upto_region 24 with (fail)
            generalize w4.setCell ⟨N, 4, none⟩ (.int .i64 v) = w5 at HZ5 ⊢
            have c4 : w5.cell? ⟨w.heap.size, 4, none⟩ = some (.int .i64 x.o.id.time) := (HZ5.out.b.cell 4).trans rfl
            have c6 : w5.cell? ⟨w.heap.size, 6, none⟩ = some (.int .i64 x.o.ref.time) := (HZ5.out.b.cell 6).trans rfl
            have HZ6 := Lib.hid (show EgAt w x N (Lop.c ⟨{ x.o with id := ⟨v, x.o.id.site⟩ }, x.dA, x.dc, x.gA, x.gc⟩) w5 by have := HZ5.out; rw [← HCS.out] at this; exact this)
            clear n0 f0
            have hcl := cnt_le text
            have hwa : IntKind.i64.wrap (2147483647 - (cnt text : Int)) = 2147483647 - (cnt text : Int) := IntWalk.i64_in _ ⟨by omega, by omega⟩
            have hwb : IntKind.i64.wrap (2147483647 - (cnt text : Int) + 1) = 2147483647 - (cnt text : Int) + 1 := IntWalk.i64_in _ ⟨by omega, by omega⟩
            by_cases q6 : v = x.o.id.time
            · subst q6
              go_wp2_with (fail)
              go_meet
              case rel => exact ⟨⟨{ x.o with id := ⟨x.o.id.time, x.o.id.site⟩ }, x.dA, x.dc, x.gA, x.gc⟩, congrArg Value.bool (by first | exact ((edgeP3 HOK.out (x.o.id.time)).2 (by omega)).symm | exact (Bool.eq_false_iff.2 fun e => by have := (edgeP3 HOK.out (x.o.id.time)).1 e; omega).symm), HZ6.out, ⟨HZ5.out.at.d, HZ5.out.at.g⟩, ⟨HSM.out.counts, HSM.out.dl, HSM.out.gl, HSM.out.tl⟩⟩
            · have bq6 : (v == x.o.id.time) = false := by simpa using q6
              have Hq6 := Lib.hid q6
              clear q6
              cases ins with
              | true =>
                have hk1 : x.o.kind = 1 := by simpa using HIN.out
                by_cases q8 : x.o.ref.time < v
                · have _ := q8
                  by_cases q9 : 1 ≤ v
                  · have _ := q9
                    by_cases q10 : v ≤ 2147483647 - (cnt text : Int) + 1
                    · have _ := q10
                      go_wp2_with (fail)
                      go_meet
                      case rel => exact ⟨⟨{ x.o with id := ⟨v, x.o.id.site⟩ }, x.dA, x.dc, x.gA, x.gc⟩, congrArg Value.bool (by have h0 := Hq6.out; first | exact ((edgeP3 HOK.out (v)).2 (by omega)).symm | exact (Bool.eq_false_iff.2 fun e => by have := (edgeP3 HOK.out (v)).1 e; omega).symm), HZ6.out, ⟨HZ5.out.at.d, HZ5.out.at.g⟩, ⟨HSM.out.counts, HSM.out.dl, HSM.out.gl, HSM.out.tl⟩⟩
                    · have _ := q10
                      go_wp2_with (fail)
                      go_meet
                      case rel => exact ⟨⟨{ x.o with id := ⟨v, x.o.id.site⟩ }, x.dA, x.dc, x.gA, x.gc⟩, congrArg Value.bool (by have h0 := Hq6.out; first | exact ((edgeP3 HOK.out (v)).2 (by omega)).symm | exact (Bool.eq_false_iff.2 fun e => by have := (edgeP3 HOK.out (v)).1 e; omega).symm), HZ6.out, ⟨HZ5.out.at.d, HZ5.out.at.g⟩, ⟨HSM.out.counts, HSM.out.dl, HSM.out.gl, HSM.out.tl⟩⟩
                  · have _ := q9
                    go_wp2_with (fail)
                    go_meet
                    case rel => exact ⟨⟨{ x.o with id := ⟨v, x.o.id.site⟩ }, x.dA, x.dc, x.gA, x.gc⟩, congrArg Value.bool (by have h0 := Hq6.out; first | exact ((edgeP3 HOK.out (v)).2 (by omega)).symm | exact (Bool.eq_false_iff.2 fun e => by have := (edgeP3 HOK.out (v)).1 e; omega).symm), HZ6.out, ⟨HZ5.out.at.d, HZ5.out.at.g⟩, ⟨HSM.out.counts, HSM.out.dl, HSM.out.gl, HSM.out.tl⟩⟩
                · have _ := q8
                  go_wp2_with (fail)
                  go_meet
                  case rel => exact ⟨⟨{ x.o with id := ⟨v, x.o.id.site⟩ }, x.dA, x.dc, x.gA, x.gc⟩, congrArg Value.bool (by have h0 := Hq6.out; first | exact ((edgeP3 HOK.out (v)).2 (by omega)).symm | exact (Bool.eq_false_iff.2 fun e => by have := (edgeP3 HOK.out (v)).1 e; omega).symm), HZ6.out, ⟨HZ5.out.at.d, HZ5.out.at.g⟩, ⟨HSM.out.counts, HSM.out.dl, HSM.out.gl, HSM.out.tl⟩⟩
              | false =>
                have hk1 : ¬ x.o.kind = 1 := by simpa using HIN.out
                go_wp2_with (fail)
                go_meet
                case rel => exact ⟨⟨{ x.o with id := ⟨v, x.o.id.site⟩ }, x.dA, x.dc, x.gA, x.gc⟩, congrArg Value.bool (by have h0 := Hq6.out; first | exact ((edgeP3 HOK.out (v)).2 (by omega)).symm | exact (Bool.eq_false_iff.2 fun e => by have := (edgeP3 HOK.out (v)).1 e; omega).symm), HZ6.out, ⟨HZ5.out.at.d, HZ5.out.at.g⟩, ⟨HSM.out.counts, HSM.out.dl, HSM.out.gl, HSM.out.tl⟩⟩
        by_cases e4 : which = 4
        · as_aux_lemma =>
            subst e4
            have n0 : w4.cell? ⟨N, 5, none⟩ = some (.int .i64 x.o.id.site) := (HZ4.out.n.cell 5).trans (by rw [← HCS.out]; rfl)
            have f0 := HZ4.out.n.frozen 5
            have HZ5 := Lib.hid (HZ4.out.set 5 (.int .i64 v))
            go_upto_region 27 with (fail)
            generalize w4.setCell ⟨N, 5, none⟩ (.int .i64 v) = w5 at HZ5 ⊢
            have c5 : w5.cell? ⟨w.heap.size, 5, none⟩ = some (.int .i64 x.o.id.site) := (HZ5.out.b.cell 5).trans rfl
            have HZ6 := Lib.hid (show EgAt w x N (Lop.c ⟨{ x.o with id := ⟨x.o.id.time, v⟩ }, x.dA, x.dc, x.gA, x.gc⟩) w5 by have := HZ5.out; rw [← HCS.out] at this; exact this)
            clear n0 f0
            by_cases q6 : v = x.o.id.site
            · subst q6
              go_wp2_with (fail)
              go_meet
              case rel => exact ⟨⟨{ x.o with id := ⟨x.o.id.time, x.o.id.site⟩ }, x.dA, x.dc, x.gA, x.gc⟩, congrArg Value.bool (by first | exact ((edgeP4 HOK.out (x.o.id.site)).2 (by omega)).symm | exact (Bool.eq_false_iff.2 fun e => by have := (edgeP4 HOK.out (x.o.id.site)).1 e; omega).symm), HZ6.out, ⟨HZ5.out.at.d, HZ5.out.at.g⟩, ⟨HSM.out.counts, HSM.out.dl, HSM.out.gl, HSM.out.tl⟩⟩
            · have bq6 : (v == x.o.id.site) = false := by simpa using q6
              have Hq6 := Lib.hid q6
              clear q6
              go_wp2_with (fail)
              go_meet
              case rel => exact ⟨⟨{ x.o with id := ⟨x.o.id.time, v⟩ }, x.dA, x.dc, x.gA, x.gc⟩, congrArg Value.bool (by have h0 := Hq6.out; first | exact ((edgeP4 HOK.out (v)).2 (by omega)).symm | exact (Bool.eq_false_iff.2 fun e => by have := (edgeP4 HOK.out (v)).1 e; omega).symm), HZ6.out, ⟨HZ5.out.at.d, HZ5.out.at.g⟩, ⟨HSM.out.counts, HSM.out.dl, HSM.out.gl, HSM.out.tl⟩⟩
        by_cases e5 : which = 5
        · as_aux_lemma =>
            subst e5
            have n0 : w4.cell? ⟨N, 6, none⟩ = some (.int .i64 x.o.ref.time) := (HZ4.out.n.cell 6).trans (by rw [← HCS.out]; rfl)
            have f0 := HZ4.out.n.frozen 6
            have HZ5 := Lib.hid (HZ4.out.set 6 (.int .i64 v))
            go_upto_region 30 with (fail)
            generalize w4.setCell ⟨N, 6, none⟩ (.int .i64 v) = w5 at HZ5 ⊢
            have c4 : w5.cell? ⟨w.heap.size, 4, none⟩ = some (.int .i64 x.o.id.time) := (HZ5.out.b.cell 4).trans rfl
            have c6 : w5.cell? ⟨w.heap.size, 6, none⟩ = some (.int .i64 x.o.ref.time) := (HZ5.out.b.cell 6).trans rfl
            have c7 : w5.cell? ⟨w.heap.size, 7, none⟩ = some (.int .i64 x.o.ref.site) := (HZ5.out.b.cell 7).trans rfl
            have HZ6 := Lib.hid (show EgAt w x N (Lop.c ⟨{ x.o with ref := ⟨v, x.o.ref.site⟩ }, x.dA, x.dc, x.gA, x.gc⟩) w5 by have := HZ5.out; rw [← HCS.out] at this; exact this)
            clear n0 f0
            by_cases q6 : v = 0
            · subst q6
              by_cases q7 : x.o.ref.site = 0
              · have _ := q7
                by_cases q8 : x.o.ref.time = 0
                · have _ := q8
                  go_wp2_with (fail)
                  go_meet
                  case rel => exact ⟨⟨{ x.o with ref := ⟨0, x.o.ref.site⟩ }, x.dA, x.dc, x.gA, x.gc⟩, congrArg Value.bool (by first | exact ((edgeP5 HOK.out (0)).2 (by omega)).symm | exact (Bool.eq_false_iff.2 fun e => by have := (edgeP5 HOK.out (0)).1 e; omega).symm), HZ6.out, ⟨HZ5.out.at.d, HZ5.out.at.g⟩, ⟨HSM.out.counts, HSM.out.dl, HSM.out.gl, HSM.out.tl⟩⟩
                · have bq8 : (x.o.ref.time == 0) = false := by simpa using q8
                  have dq8 : ((0 : Int) == x.o.ref.time) = false := by simpa using fun e => q8 e.symm
                  have Hq8 := Lib.hid q8
                  clear q8
                  cases ins with
                  | true =>
                    have hk1 : x.o.kind = 1 := by simpa using HIN.out
                    by_cases q10 : 0 < x.o.id.time
                    · have _ := q10
                      go_wp2_with (fail)
                      go_meet
                      case rel => exact ⟨⟨{ x.o with ref := ⟨0, x.o.ref.site⟩ }, x.dA, x.dc, x.gA, x.gc⟩, congrArg Value.bool (by have h0 := Hq8.out; first | exact ((edgeP5 HOK.out (0)).2 (by omega)).symm | exact (Bool.eq_false_iff.2 fun e => by have := (edgeP5 HOK.out (0)).1 e; omega).symm), HZ6.out, ⟨HZ5.out.at.d, HZ5.out.at.g⟩, ⟨HSM.out.counts, HSM.out.dl, HSM.out.gl, HSM.out.tl⟩⟩
                    · have _ := q10
                      go_wp2_with (fail)
                      go_meet
                      case rel => exact ⟨⟨{ x.o with ref := ⟨0, x.o.ref.site⟩ }, x.dA, x.dc, x.gA, x.gc⟩, congrArg Value.bool (by have h0 := Hq8.out; first | exact ((edgeP5 HOK.out (0)).2 (by omega)).symm | exact (Bool.eq_false_iff.2 fun e => by have := (edgeP5 HOK.out (0)).1 e; omega).symm), HZ6.out, ⟨HZ5.out.at.d, HZ5.out.at.g⟩, ⟨HSM.out.counts, HSM.out.dl, HSM.out.gl, HSM.out.tl⟩⟩
                  | false =>
                    have hk1 : ¬ x.o.kind = 1 := by simpa using HIN.out
                    go_wp2_with (fail)
                    go_meet
                    case rel => exact ⟨⟨{ x.o with ref := ⟨0, x.o.ref.site⟩ }, x.dA, x.dc, x.gA, x.gc⟩, congrArg Value.bool (by have h0 := Hq8.out; first | exact ((edgeP5 HOK.out (0)).2 (by omega)).symm | exact (Bool.eq_false_iff.2 fun e => by have := (edgeP5 HOK.out (0)).1 e; omega).symm), HZ6.out, ⟨HZ5.out.at.d, HZ5.out.at.g⟩, ⟨HSM.out.counts, HSM.out.dl, HSM.out.gl, HSM.out.tl⟩⟩
              · have bq7 : (x.o.ref.site == 0) = false := by simpa using q7
                have dq7 : ((0 : Int) == x.o.ref.site) = false := by simpa using fun e => q7 e.symm
                have Hq7 := Lib.hid q7
                clear q7
                by_cases q8 : x.o.ref.time = 0
                · have _ := q8
                  go_wp2_with (fail)
                  go_meet
                  case rel => exact ⟨⟨{ x.o with ref := ⟨0, x.o.ref.site⟩ }, x.dA, x.dc, x.gA, x.gc⟩, congrArg Value.bool (by have h0 := Hq7.out; first | exact ((edgeP5 HOK.out (0)).2 (by omega)).symm | exact (Bool.eq_false_iff.2 fun e => by have := (edgeP5 HOK.out (0)).1 e; omega).symm), HZ6.out, ⟨HZ5.out.at.d, HZ5.out.at.g⟩, ⟨HSM.out.counts, HSM.out.dl, HSM.out.gl, HSM.out.tl⟩⟩
                · have bq8 : (x.o.ref.time == 0) = false := by simpa using q8
                  have dq8 : ((0 : Int) == x.o.ref.time) = false := by simpa using fun e => q8 e.symm
                  have Hq8 := Lib.hid q8
                  clear q8
                  cases ins with
                  | true =>
                    have hk1 : x.o.kind = 1 := by simpa using HIN.out
                    by_cases q10 : 0 < x.o.id.time
                    · have _ := q10
                      go_wp2_with (fail)
                      go_meet
                      case rel => exact ⟨⟨{ x.o with ref := ⟨0, x.o.ref.site⟩ }, x.dA, x.dc, x.gA, x.gc⟩, congrArg Value.bool (by have h0 := Hq7.out; have h1 := Hq8.out; first | exact ((edgeP5 HOK.out (0)).2 (by omega)).symm | exact (Bool.eq_false_iff.2 fun e => by have := (edgeP5 HOK.out (0)).1 e; omega).symm), HZ6.out, ⟨HZ5.out.at.d, HZ5.out.at.g⟩, ⟨HSM.out.counts, HSM.out.dl, HSM.out.gl, HSM.out.tl⟩⟩
                    · have _ := q10
                      go_wp2_with (fail)
                      go_meet
                      case rel => exact ⟨⟨{ x.o with ref := ⟨0, x.o.ref.site⟩ }, x.dA, x.dc, x.gA, x.gc⟩, congrArg Value.bool (by have h0 := Hq7.out; have h1 := Hq8.out; first | exact ((edgeP5 HOK.out (0)).2 (by omega)).symm | exact (Bool.eq_false_iff.2 fun e => by have := (edgeP5 HOK.out (0)).1 e; omega).symm), HZ6.out, ⟨HZ5.out.at.d, HZ5.out.at.g⟩, ⟨HSM.out.counts, HSM.out.dl, HSM.out.gl, HSM.out.tl⟩⟩
                  | false =>
                    have hk1 : ¬ x.o.kind = 1 := by simpa using HIN.out
                    go_wp2_with (fail)
                    go_meet
                    case rel => exact ⟨⟨{ x.o with ref := ⟨0, x.o.ref.site⟩ }, x.dA, x.dc, x.gA, x.gc⟩, congrArg Value.bool (by have h0 := Hq7.out; have h1 := Hq8.out; first | exact ((edgeP5 HOK.out (0)).2 (by omega)).symm | exact (Bool.eq_false_iff.2 fun e => by have := (edgeP5 HOK.out (0)).1 e; omega).symm), HZ6.out, ⟨HZ5.out.at.d, HZ5.out.at.g⟩, ⟨HSM.out.counts, HSM.out.dl, HSM.out.gl, HSM.out.tl⟩⟩
            · have bq6 : (v == 0) = false := by simpa using q6
              have Hq6 := Lib.hid q6
              clear q6
              by_cases q7 : v = x.o.ref.time
              · subst q7
                go_wp2_with (fail)
                go_meet
                case rel => exact ⟨⟨{ x.o with ref := ⟨x.o.ref.time, x.o.ref.site⟩ }, x.dA, x.dc, x.gA, x.gc⟩, congrArg Value.bool (by have h0 := Hq6.out; first | exact ((edgeP5 HOK.out (x.o.ref.time)).2 (by omega)).symm | exact (Bool.eq_false_iff.2 fun e => by have := (edgeP5 HOK.out (x.o.ref.time)).1 e; omega).symm), HZ6.out, ⟨HZ5.out.at.d, HZ5.out.at.g⟩, ⟨HSM.out.counts, HSM.out.dl, HSM.out.gl, HSM.out.tl⟩⟩
              · have bq7 : (v == x.o.ref.time) = false := by simpa using q7
                have Hq7 := Lib.hid q7
                clear q7
                cases ins with
                | true =>
                  have hk1 : x.o.kind = 1 := by simpa using HIN.out
                  by_cases q9 : v < x.o.id.time
                  · have _ := q9
                    by_cases q10 : 1 ≤ v
                    · have _ := q10
                      by_cases q11 : 1 ≤ x.o.ref.site
                      · have _ := q11
                        go_wp2_with (fail)
                        go_meet
                        case rel => exact ⟨⟨{ x.o with ref := ⟨v, x.o.ref.site⟩ }, x.dA, x.dc, x.gA, x.gc⟩, congrArg Value.bool (by have h0 := Hq6.out; have h1 := Hq7.out; first | exact ((edgeP5 HOK.out (v)).2 (by omega)).symm | exact (Bool.eq_false_iff.2 fun e => by have := (edgeP5 HOK.out (v)).1 e; omega).symm), HZ6.out, ⟨HZ5.out.at.d, HZ5.out.at.g⟩, ⟨HSM.out.counts, HSM.out.dl, HSM.out.gl, HSM.out.tl⟩⟩
                      · have _ := q11
                        go_wp2_with (fail)
                        go_meet
                        case rel => exact ⟨⟨{ x.o with ref := ⟨v, x.o.ref.site⟩ }, x.dA, x.dc, x.gA, x.gc⟩, congrArg Value.bool (by have h0 := Hq6.out; have h1 := Hq7.out; first | exact ((edgeP5 HOK.out (v)).2 (by omega)).symm | exact (Bool.eq_false_iff.2 fun e => by have := (edgeP5 HOK.out (v)).1 e; omega).symm), HZ6.out, ⟨HZ5.out.at.d, HZ5.out.at.g⟩, ⟨HSM.out.counts, HSM.out.dl, HSM.out.gl, HSM.out.tl⟩⟩
                    · have _ := q10
                      go_wp2_with (fail)
                      go_meet
                      case rel => exact ⟨⟨{ x.o with ref := ⟨v, x.o.ref.site⟩ }, x.dA, x.dc, x.gA, x.gc⟩, congrArg Value.bool (by have h0 := Hq6.out; have h1 := Hq7.out; first | exact ((edgeP5 HOK.out (v)).2 (by omega)).symm | exact (Bool.eq_false_iff.2 fun e => by have := (edgeP5 HOK.out (v)).1 e; omega).symm), HZ6.out, ⟨HZ5.out.at.d, HZ5.out.at.g⟩, ⟨HSM.out.counts, HSM.out.dl, HSM.out.gl, HSM.out.tl⟩⟩
                  · have _ := q9
                    go_wp2_with (fail)
                    go_meet
                    case rel => exact ⟨⟨{ x.o with ref := ⟨v, x.o.ref.site⟩ }, x.dA, x.dc, x.gA, x.gc⟩, congrArg Value.bool (by have h0 := Hq6.out; have h1 := Hq7.out; first | exact ((edgeP5 HOK.out (v)).2 (by omega)).symm | exact (Bool.eq_false_iff.2 fun e => by have := (edgeP5 HOK.out (v)).1 e; omega).symm), HZ6.out, ⟨HZ5.out.at.d, HZ5.out.at.g⟩, ⟨HSM.out.counts, HSM.out.dl, HSM.out.gl, HSM.out.tl⟩⟩
                | false =>
                  have hk1 : ¬ x.o.kind = 1 := by simpa using HIN.out
                  go_wp2_with (fail)
                  go_meet
                  case rel => exact ⟨⟨{ x.o with ref := ⟨v, x.o.ref.site⟩ }, x.dA, x.dc, x.gA, x.gc⟩, congrArg Value.bool (by have h0 := Hq6.out; have h1 := Hq7.out; first | exact ((edgeP5 HOK.out (v)).2 (by omega)).symm | exact (Bool.eq_false_iff.2 fun e => by have := (edgeP5 HOK.out (v)).1 e; omega).symm), HZ6.out, ⟨HZ5.out.at.d, HZ5.out.at.g⟩, ⟨HSM.out.counts, HSM.out.dl, HSM.out.gl, HSM.out.tl⟩⟩
        by_cases e6 : which = 6
        · as_aux_lemma =>
            subst e6
            have n0 : w4.cell? ⟨N, 7, none⟩ = some (.int .i64 x.o.ref.site) := (HZ4.out.n.cell 7).trans (by rw [← HCS.out]; rfl)
            have f0 := HZ4.out.n.frozen 7
            have HZ5 := Lib.hid (HZ4.out.set 7 (.int .i64 v))
            go_upto_region 34 with (fail)
            generalize w4.setCell ⟨N, 7, none⟩ (.int .i64 v) = w5 at HZ5 ⊢
            have c6 : w5.cell? ⟨w.heap.size, 6, none⟩ = some (.int .i64 x.o.ref.time) := (HZ5.out.b.cell 6).trans rfl
            have c7 : w5.cell? ⟨w.heap.size, 7, none⟩ = some (.int .i64 x.o.ref.site) := (HZ5.out.b.cell 7).trans rfl
            have HZ6 := Lib.hid (show EgAt w x N (Lop.c ⟨{ x.o with ref := ⟨x.o.ref.time, v⟩ }, x.dA, x.dc, x.gA, x.gc⟩) w5 by have := HZ5.out; rw [← HCS.out] at this; exact this)
            clear n0 f0
            by_cases q6 : v = 0
            · subst q6
              by_cases q7 : x.o.ref.time = 0
              · have _ := q7
                by_cases q8 : x.o.ref.site = 0
                · have _ := q8
                  go_wp2_with (fail)
                  go_meet
                  case rel => exact ⟨⟨{ x.o with ref := ⟨x.o.ref.time, 0⟩ }, x.dA, x.dc, x.gA, x.gc⟩, congrArg Value.bool (by first | exact ((edgeP6 HOK.out (0)).2 (by omega)).symm | exact (Bool.eq_false_iff.2 fun e => by have := (edgeP6 HOK.out (0)).1 e; omega).symm), HZ6.out, ⟨HZ5.out.at.d, HZ5.out.at.g⟩, ⟨HSM.out.counts, HSM.out.dl, HSM.out.gl, HSM.out.tl⟩⟩
                · have bq8 : (x.o.ref.site == 0) = false := by simpa using q8
                  have dq8 : ((0 : Int) == x.o.ref.site) = false := by simpa using fun e => q8 e.symm
                  have Hq8 := Lib.hid q8
                  clear q8
                  cases ins with
                  | true =>
                    have hk1 : x.o.kind = 1 := by simpa using HIN.out
                    go_wp2_with (fail)
                    go_meet
                    case rel => exact ⟨⟨{ x.o with ref := ⟨x.o.ref.time, 0⟩ }, x.dA, x.dc, x.gA, x.gc⟩, congrArg Value.bool (by have h0 := Hq8.out; first | exact ((edgeP6 HOK.out (0)).2 (by omega)).symm | exact (Bool.eq_false_iff.2 fun e => by have := (edgeP6 HOK.out (0)).1 e; omega).symm), HZ6.out, ⟨HZ5.out.at.d, HZ5.out.at.g⟩, ⟨HSM.out.counts, HSM.out.dl, HSM.out.gl, HSM.out.tl⟩⟩
                  | false =>
                    have hk1 : ¬ x.o.kind = 1 := by simpa using HIN.out
                    go_wp2_with (fail)
                    go_meet
                    case rel => exact ⟨⟨{ x.o with ref := ⟨x.o.ref.time, 0⟩ }, x.dA, x.dc, x.gA, x.gc⟩, congrArg Value.bool (by have h0 := Hq8.out; first | exact ((edgeP6 HOK.out (0)).2 (by omega)).symm | exact (Bool.eq_false_iff.2 fun e => by have := (edgeP6 HOK.out (0)).1 e; omega).symm), HZ6.out, ⟨HZ5.out.at.d, HZ5.out.at.g⟩, ⟨HSM.out.counts, HSM.out.dl, HSM.out.gl, HSM.out.tl⟩⟩
              · have bq7 : (x.o.ref.time == 0) = false := by simpa using q7
                have dq7 : ((0 : Int) == x.o.ref.time) = false := by simpa using fun e => q7 e.symm
                have Hq7 := Lib.hid q7
                clear q7
                by_cases q8 : x.o.ref.site = 0
                · have _ := q8
                  go_wp2_with (fail)
                  go_meet
                  case rel => exact ⟨⟨{ x.o with ref := ⟨x.o.ref.time, 0⟩ }, x.dA, x.dc, x.gA, x.gc⟩, congrArg Value.bool (by have h0 := Hq7.out; first | exact ((edgeP6 HOK.out (0)).2 (by omega)).symm | exact (Bool.eq_false_iff.2 fun e => by have := (edgeP6 HOK.out (0)).1 e; omega).symm), HZ6.out, ⟨HZ5.out.at.d, HZ5.out.at.g⟩, ⟨HSM.out.counts, HSM.out.dl, HSM.out.gl, HSM.out.tl⟩⟩
                · have bq8 : (x.o.ref.site == 0) = false := by simpa using q8
                  have dq8 : ((0 : Int) == x.o.ref.site) = false := by simpa using fun e => q8 e.symm
                  have Hq8 := Lib.hid q8
                  clear q8
                  cases ins with
                  | true =>
                    have hk1 : x.o.kind = 1 := by simpa using HIN.out
                    by_cases q10 : 1 ≤ x.o.ref.time
                    · have _ := q10
                      go_wp2_with (fail)
                      go_meet
                      case rel => exact ⟨⟨{ x.o with ref := ⟨x.o.ref.time, 0⟩ }, x.dA, x.dc, x.gA, x.gc⟩, congrArg Value.bool (by have h0 := Hq7.out; have h1 := Hq8.out; first | exact ((edgeP6 HOK.out (0)).2 (by omega)).symm | exact (Bool.eq_false_iff.2 fun e => by have := (edgeP6 HOK.out (0)).1 e; omega).symm), HZ6.out, ⟨HZ5.out.at.d, HZ5.out.at.g⟩, ⟨HSM.out.counts, HSM.out.dl, HSM.out.gl, HSM.out.tl⟩⟩
                    · have _ := q10
                      go_wp2_with (fail)
                      go_meet
                      case rel => exact ⟨⟨{ x.o with ref := ⟨x.o.ref.time, 0⟩ }, x.dA, x.dc, x.gA, x.gc⟩, congrArg Value.bool (by have h0 := Hq7.out; have h1 := Hq8.out; first | exact ((edgeP6 HOK.out (0)).2 (by omega)).symm | exact (Bool.eq_false_iff.2 fun e => by have := (edgeP6 HOK.out (0)).1 e; omega).symm), HZ6.out, ⟨HZ5.out.at.d, HZ5.out.at.g⟩, ⟨HSM.out.counts, HSM.out.dl, HSM.out.gl, HSM.out.tl⟩⟩
                  | false =>
                    have hk1 : ¬ x.o.kind = 1 := by simpa using HIN.out
                    go_wp2_with (fail)
                    go_meet
                    case rel => exact ⟨⟨{ x.o with ref := ⟨x.o.ref.time, 0⟩ }, x.dA, x.dc, x.gA, x.gc⟩, congrArg Value.bool (by have h0 := Hq7.out; have h1 := Hq8.out; first | exact ((edgeP6 HOK.out (0)).2 (by omega)).symm | exact (Bool.eq_false_iff.2 fun e => by have := (edgeP6 HOK.out (0)).1 e; omega).symm), HZ6.out, ⟨HZ5.out.at.d, HZ5.out.at.g⟩, ⟨HSM.out.counts, HSM.out.dl, HSM.out.gl, HSM.out.tl⟩⟩
            · have bq6 : (v == 0) = false := by simpa using q6
              have Hq6 := Lib.hid q6
              clear q6
              by_cases q7 : v = x.o.ref.site
              · subst q7
                go_wp2_with (fail)
                go_meet
                case rel => exact ⟨⟨{ x.o with ref := ⟨x.o.ref.time, x.o.ref.site⟩ }, x.dA, x.dc, x.gA, x.gc⟩, congrArg Value.bool (by have h0 := Hq6.out; first | exact ((edgeP6 HOK.out (x.o.ref.site)).2 (by omega)).symm | exact (Bool.eq_false_iff.2 fun e => by have := (edgeP6 HOK.out (x.o.ref.site)).1 e; omega).symm), HZ6.out, ⟨HZ5.out.at.d, HZ5.out.at.g⟩, ⟨HSM.out.counts, HSM.out.dl, HSM.out.gl, HSM.out.tl⟩⟩
              · have bq7 : (v == x.o.ref.site) = false := by simpa using q7
                have Hq7 := Lib.hid q7
                clear q7
                cases ins with
                | true =>
                  have hk1 : x.o.kind = 1 := by simpa using HIN.out
                  by_cases q9 : 1 ≤ x.o.ref.time
                  · have _ := q9
                    by_cases q10 : 1 ≤ v
                    · have _ := q10
                      by_cases q11 : v ≤ 16
                      · have _ := q11
                        go_wp2_with (fail)
                        go_meet
                        case rel => exact ⟨⟨{ x.o with ref := ⟨x.o.ref.time, v⟩ }, x.dA, x.dc, x.gA, x.gc⟩, congrArg Value.bool (by have h0 := Hq6.out; have h1 := Hq7.out; first | exact ((edgeP6 HOK.out (v)).2 (by omega)).symm | exact (Bool.eq_false_iff.2 fun e => by have := (edgeP6 HOK.out (v)).1 e; omega).symm), HZ6.out, ⟨HZ5.out.at.d, HZ5.out.at.g⟩, ⟨HSM.out.counts, HSM.out.dl, HSM.out.gl, HSM.out.tl⟩⟩
                      · have _ := q11
                        go_wp2_with (fail)
                        go_meet
                        case rel => exact ⟨⟨{ x.o with ref := ⟨x.o.ref.time, v⟩ }, x.dA, x.dc, x.gA, x.gc⟩, congrArg Value.bool (by have h0 := Hq6.out; have h1 := Hq7.out; first | exact ((edgeP6 HOK.out (v)).2 (by omega)).symm | exact (Bool.eq_false_iff.2 fun e => by have := (edgeP6 HOK.out (v)).1 e; omega).symm), HZ6.out, ⟨HZ5.out.at.d, HZ5.out.at.g⟩, ⟨HSM.out.counts, HSM.out.dl, HSM.out.gl, HSM.out.tl⟩⟩
                    · have _ := q10
                      go_wp2_with (fail)
                      go_meet
                      case rel => exact ⟨⟨{ x.o with ref := ⟨x.o.ref.time, v⟩ }, x.dA, x.dc, x.gA, x.gc⟩, congrArg Value.bool (by have h0 := Hq6.out; have h1 := Hq7.out; first | exact ((edgeP6 HOK.out (v)).2 (by omega)).symm | exact (Bool.eq_false_iff.2 fun e => by have := (edgeP6 HOK.out (v)).1 e; omega).symm), HZ6.out, ⟨HZ5.out.at.d, HZ5.out.at.g⟩, ⟨HSM.out.counts, HSM.out.dl, HSM.out.gl, HSM.out.tl⟩⟩
                  · have _ := q9
                    go_wp2_with (fail)
                    go_meet
                    case rel => exact ⟨⟨{ x.o with ref := ⟨x.o.ref.time, v⟩ }, x.dA, x.dc, x.gA, x.gc⟩, congrArg Value.bool (by have h0 := Hq6.out; have h1 := Hq7.out; first | exact ((edgeP6 HOK.out (v)).2 (by omega)).symm | exact (Bool.eq_false_iff.2 fun e => by have := (edgeP6 HOK.out (v)).1 e; omega).symm), HZ6.out, ⟨HZ5.out.at.d, HZ5.out.at.g⟩, ⟨HSM.out.counts, HSM.out.dl, HSM.out.gl, HSM.out.tl⟩⟩
                | false =>
                  have hk1 : ¬ x.o.kind = 1 := by simpa using HIN.out
                  go_wp2_with (fail)
                  go_meet
                  case rel => exact ⟨⟨{ x.o with ref := ⟨x.o.ref.time, v⟩ }, x.dA, x.dc, x.gA, x.gc⟩, congrArg Value.bool (by have h0 := Hq6.out; have h1 := Hq7.out; first | exact ((edgeP6 HOK.out (v)).2 (by omega)).symm | exact (Bool.eq_false_iff.2 fun e => by have := (edgeP6 HOK.out (v)).1 e; omega).symm), HZ6.out, ⟨HZ5.out.at.d, HZ5.out.at.g⟩, ⟨HSM.out.counts, HSM.out.dl, HSM.out.gl, HSM.out.tl⟩⟩
        by_cases e7 : which = 7
        · as_aux_lemma =>
            subst e7
            have c8 : w4.cell? ⟨w.heap.size, 8, none⟩ = some (.string text) := (HZ4.out.b.cell 8).trans (by rw [HCS.out]; exact HC8.out)
            have n0 : w4.cell? ⟨N, 8, none⟩ = some (.string text) := (HZ4.out.n.cell 8).trans HC8.out
            have f0 := HZ4.out.n.frozen 8
            go_wp2_with (fail)
            have HZ5 := Lib.hid (HZ4.out.set 8 (.string (torn text)))
            have HZ6 := Lib.hid (show EgAt w x N (Lop.c ⟨{ x.o with text := torn text }, x.dA, x.dc, x.gA, x.gc⟩) (w4.setCell ⟨N, 8, none⟩ (.string (torn text))) by have := HZ5.out; rw [← HCS.out] at this; exact this)
            have HTT := Lib.hid (show x.o.text.size ≤ 60000 ∧ text.size ≤ 60000 from by have := HTL.out; rw [← HTX.out]; exact ⟨this.1, this.1⟩)
            go_meet
            case rel => exact ⟨⟨{ x.o with text := torn text }, x.dA, x.dc, x.gA, x.gc⟩, congrArg Value.bool ((edge7 HOK.out (torn_ne _) fun h => torn_badAt _ (by rw [← HTX.out]; exact h)).symm), HZ6.out, ⟨HZ5.out.at.d, HZ5.out.at.g⟩, ⟨HSM.out.counts, HSM.out.dl, HSM.out.gl, by show ({ x.o with text := torn text } : Opr).text.size ≤ 1000000; have := HTL.out; first | (show (torn text).size ≤ _; rw [torn_size]; have := HTT.out; omega) | exact Nat.zero_le _⟩⟩
        by_cases e8 : which = 8
        · as_aux_lemma =>
            subst e8
            have n0 : w4.cell? ⟨N, 8, none⟩ = some (.string text) := (HZ4.out.n.cell 8).trans HC8.out
            have f0 := HZ4.out.n.frozen 8
            have HZ5 := Lib.hid (HZ4.out.set 8 (.string ⟨#[]⟩))
            have HZ6 := Lib.hid (show EgAt w x N (Lop.c ⟨{ x.o with text := ⟨#[]⟩ }, x.dA, x.dc, x.gA, x.gc⟩) (w4.setCell ⟨N, 8, none⟩ (.string ⟨#[]⟩)) by have := HZ5.out; rw [← HCS.out] at this; exact this)
            have HTT := Lib.hid (show x.o.text.size ≤ 60000 ∧ text.size ≤ 60000 from by have := HTL.out; rw [← HTX.out]; exact ⟨this.1, this.1⟩)
            go_upto_region 40 with (fail)
            generalize w4.setCell ⟨N, 8, none⟩ (.string ⟨#[]⟩) = w5 at HZ5 HZ6 ⊢
            have c8 : w5.cell? ⟨w.heap.size, 8, none⟩ = some (.string text) := (HZ5.out.b.cell 8).trans (by rw [HCS.out]; exact HC8.out)
            go_wp2_with (fail)
            go_meet
            case rel => exact ⟨⟨{ x.o with text := ⟨#[]⟩ }, x.dA, x.dc, x.gA, x.gc⟩, congrArg Value.bool (((edge8 HOK.out).trans (by rw [HTX.out, Bool.eq_iff_iff, decide_eq_true_eq, List.isEmpty_iff, toList_nil])).symm), HZ6.out, ⟨HZ5.out.at.d, HZ5.out.at.g⟩, ⟨HSM.out.counts, HSM.out.dl, HSM.out.gl, by show ({ x.o with text := ⟨#[]⟩ } : Opr).text.size ≤ 1000000; have := HTL.out; first | (show (torn text).size ≤ _; rw [torn_size]; have := HTT.out; omega) | exact Nat.zero_le _⟩⟩
        by_cases e9 : which = 9
        · as_aux_lemma =>
            subst e9
            have c9 : (w4.alloc (.cells #[] 32)).cell? ⟨w.heap.size, 9, none⟩ = some (.slice x.gA x.o.gone.length x.gc) := ((HZ4.out.b.alloc _).cell 9).trans (by rw [HCS.out]; exact HC9.out)
            have HEM := Lib.hid (own_empty w4)
            have HZ5 := Lib.hid (HZ4.out.fresh ((Kept.refl (fun _ => False) w4).alloc (.cells #[] 32)))
            have HNG := Lib.hid (HZ5.out.at.g.nilness HNI.out.g)
            have hgl := HTL.out.2.1
            go_wp2_with (at_builtin; refine wpList_append_kit eltRuns rfl _ _ rfl w4.heap.size _ 0 [] rfl HEM.out x.gA x.o.gone.length x.gc (runs x.o.gone) rfl HNG.out (runs_len _) HZ5.out.at.g.cells (runs_one _) (by omega) (by simp) ?_)
            intro A1 c1 w5 HO5 HK5 _
            have hk5 : Kept (fun _ => False) w4 w5 := ((Kept.refl (fun _ => False) w4).alloc (.cells #[] 32)).trans HK5.out fun k hk e => absurd (show w4.heap.size = k by simpa [Value.ownBlock] using e) (by omega)
            have HZ6 := Lib.hid (HZ4.out.fresh hk5)
            have hs5 := hk5.size
            go_wp2_with (at_builtin; refine wpList_append_new eltRuns rfl _ _ rfl w4.heap.size _ x.o.gone.length (runs x.o.gone) rfl HO5.out 1 1 rfl rfl rfl (by omega) hs5 ?_)
            intro A2 c2 w6 HO6 HK6 _
            have hk6 : Kept (fun _ => False) w4 w6 := hk5.trans HK6.out fun k hk e => by have := (HO5.out.lt k e).1; omega
            have HZ7 := Lib.hid (HZ4.out.fresh hk6)
            have HO7 := Lib.hid (show w6.ownsRow w4.heap.size 32 3 (.slice A2 (x.o.gone ++ [(⟨⟨v, 0⟩, 1⟩ : Rn)]).length c2) (x.o.gone ++ [(⟨⟨v, 0⟩, 1⟩ : Rn)]).length (runs (x.o.gone ++ [(⟨⟨v, 0⟩, 1⟩ : Rn)])) by rw [List.length_append, runs_app]; exact HO6.out)
            clear hk5 hk6 HO5 HO6 HK5 HK6 HZ6
            have n0 : w6.cell? ⟨N, 9, none⟩ = some (.slice x.gA x.o.gone.length x.gc) := (HZ7.out.n.cell 9).trans HC9.out
            have f0 := HZ7.out.n.frozen 9
            go_wp2_with (fail)
            have HZ8 := Lib.hid (HZ7.out.set 9 (.slice A2 (x.o.gone.length + 1) c2))
            have hk8 : Kept (fun k => k = N) w6 (w6.setCell ⟨N, 9, none⟩ (.slice A2 (x.o.gone.length + 1) c2)) := (Kept.refl _ _).at 9 _ (.inl rfl)
            have HO8 := Lib.hid (hk8.own HO7.out fun k hk e => own_box_ne HO7.out HZ7.out.n (by decide) (by rw [hk, e]))
            have HZ9 := Lib.hid (show EgAt w x N (Lop.c ⟨{ x.o with gone := x.o.gone ++ [⟨⟨v, 0⟩, 1⟩] }, x.dA, x.dc, A2, c2⟩) (w6.setCell ⟨N, 9, none⟩ (.slice A2 (x.o.gone.length + 1) c2)) by have := HZ8.out; rw [← HCS.out] at this; have e : Lop.c ⟨{ x.o with gone := x.o.gone ++ [⟨⟨v, 0⟩, 1⟩] }, x.dA, x.dc, A2, c2⟩ = x.c.setIfInBounds 9 (.slice A2 (x.o.gone.length + 1) c2) := (by unfold Lop.c Opr.cells; simp); rw [e]; exact this)
            go_meet
            case rel => exact ⟨⟨{ x.o with gone := x.o.gone ++ [⟨⟨v, 0⟩, 1⟩] }, x.dA, x.dc, A2, c2⟩, congrArg Value.bool (edge9 HOK.out v).symm, HZ9.out, ⟨HZ8.out.at.d, RunsAt.of_own HO8.out⟩, ⟨fun r hr => by rcases List.mem_append.1 hr with hr | hr; exact HSM.out.counts r hr; (obtain rfl : r = ⟨⟨v, 0⟩, 1⟩ := by simpa using hr); exact (show inI 1 from ⟨by decide, by decide⟩), HSM.out.dl, by show (x.o.gone ++ [_]).length ≤ _; rw [List.length_append]; simp; omega, HSM.out.tl⟩⟩
        as_aux_lemma =>
          have n0 : w4.cell? ⟨N, 0, none⟩ = some (.int .i64 x.o.dot.site) := (HZ4.out.n.cell 0).trans (by rw [← HCS.out]; rfl)
          have f0 := HZ4.out.n.frozen 0
          have HZ5 := Lib.hid (HZ4.out.set 0 (.int .i64 v))
          go_upto_region 12 with (fail)
          generalize w4.setCell ⟨N, 0, none⟩ (.int .i64 v) = w5 at HZ5 ⊢
          have HZ6 := Lib.hid (show EgAt w x N (Lop.c ⟨{ x.o with dot := ⟨v, x.o.dot.seq⟩ }, x.dA, x.dc, x.gA, x.gc⟩) w5 by have := HZ5.out; rw [← HCS.out] at this; exact this)
          have c0 : w5.cell? ⟨w.heap.size, 0, none⟩ = some (.int .i64 x.o.dot.site) := (HZ5.out.b.cell 0).trans rfl
          have c1 : w5.cell? ⟨w.heap.size, 1, none⟩ = some (.int .i64 x.o.dot.seq) := (HZ5.out.b.cell 1).trans rfl
          have c2 : w5.cell? ⟨w.heap.size, 2, none⟩ = some (.slice x.dA x.o.deps.length x.dc) := (HZ5.out.b.cell 2).trans rfl
          have HGV := Lib.hid (fun h1 h2 => getV_first HOK.out.2.1 (s := v) h1 h2)
          have hq1 := HOK.out.1.2.2.1
          have hq2 := HOK.out.1.2.2.2
          have hwq : IntKind.i64.wrap (x.o.dot.seq - 1) = x.o.dot.seq - 1 := IntWalk.i64_in _ ⟨by omega, by omega⟩
          have hdl := HTL.out.2.2
          by_cases q5 : v = x.o.dot.site
          · subst q5
            go_quiet ((go_at_call 34; exact Calls.quiet_of_same (Of8_any x.dA x.o.deps x.dc _ _ (HZ5.out.at.d.fresh (Kept.drewN_eq _)) (by omega))))
            go_wp2
            go_meet
            case rel => exact ⟨⟨{ x.o with dot := ⟨x.o.dot.site, x.o.dot.seq⟩ }, x.dA, x.dc, x.gA, x.gc⟩, congrArg Value.bool (by first | (have hg := HGV.out (by omega) (by omega); first | exact ((edgeP10 HOK.out (x.o.dot.site)).2 (by omega)).symm | exact (Bool.eq_false_iff.2 fun e => by have := (edgeP10 HOK.out (x.o.dot.site)).1 e; omega).symm) | (first | exact ((edgeP10 HOK.out (x.o.dot.site)).2 (by omega)).symm | exact (Bool.eq_false_iff.2 fun e => by have := (edgeP10 HOK.out (x.o.dot.site)).1 e; omega).symm)), HZ6.out.fresh (Kept.drewN_eq _), ⟨(HZ5.out.at.fresh (Kept.drewN_eq _)).d, (HZ5.out.at.fresh (Kept.drewN_eq _)).g⟩, ⟨HSM.out.counts, HSM.out.dl, HSM.out.gl, HSM.out.tl⟩⟩
          · have bq5 : (v == x.o.dot.site) = false := by simpa using q5
            have Hq5 := Lib.hid q5
            clear q5
            cases ins with
            | true =>
              have hk1 : x.o.kind = 1 := by simpa using HIN.out
              go_quiet ((go_at_call 34; exact Calls.quiet_of_same (Of8_any x.dA x.o.deps x.dc _ _ (HZ5.out.at.d.fresh (Kept.drewN_eq _)) (by omega))))
              go_wp2
              go_meet
              case rel => exact ⟨⟨{ x.o with dot := ⟨v, x.o.dot.seq⟩ }, x.dA, x.dc, x.gA, x.gc⟩, congrArg Value.bool (by have h0 := Hq5.out; first | (have hg := HGV.out (by omega) (by omega); first | exact ((edgeP10 HOK.out (v)).2 (by omega)).symm | exact (Bool.eq_false_iff.2 fun e => by have := (edgeP10 HOK.out (v)).1 e; omega).symm) | (first | exact ((edgeP10 HOK.out (v)).2 (by omega)).symm | exact (Bool.eq_false_iff.2 fun e => by have := (edgeP10 HOK.out (v)).1 e; omega).symm)), HZ6.out.fresh (Kept.drewN_eq _), ⟨(HZ5.out.at.fresh (Kept.drewN_eq _)).d, (HZ5.out.at.fresh (Kept.drewN_eq _)).g⟩, ⟨HSM.out.counts, HSM.out.dl, HSM.out.gl, HSM.out.tl⟩⟩
            | false =>
              have hk1 : ¬ x.o.kind = 1 := by simpa using HIN.out
              by_cases q7 : 1 ≤ v
              · have _ := q7
                by_cases q8 : v ≤ 16
                · have _ := q8
                  by_cases q9 : firstV x.o.deps v = x.o.dot.seq - 1
                  · have _ := q9
                    go_quiet ((go_at_call 34; exact Calls.quiet_of_same (Of8_any x.dA x.o.deps x.dc _ _ (HZ5.out.at.d.fresh (Kept.drewN_eq _)) (by omega))))
                    go_wp2
                    go_meet
                    case rel => exact ⟨⟨{ x.o with dot := ⟨v, x.o.dot.seq⟩ }, x.dA, x.dc, x.gA, x.gc⟩, congrArg Value.bool (by have h0 := Hq5.out; first | (have hg := HGV.out (by omega) (by omega); first | exact ((edgeP10 HOK.out (v)).2 (by omega)).symm | exact (Bool.eq_false_iff.2 fun e => by have := (edgeP10 HOK.out (v)).1 e; omega).symm) | (first | exact ((edgeP10 HOK.out (v)).2 (by omega)).symm | exact (Bool.eq_false_iff.2 fun e => by have := (edgeP10 HOK.out (v)).1 e; omega).symm)), HZ6.out.fresh (Kept.drewN_eq _), ⟨(HZ5.out.at.fresh (Kept.drewN_eq _)).d, (HZ5.out.at.fresh (Kept.drewN_eq _)).g⟩, ⟨HSM.out.counts, HSM.out.dl, HSM.out.gl, HSM.out.tl⟩⟩
                  · have bq9 : (firstV x.o.deps v == x.o.dot.seq - 1) = false := by simpa using q9
                    have Hq9 := Lib.hid q9
                    clear q9
                    go_quiet ((go_at_call 34; exact Calls.quiet_of_same (Of8_any x.dA x.o.deps x.dc _ _ (HZ5.out.at.d.fresh (Kept.drewN_eq _)) (by omega))))
                    go_wp2
                    go_meet
                    case rel => exact ⟨⟨{ x.o with dot := ⟨v, x.o.dot.seq⟩ }, x.dA, x.dc, x.gA, x.gc⟩, congrArg Value.bool (by have h0 := Hq5.out; have h1 := Hq9.out; first | (have hg := HGV.out (by omega) (by omega); first | exact ((edgeP10 HOK.out (v)).2 (by omega)).symm | exact (Bool.eq_false_iff.2 fun e => by have := (edgeP10 HOK.out (v)).1 e; omega).symm) | (first | exact ((edgeP10 HOK.out (v)).2 (by omega)).symm | exact (Bool.eq_false_iff.2 fun e => by have := (edgeP10 HOK.out (v)).1 e; omega).symm)), HZ6.out.fresh (Kept.drewN_eq _), ⟨(HZ5.out.at.fresh (Kept.drewN_eq _)).d, (HZ5.out.at.fresh (Kept.drewN_eq _)).g⟩, ⟨HSM.out.counts, HSM.out.dl, HSM.out.gl, HSM.out.tl⟩⟩
                · have _ := q8
                  go_quiet ((go_at_call 34; exact Calls.quiet_of_same (Of8_any x.dA x.o.deps x.dc _ _ (HZ5.out.at.d.fresh (Kept.drewN_eq _)) (by omega))))
                  go_wp2
                  go_meet
                  case rel => exact ⟨⟨{ x.o with dot := ⟨v, x.o.dot.seq⟩ }, x.dA, x.dc, x.gA, x.gc⟩, congrArg Value.bool (by have h0 := Hq5.out; first | (have hg := HGV.out (by omega) (by omega); first | exact ((edgeP10 HOK.out (v)).2 (by omega)).symm | exact (Bool.eq_false_iff.2 fun e => by have := (edgeP10 HOK.out (v)).1 e; omega).symm) | (first | exact ((edgeP10 HOK.out (v)).2 (by omega)).symm | exact (Bool.eq_false_iff.2 fun e => by have := (edgeP10 HOK.out (v)).1 e; omega).symm)), HZ6.out.fresh (Kept.drewN_eq _), ⟨(HZ5.out.at.fresh (Kept.drewN_eq _)).d, (HZ5.out.at.fresh (Kept.drewN_eq _)).g⟩, ⟨HSM.out.counts, HSM.out.dl, HSM.out.gl, HSM.out.tl⟩⟩
              · have _ := q7
                go_quiet ((go_at_call 34; exact Calls.quiet_of_same (Of8_any x.dA x.o.deps x.dc _ _ (HZ5.out.at.d.fresh (Kept.drewN_eq _)) (by omega))))
                go_wp2
                go_meet
                case rel => exact ⟨⟨{ x.o with dot := ⟨v, x.o.dot.seq⟩ }, x.dA, x.dc, x.gA, x.gc⟩, congrArg Value.bool (by have h0 := Hq5.out; first | (have hg := HGV.out (by omega) (by omega); first | exact ((edgeP10 HOK.out (v)).2 (by omega)).symm | exact (Bool.eq_false_iff.2 fun e => by have := (edgeP10 HOK.out (v)).1 e; omega).symm) | (first | exact ((edgeP10 HOK.out (v)).2 (by omega)).symm | exact (Bool.eq_false_iff.2 fun e => by have := (edgeP10 HOK.out (v)).1 e; omega).symm)), HZ6.out.fresh (Kept.drewN_eq _), ⟨(HZ5.out.at.fresh (Kept.drewN_eq _)).d, (HZ5.out.at.fresh (Kept.drewN_eq _)).g⟩, ⟨HSM.out.counts, HSM.out.dl, HSM.out.gl, HSM.out.tl⟩⟩
      case rest =>
      as_aux_lemma =>
      obtain ⟨y, rfl, hz, hat, hsm⟩ := hcut
      have HZ9 := Lib.hid hz
      have HAT := Lib.hid hat
      have HS9 := Lib.hid hsm
      have HCY := Lib.hid (fun W h1 => Check_lop y W h1 hsm)
      obtain ⟨ds, hds⟩ : ∃ ds, y.c = ds := ⟨_, rfl⟩
      have HSD := Lib.hid (show ds.size = 11 by rw [← hds]; rfl)
      rw [hds] at HZ9 HCY
      clear hz hat hsm hds
      go_wp2_with (refine wpList_load_op rfl _ rfl N rfl _ ds HSD.out HZ9.out.n ?_)
      refine (HCY.out wc HAT.out).mono ?_
      unfold IntPost opE
      cases hoy : okOp y.o with
      | true =>
        rintro r w9 ⟨rfl, hk⟩
        have HK9 := Lib.hid (HZ9.out.k.trans hk fun _ _ e => e)
        clear hk
        simp only [if_true]
        go_wp2_with (fail)
        refine (Known8_any w9).mono ?_
        rintro r w10 ⟨rfl, hk⟩
        have HK10 := Lib.hid (HK9.out.trans hk fun _ _ e => e)
        clear hk
        go_wp2_with (fail)
        go_ret
        exact ⟨rfl, HK10.out⟩
      | false =>
        rintro r w9 ⟨rfl, hk⟩
        have HK9 := Lib.hid (HZ9.out.k.trans hk fun _ _ e => e)
        clear hk
        simp only [Bool.false_eq_true, if_false]
        go_wp2_with (fail)
        refine (Known8_any w9).mono ?_
        rintro r w10 ⟨rfl, hk⟩
        have HK10 := Lib.hid (HK9.out.trans hk fun _ _ e => e)
        clear hk
        go_wp2_with (fail)
        go_ret
        exact ⟨rfl, HK10.out⟩

end Go.Proofs.Ytnlklhlnnoihiaa
