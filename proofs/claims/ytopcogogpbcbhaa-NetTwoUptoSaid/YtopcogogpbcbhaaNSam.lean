/- The walks of the law's bytes and same. Conditions: the bytes lie in memory. -/
import Derived.Test.YtopcogogpbcbhaaNCps
namespace Go.Proofs.Ytopcogogpbcbhaa
open Go Go.RowKit

def SamePost (w : World) (b : Bool) (e : Ending) (w' : World) : Prop := e = .returned (.bool b) ∧ Kept (fun _ => False) w w'
set_option maxRecDepth 100000 in
set_option maxHeartbeats 1600000 in
theorem Bytes20_any (A B : Option Addr) (l m : List Int) (c d : Nat) (w : World) (hl : BytesAt w A l) (hm : BytesAt w B m) (hlen : l.length ≤ 4611686018427387904) :
    Calls Try.prog 26 #[.slice A l.length c, .slice B m.length d] w (SamePost w (decide (l = m))) := by
  by_cases hn : l.length = m.length
  · have HL := Lib.hid hl
    have HM := Lib.hid hm
    clear hl hm
    obtain ⟨b, hb⟩ : ∃ b, decide (l = m) = b := ⟨_, rfl⟩
    rw [hb, ← hn]
    have HN := Lib.hid hn
    have HBB := Lib.hid hb
    clear hn hb
    go_enter Try.func26, Try.ntmps26
    go_wp2_with (fail)
    go_loopw [5] (fun i wr => ∃ k : Nat, i = .int .i64 k ∧ k ≤ l.length ∧ l.take k = m.take k ∧ Kept (fun _ => False) w wr) (fun i _ => l.length - (intOf i).toNat)
    case atStart => exact ⟨0, rfl, Nat.zero_le _, rfl, Kept.refl _ _⟩
    case round =>
      obtain ⟨k, rfl, hk, hat, hkk⟩ := hrel
      have HK := Lib.hid hkk
      have HAT := Lib.hid hat
      by_cases hlt : k < l.length
      · obtain ⟨ad, rfl, x0⟩ := HL.out.fresh hkk k hlt
        obtain ⟨ad', rfl, y0⟩ := HM.out.fresh hkk k (by rw [← HN.out]; exact hlt)
        generalize hd : l[k] = d1 at x0
        generalize hd' : m[k]'(by rw [← HN.out]; exact hlt) = d2 at y0
        have HD := Lib.hid hd
        have HD' := Lib.hid hd'
        clear hd hd' hkk hat
        by_cases he : d1 = d2
        · have hx : (d1 != d2) = false := by simp [he]
          have HE := Lib.hid he
          clear he
          go_wp2_with (fail)
          go_quiet (fail)
          go_wp2
          go_roundw
          case rel =>
            refine ⟨k + 1, by go_num, by omega, ?_, HK.out.trans (Kept.drewN_eq nq) fun _ _ e => e⟩
            have hm' : k < m.length := by rw [← HN.out]; exact hlt
            rw [List.take_succ_eq_append_getElem hlt, List.take_succ_eq_append_getElem hm', HAT.out, HD.out, HD'.out, HE.out]
          case measure => simp [intOf]; omega
        · have hx : (d1 != d2) = true := by simp [he]
          have HE := Lib.hid he
          clear he
          go_wp2_with (fail)
          go_quiet (fail)
          go_wp2
          go_ret
          refine ⟨?_, HK.out.trans (Kept.drewN_eq nq) fun _ _ e => e⟩
          rw [← HBB.out]
          refine (ret_bool (decide_eq_false fun e => HE.out ?_)).symm
          subst e
          exact HD.out.symm.trans HD'.out
      · obtain rfl : k = l.length := by omega
        have hkk' := HK.out
        clear hat hkk
        go_wp2
        go_ret
        refine ⟨?_, hkk'⟩
        rw [← HBB.out]
        refine (ret_bool (decide_eq_true ?_)).symm
        have := HAT.out
        rwa [List.take_length, HN.out, List.take_length] at this
  · have hn' : (l.length : Int) ≠ m.length := by omega
    have hb : decide (l = m) = false := decide_eq_false fun e => hn (by rw [e])
    rw [hb]
    generalize l.length = p at *
    generalize m.length = q at *
    clear hb hl hm
    go_enter Try.func26, Try.ntmps26
    go_wp2
    go_ret
    exact ⟨rfl, Kept.refl _ _⟩
/-- Two copies tell the same. -/
def Cp.same (a b : Cp) : Prop := a.num = b.num ∧ a.src = b.src ∧ a.dst = b.dst ∧ a.data = b.data ∧ a.sent = b.sent ∧ a.bad = b.bad
theorem Cp.same_refl (a : Cp) : a.same a := ⟨rfl, rfl, rfl, rfl, rfl, rfl⟩
def IffPost (w : World) (P : Prop) (r : Ending) (w' : World) : Prop := ∃ b : Bool, r = .returned (.bool b) ∧ (b = true ↔ P) ∧ Kept (fun _ => False) w w'
set_option maxRecDepth 100000 in
set_option maxHeartbeats 3200000 in
theorem Same20_any (c d : Cp) (A B : Option Addr) (ac bc : Nat) (w : World) (ha : BytesAt w A c.data) (hb : BytesAt w B d.data) (hl : c.data.length ≤ 1000000) :
    Calls Try.prog 22 #[.agg (cpC c A ac), .agg (cpC d B bc)] w (IffPost w (c.same d)) := by
  have hka : Kept (fun _ => False) w ((w.alloc (.cells (cpC c A ac) 44)).alloc (.cells (cpC d B bc) 44)) := ((Kept.refl _ _).alloc _).alloc _
  have HA := Lib.hid hka
  have HX := Lib.hid ((Box.new w 44 (cpC c A ac)).alloc (.cells (cpC d B bc) 44))
  have HY := Lib.hid ((Box.new (w.alloc (.cells (cpC c A ac) 44)) 44 (cpC d B bc)).at_eq (show _ = w.heap.size + 1 by simp))
  have HP := Lib.hid (ha.fresh hka)
  have HQ := Lib.hid (hb.fresh hka)
  clear ha hb hka
  by_cases h0 : c.num = d.num
  case' neg =>
    as_aux_lemma =>
    have e0 : ((c.num : Int) == (d.num : Int)) = false := beq_false_of_ne (by omega)
    have e0' : (c.num == d.num) = false := by simpa using h0
    have HH := Lib.hid h0
    clear h0
    go_enter Try.func22, Try.ntmps22
    go_upto_region 1 with (fail)
    have hzz : (w.alloc (.cells #[.int .i64 c.num, .int .i64 c.src, .int .i64 c.dst, .slice A c.data.length ac, .int .i64 c.sent, .bool c.bad] 44)).alloc (.cells #[.int .i64 d.num, .int .i64 d.src, .int .i64 d.dst, .slice B d.data.length bc, .int .i64 d.sent, .bool d.bad] 44) = (w.alloc (.cells (cpC c A ac) 44)).alloc (.cells (cpC d B bc) 44) := rfl
    first | rw [hzz] | skip
    clear hzz
    generalize (w.alloc (.cells (cpC c A ac) 44)).alloc (.cells (cpC d B bc) 44) = w0 at HA HX HY HP HQ ⊢
    have x0 : w0.cell? ⟨w.heap.size, 0, none⟩ = some (.int .i64 c.num) := (HX.out.cell 0).trans rfl
    have y0 : w0.cell? ⟨w.heap.size + 1, 0, none⟩ = some (.int .i64 d.num) := (HY.out.cell 0).trans rfl
    have x1 : w0.cell? ⟨w.heap.size, 1, none⟩ = some (.int .i64 c.src) := (HX.out.cell 1).trans rfl
    have y1 : w0.cell? ⟨w.heap.size + 1, 1, none⟩ = some (.int .i64 d.src) := (HY.out.cell 1).trans rfl
    have x2 : w0.cell? ⟨w.heap.size, 2, none⟩ = some (.int .i64 c.dst) := (HX.out.cell 2).trans rfl
    have y2 : w0.cell? ⟨w.heap.size + 1, 2, none⟩ = some (.int .i64 d.dst) := (HY.out.cell 2).trans rfl
    have x3 : w0.cell? ⟨w.heap.size, 3, none⟩ = some (.slice A c.data.length ac) := (HX.out.cell 3).trans rfl
    have y3 : w0.cell? ⟨w.heap.size + 1, 3, none⟩ = some (.slice B d.data.length bc) := (HY.out.cell 3).trans rfl
    have x4 : w0.cell? ⟨w.heap.size, 4, none⟩ = some (.int .i64 c.sent) := (HX.out.cell 4).trans rfl
    have y4 : w0.cell? ⟨w.heap.size + 1, 4, none⟩ = some (.int .i64 d.sent) := (HY.out.cell 4).trans rfl
    have x5 : w0.cell? ⟨w.heap.size, 5, none⟩ = some (.bool c.bad) := (HX.out.cell 5).trans rfl
    have y5 : w0.cell? ⟨w.heap.size + 1, 5, none⟩ = some (.bool d.bad) := (HY.out.cell 5).trans rfl
    go_wp2_with (fail)
    go_ret
    exact ⟨false, rfl, ⟨fun e => (by cases e), fun e => absurd e.1 HH.out⟩, HA.out⟩
  have e0 : ((c.num : Int) == (d.num : Int)) = true := beq_iff_eq.2 (by omega)
  have e0' : (c.num == d.num) = true := by simpa using h0
  have H0 := Lib.hid h0
  clear h0
  by_cases h1 : c.src = d.src
  case' neg =>
    as_aux_lemma =>
    have e1 : (c.src == d.src) = false := by simpa using h1
    have HH := Lib.hid h1
    clear h1
    go_enter Try.func22, Try.ntmps22
    go_upto_region 1 with (fail)
    have hzz : (w.alloc (.cells #[.int .i64 c.num, .int .i64 c.src, .int .i64 c.dst, .slice A c.data.length ac, .int .i64 c.sent, .bool c.bad] 44)).alloc (.cells #[.int .i64 d.num, .int .i64 d.src, .int .i64 d.dst, .slice B d.data.length bc, .int .i64 d.sent, .bool d.bad] 44) = (w.alloc (.cells (cpC c A ac) 44)).alloc (.cells (cpC d B bc) 44) := rfl
    first | rw [hzz] | skip
    clear hzz
    generalize (w.alloc (.cells (cpC c A ac) 44)).alloc (.cells (cpC d B bc) 44) = w0 at HA HX HY HP HQ ⊢
    have x0 : w0.cell? ⟨w.heap.size, 0, none⟩ = some (.int .i64 c.num) := (HX.out.cell 0).trans rfl
    have y0 : w0.cell? ⟨w.heap.size + 1, 0, none⟩ = some (.int .i64 d.num) := (HY.out.cell 0).trans rfl
    have x1 : w0.cell? ⟨w.heap.size, 1, none⟩ = some (.int .i64 c.src) := (HX.out.cell 1).trans rfl
    have y1 : w0.cell? ⟨w.heap.size + 1, 1, none⟩ = some (.int .i64 d.src) := (HY.out.cell 1).trans rfl
    have x2 : w0.cell? ⟨w.heap.size, 2, none⟩ = some (.int .i64 c.dst) := (HX.out.cell 2).trans rfl
    have y2 : w0.cell? ⟨w.heap.size + 1, 2, none⟩ = some (.int .i64 d.dst) := (HY.out.cell 2).trans rfl
    have x3 : w0.cell? ⟨w.heap.size, 3, none⟩ = some (.slice A c.data.length ac) := (HX.out.cell 3).trans rfl
    have y3 : w0.cell? ⟨w.heap.size + 1, 3, none⟩ = some (.slice B d.data.length bc) := (HY.out.cell 3).trans rfl
    have x4 : w0.cell? ⟨w.heap.size, 4, none⟩ = some (.int .i64 c.sent) := (HX.out.cell 4).trans rfl
    have y4 : w0.cell? ⟨w.heap.size + 1, 4, none⟩ = some (.int .i64 d.sent) := (HY.out.cell 4).trans rfl
    have x5 : w0.cell? ⟨w.heap.size, 5, none⟩ = some (.bool c.bad) := (HX.out.cell 5).trans rfl
    have y5 : w0.cell? ⟨w.heap.size + 1, 5, none⟩ = some (.bool d.bad) := (HY.out.cell 5).trans rfl
    go_wp2_with (fail)
    go_ret
    exact ⟨false, rfl, ⟨fun e => (by cases e), fun e => absurd e.2.1 HH.out⟩, HA.out⟩
  have e1 : (c.src == d.src) = true := by simpa using h1
  have H1 := Lib.hid h1
  clear h1
  by_cases h2 : c.dst = d.dst
  case' neg =>
    as_aux_lemma =>
    have e2 : (c.dst == d.dst) = false := by simpa using h2
    have HH := Lib.hid h2
    clear h2
    go_enter Try.func22, Try.ntmps22
    go_upto_region 1 with (fail)
    have hzz : (w.alloc (.cells #[.int .i64 c.num, .int .i64 c.src, .int .i64 c.dst, .slice A c.data.length ac, .int .i64 c.sent, .bool c.bad] 44)).alloc (.cells #[.int .i64 d.num, .int .i64 d.src, .int .i64 d.dst, .slice B d.data.length bc, .int .i64 d.sent, .bool d.bad] 44) = (w.alloc (.cells (cpC c A ac) 44)).alloc (.cells (cpC d B bc) 44) := rfl
    first | rw [hzz] | skip
    clear hzz
    generalize (w.alloc (.cells (cpC c A ac) 44)).alloc (.cells (cpC d B bc) 44) = w0 at HA HX HY HP HQ ⊢
    have x0 : w0.cell? ⟨w.heap.size, 0, none⟩ = some (.int .i64 c.num) := (HX.out.cell 0).trans rfl
    have y0 : w0.cell? ⟨w.heap.size + 1, 0, none⟩ = some (.int .i64 d.num) := (HY.out.cell 0).trans rfl
    have x1 : w0.cell? ⟨w.heap.size, 1, none⟩ = some (.int .i64 c.src) := (HX.out.cell 1).trans rfl
    have y1 : w0.cell? ⟨w.heap.size + 1, 1, none⟩ = some (.int .i64 d.src) := (HY.out.cell 1).trans rfl
    have x2 : w0.cell? ⟨w.heap.size, 2, none⟩ = some (.int .i64 c.dst) := (HX.out.cell 2).trans rfl
    have y2 : w0.cell? ⟨w.heap.size + 1, 2, none⟩ = some (.int .i64 d.dst) := (HY.out.cell 2).trans rfl
    have x3 : w0.cell? ⟨w.heap.size, 3, none⟩ = some (.slice A c.data.length ac) := (HX.out.cell 3).trans rfl
    have y3 : w0.cell? ⟨w.heap.size + 1, 3, none⟩ = some (.slice B d.data.length bc) := (HY.out.cell 3).trans rfl
    have x4 : w0.cell? ⟨w.heap.size, 4, none⟩ = some (.int .i64 c.sent) := (HX.out.cell 4).trans rfl
    have y4 : w0.cell? ⟨w.heap.size + 1, 4, none⟩ = some (.int .i64 d.sent) := (HY.out.cell 4).trans rfl
    have x5 : w0.cell? ⟨w.heap.size, 5, none⟩ = some (.bool c.bad) := (HX.out.cell 5).trans rfl
    have y5 : w0.cell? ⟨w.heap.size + 1, 5, none⟩ = some (.bool d.bad) := (HY.out.cell 5).trans rfl
    go_wp2_with (fail)
    go_ret
    exact ⟨false, rfl, ⟨fun e => (by cases e), fun e => absurd e.2.2.1 HH.out⟩, HA.out⟩
  have e2 : (c.dst == d.dst) = true := by simpa using h2
  have H2 := Lib.hid h2
  clear h2
  go_enter Try.func22, Try.ntmps22
  go_upto_region 1 with (fail)
  have hzz : (w.alloc (.cells #[.int .i64 c.num, .int .i64 c.src, .int .i64 c.dst, .slice A c.data.length ac, .int .i64 c.sent, .bool c.bad] 44)).alloc (.cells #[.int .i64 d.num, .int .i64 d.src, .int .i64 d.dst, .slice B d.data.length bc, .int .i64 d.sent, .bool d.bad] 44) = (w.alloc (.cells (cpC c A ac) 44)).alloc (.cells (cpC d B bc) 44) := rfl
  first | rw [hzz] | skip
  clear hzz
  generalize (w.alloc (.cells (cpC c A ac) 44)).alloc (.cells (cpC d B bc) 44) = w0 at HA HX HY HP HQ ⊢
  have x0 : w0.cell? ⟨w.heap.size, 0, none⟩ = some (.int .i64 c.num) := (HX.out.cell 0).trans rfl
  have y0 : w0.cell? ⟨w.heap.size + 1, 0, none⟩ = some (.int .i64 d.num) := (HY.out.cell 0).trans rfl
  have x1 : w0.cell? ⟨w.heap.size, 1, none⟩ = some (.int .i64 c.src) := (HX.out.cell 1).trans rfl
  have y1 : w0.cell? ⟨w.heap.size + 1, 1, none⟩ = some (.int .i64 d.src) := (HY.out.cell 1).trans rfl
  have x2 : w0.cell? ⟨w.heap.size, 2, none⟩ = some (.int .i64 c.dst) := (HX.out.cell 2).trans rfl
  have y2 : w0.cell? ⟨w.heap.size + 1, 2, none⟩ = some (.int .i64 d.dst) := (HY.out.cell 2).trans rfl
  have x3 : w0.cell? ⟨w.heap.size, 3, none⟩ = some (.slice A c.data.length ac) := (HX.out.cell 3).trans rfl
  have y3 : w0.cell? ⟨w.heap.size + 1, 3, none⟩ = some (.slice B d.data.length bc) := (HY.out.cell 3).trans rfl
  have x4 : w0.cell? ⟨w.heap.size, 4, none⟩ = some (.int .i64 c.sent) := (HX.out.cell 4).trans rfl
  have y4 : w0.cell? ⟨w.heap.size + 1, 4, none⟩ = some (.int .i64 d.sent) := (HY.out.cell 4).trans rfl
  have x5 : w0.cell? ⟨w.heap.size, 5, none⟩ = some (.bool c.bad) := (HX.out.cell 5).trans rfl
  have y5 : w0.cell? ⟨w.heap.size + 1, 5, none⟩ = some (.bool d.bad) := (HY.out.cell 5).trans rfl
  go_wp2_with (fail)
  refine (Bytes20_any A B c.data d.data ac bc w0 HP.out HQ.out (by omega)).mono ?_
  unfold SamePost
  rintro r w1 ⟨rfl, hk⟩
  have HX1 := Lib.hid (HX.out.kept hk id)
  have HY1 := Lib.hid (HY.out.kept hk id)
  have HA1 := Lib.hid (HA.out.trans hk fun _ _ e => e)
  clear hk x0 y0 x1 y1 x2 y2 x3 y3 x4 y4 x5 y5
  have x0 : w1.cell? ⟨w.heap.size, 0, none⟩ = some (.int .i64 c.num) := (HX1.out.cell 0).trans rfl
  have y0 : w1.cell? ⟨w.heap.size + 1, 0, none⟩ = some (.int .i64 d.num) := (HY1.out.cell 0).trans rfl
  have x1 : w1.cell? ⟨w.heap.size, 1, none⟩ = some (.int .i64 c.src) := (HX1.out.cell 1).trans rfl
  have y1 : w1.cell? ⟨w.heap.size + 1, 1, none⟩ = some (.int .i64 d.src) := (HY1.out.cell 1).trans rfl
  have x2 : w1.cell? ⟨w.heap.size, 2, none⟩ = some (.int .i64 c.dst) := (HX1.out.cell 2).trans rfl
  have y2 : w1.cell? ⟨w.heap.size + 1, 2, none⟩ = some (.int .i64 d.dst) := (HY1.out.cell 2).trans rfl
  have x3 : w1.cell? ⟨w.heap.size, 3, none⟩ = some (.slice A c.data.length ac) := (HX1.out.cell 3).trans rfl
  have y3 : w1.cell? ⟨w.heap.size + 1, 3, none⟩ = some (.slice B d.data.length bc) := (HY1.out.cell 3).trans rfl
  have x4 : w1.cell? ⟨w.heap.size, 4, none⟩ = some (.int .i64 c.sent) := (HX1.out.cell 4).trans rfl
  have y4 : w1.cell? ⟨w.heap.size + 1, 4, none⟩ = some (.int .i64 d.sent) := (HY1.out.cell 4).trans rfl
  have x5 : w1.cell? ⟨w.heap.size, 5, none⟩ = some (.bool c.bad) := (HX1.out.cell 5).trans rfl
  have y5 : w1.cell? ⟨w.heap.size + 1, 5, none⟩ = some (.bool d.bad) := (HY1.out.cell 5).trans rfl
  by_cases h3 : c.data = d.data
  case' neg =>
    as_aux_lemma =>
    rw [decide_eq_false h3]
    have HH := Lib.hid h3
    clear h3
    go_wp2_with (fail)
    go_ret
    exact ⟨false, rfl, ⟨fun e => (by cases e), fun e => absurd e.2.2.2.1 HH.out⟩, HA1.out⟩
  rw [decide_eq_true h3]
  have H3 := Lib.hid h3
  clear h3
  by_cases h4 : c.sent = d.sent
  case' neg =>
    as_aux_lemma =>
    have e4 : (c.sent == d.sent) = false := by simpa using h4
    have HH := Lib.hid h4
    clear h4
    go_wp2_with (fail)
    go_ret
    exact ⟨false, rfl, ⟨fun e => (by cases e), fun e => absurd e.2.2.2.2.1 HH.out⟩, HA1.out⟩
  have e4 : (c.sent == d.sent) = true := by simpa using h4
  have H4 := Lib.hid h4
  clear h4
  by_cases h5 : c.bad = d.bad
  case' neg =>
    as_aux_lemma =>
    have e5 : (c.bad == d.bad) = false := by simpa using h5
    have HH := Lib.hid h5
    clear h5
    go_wp2_with (fail)
    go_ret
    exact ⟨false, rfl, ⟨fun e => (by cases e), fun e => absurd e.2.2.2.2.2 HH.out⟩, HA1.out⟩
  have e5 : (c.bad == d.bad) = true := by simpa using h5
  have H5 := Lib.hid h5
  clear h5
  go_wp2_with (fail)
  go_ret
  exact ⟨true, rfl, ⟨fun _ => ⟨H0.out, H1.out, H2.out, H3.out, H4.out, H5.out⟩, fun _ => rfl⟩, HA1.out⟩
end Go.Proofs.Ytopcogogpbcbhaa
