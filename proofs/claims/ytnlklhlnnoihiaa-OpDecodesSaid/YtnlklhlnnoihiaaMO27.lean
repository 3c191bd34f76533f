/- What an operation is laid as; what it says of one that may be. No program in sight but for the words. · The walks of the kinds' put and of op.Put. Conditions: the Writer and the operation lie in memory, apart; nothing is longer than a million. · The walks of op.Put and op.Encode. Conditions: the Writer and the operation lie in memory, apart; nothing is longer than a million. · Regions that draw their order, by hand: an operation that reads is taken first, one that may come up next is walked as a list of one. No condition. · The walks of hearsayref6.IsID, After, Compare, Check: of runs it tells what chkR says. Conditions: the numbers are those of Go's int. -/
import Derived.Test.YtnlklhlnnoihiaaMO18
import Derived.Test.YtnlklhlnnoihiaaMO26
import Derived.Test.YtnlklhlnnoihiaaMO10
import Derived.Test.YtnlklhlnnoihiaaMO15
import Derived.Test.YtnlklhlnnoihiaaMO1
import Derived.Deep.RegionHeld3
import Derived.Deep.MidRow
import Derived.Test.YtnlklhlnnoihiaaMO6
namespace Go.Proofs.Ytnlklhlnnoihiaa
open Go Go.RowKit

def goneNums (l : List Rn) : List Nat := l.flatMap fun r => [r.id.time.toNat, r.id.site.toNat, r.count.toNat]
/-- Behind the dots. -/
def encT (o : Opr) : List Int :=
  if o.kind = 1 then encs [o.id.time.toNat, o.ref.time.toNat, o.ref.site.toNat] ++ (enc o.text.size ++ tb o.text) else if o.kind = 2 then encs (o.gone.length :: goneNums o.gone) else if o.kind = 3 then encs [o.site.toNat] else []
def encOp (o : Opr) : List Int := encs [o.kind.toNat, o.dot.site.toNat, o.dot.seq.toNat] ++ (encs (vnums o.deps) ++ encT o)
theorem chkR_all : ∀ (l p : List Rn), chkR p l = 0 → ∀ r ∈ l, okRn r = true
  | [], _, _, r, hr => absurd hr (by simp)
  | x :: l, p, h, r, hr => by
    rw [chkR] at h
    by_cases hs : stepR p x = 0
    · rw [if_pos hs] at h
      rcases List.mem_cons.1 hr with rfl | hr
      · unfold stepR at hs
        cases hx : okRn r with
        | true => rfl
        | false => rw [if_pos hx] at hs; cases hs
      · exact chkR_all l _ h r hr
    · rw [if_neg hs] at h
      exact absurd h hs
theorem okRn_iff (r : Rn) : okRn r = true ↔ 1 ≤ r.count ∧ okId r.id = true ∧ r.count - 1 ≤ 2147483647 - r.id.time := by
  unfold okRn
  simp only [Bool.and_eq_true, decide_eq_true_eq, and_assoc]
/-- What is so of an operation that may be. -/
structure OkF (o : Opr) : Prop where
  s1 : 1 ≤ o.dot.site
  s2 : o.dot.site ≤ 16
  q1 : 1 ≤ o.dot.seq
  q2 : o.dot.seq ≤ 2147483647
  dv : checkV o.deps = 0
  kd : (o.kind = 1 ∧ o.gone = [] ∧ o.site = 0 ∧ 0 < cnt o.text ∧ cnt o.text ≤ 1024 ∧ badAt o.text < 0 ∧ o.id.site = o.dot.site ∧ okId o.id = true ∧ (cnt o.text : Int) - 1 ≤ 2147483647 - o.id.time ∧ (o.ref = noId ∨ okId o.ref = true) ∧ o.ref.time < o.id.time) ∨
    (o.kind = 2 ∧ o.id = noId ∧ o.ref = noId ∧ o.text = ⟨#[]⟩ ∧ o.site = 0 ∧ 0 < o.gone.length ∧ o.gone.length ≤ 1024 ∧ chkR [] o.gone = 0) ∨
    (o.kind = 3 ∧ o.gone = [] ∧ o.id = noId ∧ o.ref = noId ∧ o.text = ⟨#[]⟩ ∧ 1 ≤ o.site ∧ o.site ≤ 16) ∨
    (o.kind = 4 ∧ o.gone = [] ∧ o.id = noId ∧ o.ref = noId ∧ o.text = ⟨#[]⟩ ∧ o.site = 0)
theorem sameRest_iff (i r : Idt) (t : ByteArray) (s : Int) (i' r' : Idt) (t' : ByteArray) (s' : Int) : sameRest i r t s i' r' t' s' = true ↔ i = i' ∧ r = r' ∧ t = t' ∧ s = s' := by
  unfold sameRest
  simp only [Bool.and_eq_true, decide_eq_true_eq]
theorem okOp_f {o : Opr} (h : okOp o = true) : OkF o := by
  unfold okOp at h
  simp only [Bool.and_eq_true, decide_eq_true_eq] at h
  obtain ⟨⟨⟨⟨d1, d2, d3, d4⟩, hc⟩, -⟩, hr⟩ := h
  refine ⟨d1, d2, d3, d4, hc, ?_⟩
  unfold rightB at hr
  by_cases k1 : o.kind = 1
  · rw [if_pos k1] at hr
    unfold insB at hr
    simp only [Bool.and_eq_true, Bool.or_eq_true, decide_eq_true_eq, sameRest_iff, Bool.not_eq_true', decide_eq_false_iff_not] at hr
    obtain ⟨g0, ⟨-, -, -, hs⟩, c0, c1, hb, hi, ha, hrf, hlt⟩ := hr
    refine .inl ⟨k1, List.eq_nil_of_length_eq_zero g0, hs, c0, c1, hb, hi, ?_⟩
    have hok : okId o.id = true ∧ (0 : Int) ≤ (cnt o.text : Int) - 1 ∧ (cnt o.text : Int) - 1 ≤ 2147483647 - o.id.time := by
      by_cases hx : okId o.id = true ∧ (0 : Int) ≤ (cnt o.text : Int) - 1 ∧ (cnt o.text : Int) - 1 ≤ 2147483647 - o.id.time
      · exact hx
      · unfold afterI at ha
        rw [if_neg hx] at ha
        exact absurd rfl ha
    refine ⟨hok.1, hok.2.2, ?_, hlt⟩
    rcases hrf with h | h
    · exact .inl h
    · by_cases hx : okId o.ref = true
      · exact .inr hx
      · unfold afterI at h
        rw [if_neg (fun e => hx e.1)] at h
        exact .inl h.symm
  · rw [if_neg k1] at hr
    by_cases k2 : o.kind = 2
    · rw [if_pos k2] at hr
      unfold removeB at hr
      simp only [Bool.and_eq_true, decide_eq_true_eq, sameRest_iff] at hr
      obtain ⟨⟨a, b, c, d⟩, g0, g1, hk⟩ := hr
      exact .inr (.inl ⟨k2, a, b, c, d, g0, g1, hk⟩)
    · rw [if_neg k2] at hr
      by_cases k3 : o.kind = 3
      · rw [if_pos k3] at hr
        unfold joinB bareB at hr
        simp only [Bool.and_eq_true, decide_eq_true_eq, sameRest_iff] at hr
        obtain ⟨g0, ⟨a, b, c, -⟩, s1, s2⟩ := hr
        exact .inr (.inr (.inl ⟨k3, List.eq_nil_of_length_eq_zero g0, a, b, c, s1, s2⟩))
      · rw [if_neg k3] at hr
        by_cases k4 : o.kind = 4
        · rw [if_pos k4] at hr
          unfold bareB at hr
          simp only [Bool.and_eq_true, decide_eq_true_eq, sameRest_iff] at hr
          obtain ⟨g0, a, b, c, d⟩ := hr
          exact .inr (.inr (.inr ⟨k4, List.eq_nil_of_length_eq_zero g0, a, b, c, d⟩))
        · rw [if_neg k4] at hr
          cases hr
theorem encs_app (m n : List Nat) : encs (m ++ n) = encs m ++ encs n := by simp [encs]
theorem encs_one (x : Nat) : encs [x] = enc x := by simp [encs]
theorem encs_nil : encs [] = [] := rfl
theorem encs_le (m : List Nat) (h : ∀ x ∈ m, x ≤ 9223372036854775807) : (encs m).length ≤ 9 * m.length := encs_len m h
theorem goneNums_snoc (l : List Rn) (k : Nat) (h : k < l.length) : goneNums (l.take (k + 1)) = goneNums (l.take k) ++ [l[k].id.time.toNat, l[k].id.site.toNat, l[k].count.toNat] := by
  unfold goneNums
  rw [List.take_succ_eq_append_getElem h, List.flatMap_append]
  simp only [List.flatMap_cons, List.flatMap_nil, List.append_nil]
theorem goneNums_len (l : List Rn) : (goneNums l).length = 3 * l.length := by
  induction l with
  | nil => rfl
  | cons d l ih => simp only [goneNums, List.flatMap_cons, List.length_append, List.length_cons, List.length_nil] at ih ⊢; omega
theorem goneNums_bd (l : List Rn) (h : ∀ r ∈ l, okRn r = true) : ∀ x ∈ goneNums l, x ≤ 2147483648 := by
  intro x hx
  obtain ⟨r, hr, hx⟩ := List.mem_flatMap.1 hx
  have hk := h r hr
  rw [okRn_iff, okId_iff] at hk
  simp only [List.mem_cons, List.not_mem_nil, or_false] at hx
  rcases hx with rfl | rfl | rfl <;> omega
/-- In the middle of laying: m was laid since w. -/
def WL (w : World) (base g : Nat) (sv : Value) (l : List Int) (e : Int) (m : List Int) (W : World) : Prop := WNext w base g sv (layB l e m) e W
section
variable {w W W' : World} {base g : Nat} {sv : Value} {l m : List Int} {e : Int}
theorem WL.start (h : WriterAt w base g sv l e) : WL w base g sv l e [] w := by
  unfold WL
  rw [layB_nil]
  exact WNext.refl h
theorem WL.fresh (h : WL w base g sv l e m W) (hk : Kept (fun _ => False) W W') : WL w base g sv l e m W' := WNext.fresh h hk
theorem WL.box {b : Nat} {T : TypeId} {cs : Array Value} (h : WL w base g sv l e m W) (hb : Box w b T cs) (hn : ¬ OwnsW g sv b) : Box W b T cs := by
  obtain ⟨sv', _, hk, _⟩ := h
  exact hb.kept hk hn
theorem WL.kept (h : WL w base g sv l e m W) : Kept (OwnsW g sv) w W := by
  obtain ⟨sv', _, hk, _⟩ := h
  exact hk
theorem WL.num (h : WL w base g sv l e m W) (x : Nat) (hx : x ≤ 9223372036854775807) (hl : l.length + m.length ≤ 1000000) :
    Calls Try.prog 37 #[.pointer (some ⟨g, 0, none⟩), .int .i64 x] W fun r w' => r = .returned (.tuple #[]) ∧ WL w base g sv l e (m ++ enc x) w' := by
  obtain ⟨sv', h1, h2, h3⟩ := h
  have hll := layB_len l e m
  refine (Number_any base g sv' _ e x W h1 (by omega) (by omega)).mono ?_
  rw [(layB_num (layB l e m) e x).1, (layB_num (layB l e m) e x).2, layB_app]
  rintro r w' ⟨hr, hn⟩
  exact ⟨hr, WNext.trans h2 h3 hn⟩
theorem WL.text (h : WL w base g sv l e m W) (s : ByteArray) (hs : s.size ≤ 1000000) (hl : l.length + m.length ≤ 1000000) :
    Calls Try.prog 36 #[.pointer (some ⟨g, 0, none⟩), .string s] W fun r w' => r = .returned (.tuple #[]) ∧ WL w base g sv l e (m ++ (enc s.size ++ tb s)) w' := by
  obtain ⟨sv', h1, h2, h3⟩ := h
  have hll := layB_len l e m
  refine (WText_any base g sv' _ e s W h1 (by omega) hs).mono ?_
  rw [layB_app]
  rintro r w' ⟨hr, hn⟩
  exact ⟨hr, WNext.trans h2 h3 hn⟩
theorem WL.dots (h : WL w base g sv l e m W) (A : Option Addr) (v : List Dt) (c : Nat) (hv : DotsAt W A v) (hlen : v.length ≤ 4611686018427387904) (hc : checkV v = 0) (hl : l.length + m.length ≤ 900000) :
    Calls Try.prog 63 #[.pointer (some ⟨g, 0, none⟩), .slice A v.length c] W fun r w' => r = .returned (.tuple #[]) ∧ WL w base g sv l e (m ++ encs (vnums v)) w' := by
  obtain ⟨sv', h1, h2, h3⟩ := h
  have hll := layB_len l e m
  refine (Put_any base g sv' _ e A v c W h1 hv hlen (by omega)).mono ?_
  rw [vec_says hc, layB_puts, layB_app]
  rintro r w' ⟨hr, hn⟩
  exact ⟨hr, WNext.trans h2 h3 hn⟩
/-- What lies elsewhere stays while it is laid. -/
theorem WL.dotsAt {A : Option Addr} {v : List Dt} (h : WL w base g sv l e m W) (hv : DotsAt w A v) (hn : v ≠ [] → ∀ a, A = some a → ¬ OwnsW g sv a.block) : DotsAt W A v := by
  rcases v with _ | ⟨x, v⟩
  · exact DotsAt.nil
  · exact hv.kept h.kept (hn (by simp))
theorem WL.runsAt {A : Option Addr} {v : List Rn} (h : WL w base g sv l e m W) (hv : RunsAt w A v) (hn : v ≠ [] → ∀ a, A = some a → ¬ OwnsW g sv a.block) : RunsAt W A v := by
  rcases v with _ | ⟨x, v⟩
  · exact RunsAt.nil
  · exact hv.kept h.kept (fun _ => hn (by simp))
theorem WL.post (h : WL w base g sv l e m W) {r : Ending} (hr : r = .returned (.tuple #[])) : WPost w base g sv (layB l e m) e r W := ⟨hr, h⟩
end
/-- An operation's lists lie elsewhere than what a Writer has. -/
structure OffW (g : Nat) (sv : Value) (x : Lop) : Prop where
  d : x.o.deps ≠ [] → ∀ a, x.dA = some a → ¬ OwnsW g sv a.block
  g : x.o.gone ≠ [] → ∀ a, x.gA = some a → ¬ OwnsW g sv a.block
end Go.Proofs.Ytnlklhlnnoihiaa

namespace Go.Proofs.Ytnlklhlnnoihiaa
open Go Go.RowKit

section
variable {w w1 W W' : World} {base g : Nat} {sv sv' : Value} {l m n : List Int} {e : Int}
theorem WL.join (_h1 : WriterAt W base g sv' (layB l e m) e) (h2 : Kept (OwnsW g sv) w W) (h3 : MovedW w sv sv') (h' : WL W base g sv' (layB l e m) e n W') : WL w base g sv l e (m ++ n) W' := by
  unfold WL at *
  rw [layB_app] at h'
  exact WNext.trans h2 h3 h'
theorem WL.before (h : WL w1 base g sv l e m W) (hk : Kept (fun _ => False) w w1) : WL w base g sv l e m W := WNext.before h hk
theorem WriterAt.off (h : WriterAt w base g sv l e) {k : Nat} (hk : w.heap.size ≤ k) : ¬ OwnsW g sv k := fun ho => by have := (h.own_lt _ ho).2; omega
end
theorem runs_lt {w : World} {A : Option Addr} {l : List Rn} (h : RunsAt w A l) (hne : l ≠ []) : ∀ a, A = some a → a.block < w.heap.size := by
  rintro a rfl
  obtain ⟨ad, e, x0, _⟩ := h 0 (by cases l with | nil => exact absurd rfl hne | cons x l => simp)
  injection e with e
  subst e
  have := World.block_lt_of_cell? w _ x0
  have hb : (a.add (0 * 3)).block = a.block := by unfold Addr.add; split <;> rfl
  rwa [hb] at this
theorem dots_lt0 {w : World} {A : Option Addr} {l : List Dt} (h : DotsAt w A l) (hne : l ≠ []) : ∀ a, A = some a → a.block < w.heap.size := by
  rintro a rfl
  obtain ⟨ad, e, x0, _⟩ := h 0 (by cases l with | nil => exact absurd rfl hne | cons x l => simp)
  injection e with e
  subst e
  have := World.block_lt_of_cell? w _ x0
  have hb : (a.add (0 * 2)).block = a.block := by unfold Addr.add; split <;> rfl
  rwa [hb] at this
theorem Lop.At.opr {w : World} {x : Lop} (h : x.At w) (hs : x.o.Small) : OprAt w x.dA x.gA x.o := ⟨h.d, h.g, hs.counts, hs.dl, hs.gl, hs.tl⟩
set_option maxRecDepth 100000 in
set_option maxHeartbeats 1600000 in
theorem putI_any (base g : Nat) (sv : Value) (l : List Int) (e : Int) (it rt rs : Nat) (is : Int) (text : ByteArray) (w : World) (h : WriterAt w base g sv l e) (h1 : it ≤ 2147483648) (h2 : rt ≤ 2147483648) (h3 : rs ≤ 2147483648) (ht : text.size ≤ 1000000) (hl : l.length ≤ 950000) :
    Calls Try.prog 99 #[.agg #[.int .i64 it, .int .i64 is, .int .i64 rt, .int .i64 rs, .string text], .pointer (some ⟨g, 0, none⟩)] w (WPost w base g sv (layB l e (encs [it, rt, rs] ++ (enc text.size ++ tb text))) e) := by
  have hk0 : Kept (fun _ => False) w (w.alloc (.cells #[.int .i64 it, .int .i64 is, .int .i64 rt, .int .i64 rs, .string text] 114)) := (Kept.refl _ _).alloc _
  have HK0 := Lib.hid hk0
  have HB := Lib.hid (Box.new w 114 #[.int .i64 it, .int .i64 is, .int .i64 rt, .int .i64 rs, .string text])
  have HN := Lib.hid (show ¬ OwnsW g sv w.heap.size from h.off (Nat.le_refl _))
  have HW := Lib.hid (WL.start (h.fresh hk0))
  have e1 := enc_len9 it (by omega)
  have e2 := enc_len9 rt (by omega)
  have e3 := enc_len9 rs (by omega)
  clear h hk0
  go_enter Try.func99, Try.ntmps99
  go_upto_region 1 with (fail)
  generalize w.alloc (.cells #[.int .i64 it, .int .i64 is, .int .i64 rt, .int .i64 rs, .string text] 114) = w0 at HK0 HB HW ⊢
  have b0 : w0.cell? ⟨w.heap.size, 0, none⟩ = some (.int .i64 it) := by simpa using HB.out.cell 0
  go_wp2_with (fail)
  refine (HW.out.num it (by omega) (by simp only [List.length_nil]; omega)).mono ?_
  rintro r w2 ⟨rfl, hw2⟩
  have HW2 := Lib.hid hw2
  have b2 : w2.cell? ⟨w.heap.size, 2, none⟩ = some (.int .i64 rt) := by simpa using (hw2.box HB.out HN.out).cell 2
  clear hw2 HW b0
  go_wp2_with (fail)
  refine (HW2.out.num rt (by omega) (by simp only [List.length_append, List.length_nil]; omega)).mono ?_
  rintro r w3 ⟨rfl, hw3⟩
  have HW3 := Lib.hid hw3
  have b3 : w3.cell? ⟨w.heap.size, 3, none⟩ = some (.int .i64 rs) := by simpa using (hw3.box HB.out HN.out).cell 3
  clear hw3 HW2 b2
  go_wp2_with (fail)
  refine (HW3.out.num rs (by omega) (by simp only [List.length_append, List.length_nil]; omega)).mono ?_
  rintro r w4 ⟨rfl, hw4⟩
  have HW4 := Lib.hid hw4
  have b4 : w4.cell? ⟨w.heap.size, 4, none⟩ = some (.string text) := by simpa using (hw4.box HB.out HN.out).cell 4
  clear hw4 HW3 b3
  go_wp2_with (fail)
  refine (HW4.out.text text ht (by simp only [List.length_append, List.length_nil]; omega)).mono ?_
  rintro r w5 ⟨rfl, hw5⟩
  have HW5 := Lib.hid (hw5.before HK0.out)
  clear hw5 HW4 b4 HK0 HB HN
  go_wp2_with (fail)
  go_end0
  have := HW5.out.post (r := .returned (.tuple #[])) rfl
  rw [show [] ++ enc it ++ enc rt ++ enc rs ++ (enc text.size ++ tb text) = encs [it, rt, rs] ++ (enc text.size ++ tb text) by simp [encs]] at this
  exact this
set_option maxRecDepth 100000 in
set_option maxHeartbeats 1600000 in
theorem putJ_any (base g : Nat) (sv : Value) (l : List Int) (e : Int) (s : Nat) (w : World) (h : WriterAt w base g sv l e) (h1 : s ≤ 2147483648) (hl : l.length ≤ 950000) :
    Calls Try.prog 121 #[.agg #[.int .i64 s], .pointer (some ⟨g, 0, none⟩)] w (WPost w base g sv (layB l e (encs [s])) e) := by
  have hk0 : Kept (fun _ => False) w (w.alloc (.cells #[.int .i64 s] 118)) := (Kept.refl _ _).alloc _
  have HK0 := Lib.hid hk0
  have HB := Lib.hid (Box.new w 118 #[.int .i64 s])
  have HW := Lib.hid (WL.start (h.fresh hk0))
  clear h hk0
  go_enter Try.func121, Try.ntmps121
  go_upto_region 1 with (fail)
  generalize w.alloc (.cells #[.int .i64 s] 118) = w0 at HK0 HB HW ⊢
  have b0 : w0.cell? ⟨w.heap.size, 0, none⟩ = some (.int .i64 s) := by simpa using HB.out.cell 0
  go_wp2_with (fail)
  refine (HW.out.num s (by omega) (by simp only [List.length_nil]; omega)).mono ?_
  rintro r w2 ⟨rfl, hw2⟩
  have HW2 := Lib.hid (hw2.before HK0.out)
  clear hw2 HW b0 HB HK0
  go_wp2_with (fail)
  go_end0
  have := HW2.out.post (r := .returned (.tuple #[])) rfl
  rw [show [] ++ enc s = encs [s] by simp [encs]] at this
  exact this
set_option maxRecDepth 100000 in
theorem putL_any (base g : Nat) (sv : Value) (l : List Int) (e : Int) (w : World) (h : WriterAt w base g sv l e) :
    Calls Try.prog 125 #[.agg #[], .pointer (some ⟨g, 0, none⟩)] w (WPost w base g sv (layB l e []) e) := by
  have hk0 : Kept (fun _ => False) w (w.alloc (.cells #[] 120)) := (Kept.refl _ _).alloc _
  have HW := Lib.hid (WPost.same (r := .returned (.tuple #[])) rfl (h.fresh hk0) (hk0.more fun _ _ e => e.elim))
  clear h hk0
  rw [layB_nil]
  go_enter Try.func125, Try.ntmps125
  go_wp2_with (fail)
  go_end0
  exact HW.out
set_option maxRecDepth 100000 in
set_option maxHeartbeats 3200000 in
theorem putR_any (base g : Nat) (sv : Value) (l : List Int) (e : Int) (A : Option Addr) (gone : List Rn) (c : Nat) (w : World) (h : WriterAt w base g sv l e) (hr : RunsAt w A gone) (hoff : gone ≠ [] → ∀ a, A = some a → ¬ OwnsW g sv a.block) (hk : ∀ r ∈ gone, okRn r = true) (hg : gone.length ≤ 1024) (hl : l.length ≤ 950000) :
    Calls Try.prog 111 #[.agg #[.slice A gone.length c], .pointer (some ⟨g, 0, none⟩)] w (WPost w base g sv (layB l e (encs (gone.length :: goneNums gone))) e) := by
  have hk0 : Kept (fun _ => False) w (w.alloc (.cells #[.slice A gone.length c] 116)) := (Kept.refl _ _).alloc _
  have HK0 := Lib.hid hk0
  have HB := Lib.hid (Box.new w 116 #[.slice A gone.length c])
  have HN := Lib.hid (show ¬ OwnsW g sv w.heap.size from h.off (Nat.le_refl _))
  have HW := Lib.hid (WL.start (h.fresh hk0))
  have HR := Lib.hid (hr.fresh hk0)
  have HOFF := Lib.hid hoff
  have HOKR := Lib.hid hk
  have e1 := enc_len9 gone.length (by omega)
  clear h hk0 hr hoff hk
  go_enter Try.func111, Try.ntmps111
  go_upto_region 1 with (fail)
  generalize w.alloc (.cells #[.slice A gone.length c] 116) = w0 at HK0 HB HW HR ⊢
  have b0 : w0.cell? ⟨w.heap.size, 0, none⟩ = some (.slice A gone.length c) := by simpa using HB.out.cell 0
  go_wp2_with (fail)
  refine (HW.out.num gone.length (by omega) (by simp only [List.length_nil]; omega)).mono ?_
  rintro r w2 ⟨rfl, hw2⟩
  have HW2 := Lib.hid (show WL w0 base g sv l e (encs (gone.length :: goneNums (gone.take 0))) w2 from by have := hw2; rw [show [] ++ enc gone.length = encs (gone.length :: goneNums (gone.take 0)) by simp [encs, goneNums]] at this; exact this)
  have b1 : w2.cell? ⟨w.heap.size, 0, none⟩ = some (.slice A gone.length c) := by simpa using (hw2.box HB.out HN.out).cell 0
  clear hw2 HW b0
  go_wp2_with (fail)
  go_loopw [14] (fun i wr => ∃ k : Nat, i = .int .i64 k ∧ k ≤ gone.length ∧ WL w0 base g sv l e (encs (gone.length :: goneNums (gone.take k))) wr) (fun i _ => gone.length - (intOf i).toNat)
  case atStart => exact ⟨0, rfl, Nat.zero_le _, HW2.out⟩
  case round =>
    obtain ⟨k, rfl, hk, hw⟩ := hrel
    clear HW2 b1
    by_cases hlt : k < gone.length
    · obtain ⟨sv', hw1, hw2, hw3⟩ := hw
      have hll := layB_len l e (encs (gone.length :: goneNums (gone.take k)))
      have hel : (encs (gone.length :: goneNums (gone.take k))).length ≤ 9 * (1 + 3 * 1024) := by
        refine Nat.le_trans (encs_le _ fun x hx => ?_) ?_
        · rcases List.mem_cons.1 hx with rfl | hx
          · omega
          · have := goneNums_bd (gone.take k) (fun r hr => HOKR.out r (List.mem_of_mem_take hr)) x hx
            omega
        · have h1 := goneNums_len (gone.take k)
          have h2 := List.length_take_le k gone
          simp only [List.length_cons]
          omega
      have hne : gone ≠ [] := by intro e; rw [e] at hlt; simp at hlt
      obtain ⟨ad, rfl, x0, x1, x2⟩ := (HR.out.kept hw2 (fun _ => HOFF.out hne)) k hlt
      have hsn := goneNums_snoc gone k hlt
      have hok := HOKR.out gone[k] (List.getElem_mem hlt)
      generalize gone[k] = q at x0 x1 x2 hsn hok
      obtain ⟨⟨t, s⟩, n⟩ := q
      simp only at x0 x1 x2 hsn
      rw [okRn_iff, okId_iff] at hok
      simp only at hok
      obtain ⟨t', rfl⟩ : ∃ n : Nat, t = n := ⟨t.toNat, by omega⟩
      obtain ⟨s', rfl⟩ : ∃ n : Nat, s = n := ⟨s.toNat, by omega⟩
      obtain ⟨n', rfl⟩ : ∃ n' : Nat, n = n' := ⟨n.toNat, by omega⟩
      simp only [Int.toNat_natCast] at hsn
      have ht := enc_len9 t' (by omega)
      have hs := enc_len9 s' (by omega)
      have HSN := Lib.hid hsn
      have hka : Kept (fun _ => False) wr (wr.alloc (.cells #[.int .i64 (t' : Int), .int .i64 (s' : Int), .int .i64 (n' : Int)] 32)) := (Kept.refl _ _).alloc _
      have HX := Lib.hid (Box.new wr 32 #[.int .i64 (t' : Int), .int .i64 (s' : Int), .int .i64 (n' : Int)])
      have HG := Lib.hid (show ¬ OwnsW g sv' wr.heap.size from hw1.off (Nat.le_refl _))
      have HV := Lib.hid (WL.start (hw1.fresh hka))
      have HJ := Lib.hid (fun (n : List Int) (W' : World) (h' : WL (wr.alloc (.cells #[.int .i64 (t' : Int), .int .i64 (s' : Int), .int .i64 (n' : Int)] 32)) base g sv' (layB l e (encs (gone.length :: goneNums (gone.take k)))) e n W') => WL.join (hw1.fresh hka) (hw2.trans hka fun _ _ e => e.elim) hw3 h')
      obtain ⟨LL, hLL⟩ : ∃ LL, layB l e (encs (gone.length :: goneNums (gone.take k))) = LL := ⟨_, rfl⟩
      rw [hLL] at HV HJ hll
      clear hw1 hw2 hw3 hsn hka hne hLL
      go_upto_region 5 with (fail)
      generalize wr.alloc (.cells #[.int .i64 (t' : Int), .int .i64 (s' : Int), .int .i64 (n' : Int)] 32) = w3 at HX HV HJ ⊢
      obtain ⟨N, hN⟩ : ∃ N, wr.heap.size = N := ⟨_, rfl⟩
      rw [hN] at HX HG ⊢
      clear x0 x1 x2 hN
      have y0 : w3.cell? ⟨N, 0, none⟩ = some (.int .i64 (t' : Int)) := by simpa using HX.out.cell 0
      go_wp2_with (fail)
      refine (HV.out.num t' (by omega) (by simp only [List.length_nil]; omega)).mono ?_
      rintro r w4 ⟨rfl, hw4⟩
      have HV4 := Lib.hid hw4
      have y1 : w4.cell? ⟨N, 1, none⟩ = some (.int .i64 (s' : Int)) := by simpa using (hw4.box HX.out HG.out).cell 1
      clear hw4 HV y0
      go_wp2_with (fail)
      refine (HV4.out.num s' (by omega) (by simp only [List.length_append, List.length_nil]; omega)).mono ?_
      rintro r w5 ⟨rfl, hw5⟩
      have HV5 := Lib.hid hw5
      have y2 : w5.cell? ⟨N, 2, none⟩ = some (.int .i64 (n' : Int)) := by simpa using (hw5.box HX.out HG.out).cell 2
      clear hw5 HV4 y1
      go_wp2_with (fail)
      refine (HV5.out.num n' (by omega) (by simp only [List.length_append, List.length_nil]; omega)).mono ?_
      rintro r w6 ⟨rfl, hw6⟩
      have HW6 := Lib.hid (show WL w0 base g sv l e (encs (gone.length :: goneNums (gone.take (k + 1)))) w6 from by
        have := HJ.out _ _ hw6
        rw [show encs (gone.length :: goneNums (gone.take k)) ++ ([] ++ enc t' ++ enc s' ++ enc n') = encs (gone.length :: goneNums (gone.take (k + 1))) by rw [HSN.out]; simp [encs]] at this
        exact this)
      clear hw6 HV5 y2 HJ HX HG
      go_wp2_with (fail)
      go_roundw
      case rel => exact ⟨k + 1, by go_num, by omega, HW6.out⟩
      case measure => simp [intOf]; omega
    · obtain rfl : k = gone.length := by omega
      rw [List.take_length] at hw
      have HW6 := Lib.hid (hw.before HK0.out)
      clear hw
      go_wp2_with (fail)
      go_end0
      exact HW6.out.post rfl

theorem OffW.moved {w1 w2 : World} {g : Nat} {sv sv' : Value} {x : Lop} (h : OffW g sv x) (hx : x.At w1) (hm : MovedW w1 sv sv') (_hs : w1.heap.size ≤ w2.heap.size) : OffW g sv' x := by
  refine ⟨fun hne a ha ho => ?_, fun hne a ha ho => ?_⟩
  · rcases ho with e | e
    · exact h.d hne a ha (.inl e)
    · rcases hm _ e with e | e
      · exact h.d hne a ha (.inr e)
      · have := dots_lt0 hx.d hne a ha; omega
  · rcases ho with e | e
    · exact h.g hne a ha (.inl e)
    · rcases hm _ e with e | e
      · exact h.g hne a ha (.inr e)
      · have := runs_lt hx.g hne a ha; omega
def layO (l : List Int) (e : Int) (o : Opr) : List Int := if okOp o = true then layB l e (encOp o) else l
set_option maxRecDepth 100000 in
set_option maxHeartbeats 3200000 in
theorem OpPut_kind (base g : Nat) (sv : Value) (l : List Int) (e : Int) (x : Lop) (w : World) (T : TypeId) (v : Value) (K : Nat) (r : Value) (h : WriterAt w base g sv l e) (hx : x.At w) (hs : x.o.Small) (hoff : OffW g sv x) (hok : okOp x.o = true) (hl : l.length ≤ 800000)
    (HOF : Hid (∀ W, Calls Try.prog 45 #[.agg x.c] W (OfPost W (.iface T v))))
    (hm : ∀ W : World, (method 270 T v "hearsay/op.put").run Try.prog W = .ok (K, r) W) (hcf : ∀ (W : World) (a : Array Value), (callFunc K a).run Try.prog W = .ok (.enter K a) W)
    (HP : Hid (∀ (W : World) (sv' : Value) (l' : List Int), WriterAt W base g sv' l' e → x.At W → OffW g sv' x → l'.length ≤ 950000 → Calls Try.prog K #[r, .pointer (some ⟨g, 0, none⟩)] W (WPost W base g sv' (layB l' e (encT x.o)) e))) :
    Calls Try.prog 32 #[.pointer (some ⟨g, 0, none⟩), .agg x.c] w (WPost w base g sv (layB l e (encOp x.o)) e) := by
  have hf := okOp_f hok
  have hk0 : Kept (fun _ => False) w (w.alloc (.cells x.c 30)) := (Kept.refl _ _).alloc _
  have HK0 := Lib.hid hk0
  have HC := Lib.hid (fun W (hW : x.At W) => OpCheck_any x.o x.dA x.gA x.dc x.gc W (hW.opr hs))
  have HXC := Lib.hid (show x.o.cells x.dA x.dc x.gA x.gc = x.c from rfl)
  have HE := Lib.hid (show opE x.o = 0 by unfold opE; rw [hok]; rfl)
  have HN := Lib.hid (show ¬ OwnsW g sv w.heap.size from h.off (Nat.le_refl _))
  have HB := Lib.hid (Box.new w 30 x.c)
  have HW := Lib.hid (WL.start (h.fresh hk0))
  have HX := Lib.hid (hx.fresh hk0)
  have HOFF := Lib.hid hoff
  have HDV := Lib.hid hf.dv
  have hdl := hs.dl
  obtain ⟨kd, hkd⟩ : ∃ kd : Nat, x.o.kind = kd := ⟨x.o.kind.toNat, by have := hf.kd; omega⟩
  obtain ⟨st, hst⟩ : ∃ st : Nat, x.o.dot.site = st := ⟨x.o.dot.site.toNat, by have := hf.s1; omega⟩
  obtain ⟨sq, hsq⟩ : ∃ sq : Nat, x.o.dot.seq = sq := ⟨x.o.dot.seq.toNat, by have := hf.q1; omega⟩
  have hkb : kd ≤ 4 := by have := hf.kd; omega
  have hsb : st ≤ 16 := by have := hf.s2; omega
  have hqb : sq ≤ 2147483647 := by have := hf.q2; omega
  have e1 := enc_len9 kd (by omega)
  have e2 := enc_len9 st (by omega)
  have e3 := enc_len9 sq (by omega)
  have HEO := Lib.hid (show encOp x.o = [] ++ enc kd ++ enc st ++ enc sq ++ encs (vnums x.o.deps) ++ encT x.o by unfold encOp; rw [hkd, hst, hsq]; simp [encs])
  have hvl : (encs (vnums x.o.deps)).length ≤ 9 * 33 := by
    have hv := vec_len (Row.says x.o.deps)
    rw [vec_says hf.dv] at hv
    refine Nat.le_trans (encs_le _ fun z hz => ?_) ?_
    · unfold vnums at hz
      rcases List.mem_cons.1 hz with rfl | hz
      · omega
      · have := dotNums_bd x.o.deps (by have := vec_ok (Row.says x.o.deps) 17 (Nat.le_refl _); rw [show vecTo (says x.o.deps) 17 = x.o.deps from vec_says hf.dv] at this; exact this) z hz
        omega
    · unfold vnums
      rw [List.length_cons, dotNums_len]
      omega
  obtain ⟨cs, hcs⟩ : ∃ cs, x.c = cs := ⟨_, rfl⟩
  have HSZ := Lib.hid (show cs.size = 11 by rw [← hcs]; rfl)
  have HC3 := Lib.hid (show cs[3]? = some (.int .i64 (kd : Int)) by rw [← hcs, ← hkd]; rfl)
  have HC0 := Lib.hid (show cs[0]? = some (.int .i64 (st : Int)) by rw [← hcs, ← hst]; rfl)
  have HC1 := Lib.hid (show cs[1]? = some (.int .i64 (sq : Int)) by rw [← hcs, ← hsq]; rfl)
  have HC2 := Lib.hid (show cs[2]? = some (.slice x.dA x.o.deps.length x.dc) by rw [← hcs]; rfl)
  rw [hcs] at HXC HB HW HX HK0 HOF ⊢
  clear h hx hs hoff hok hk0 hf hcs hkd hst hsq
  go_enter Try.func32, Try.ntmps32
  go_upto_region 1 with (fail)
  generalize w.alloc (.cells cs 30) = w0 at HK0 HB HW HX ⊢
  go_wp2_with (refine wpList_load_op rfl _ rfl w.heap.size rfl _ cs HSZ.out HB.out ?_)
  have hcall := HC.out w0 HX.out
  rw [HXC.out, HE.out] at hcall
  refine hcall.mono ?_
  unfold IntPost
  rintro r1 w1 ⟨rfl, hk1⟩
  have HW1 := Lib.hid (HW.out.fresh hk1)
  have b3 : w1.cell? ⟨w.heap.size, 3, none⟩ = some (.int .i64 (kd : Int)) := ((HB.out.kept hk1 id).cell 3).trans HC3.out
  clear hk1 HW hcall HC HXC HE
  go_wp2_with (fail)
  refine (HW1.out.num kd (by omega) (by simp only [List.length_nil]; omega)).mono ?_
  rintro r2 w2 ⟨rfl, hw2⟩
  have HW2 := Lib.hid hw2
  have b0 : w2.cell? ⟨w.heap.size, 0, none⟩ = some (.int .i64 (st : Int)) := ((hw2.box HB.out HN.out).cell 0).trans HC0.out
  clear hw2 HW1 b3
  go_wp2_with (fail)
  refine (HW2.out.num st (by omega) (by simp only [List.length_append, List.length_nil]; omega)).mono ?_
  rintro r2 w3 ⟨rfl, hw3⟩
  have HW3 := Lib.hid hw3
  have b1 : w3.cell? ⟨w.heap.size, 1, none⟩ = some (.int .i64 (sq : Int)) := ((hw3.box HB.out HN.out).cell 1).trans HC1.out
  clear hw3 HW2 b0
  go_wp2_with (fail)
  refine (HW3.out.num sq (by omega) (by simp only [List.length_append, List.length_nil]; omega)).mono ?_
  rintro r2 w4 ⟨rfl, hw4⟩
  have HW4 := Lib.hid hw4
  have b2 : w4.cell? ⟨w.heap.size, 2, none⟩ = some (.slice x.dA x.o.deps.length x.dc) := ((hw4.box HB.out HN.out).cell 2).trans HC2.out
  clear hw4 HW3 b1
  go_wp2_with (fail)
  refine (HW4.out.dots x.dA x.o.deps x.dc (HW4.out.dotsAt HX.out.d HOFF.out.d) (by omega) HDV.out (by simp only [List.length_append, List.length_nil]; omega)).mono ?_
  rintro r2 w5 ⟨rfl, hw5⟩
  have HW5 := Lib.hid hw5
  have HB5 := Lib.hid (hw5.box HB.out HN.out)
  clear hw5 HW4 b2
  go_wp2_with (refine wpList_load_op rfl _ rfl w.heap.size rfl _ cs HSZ.out HB5.out ?_)
  refine (HOF.out w5).mono ?_
  unfold OfPost
  rintro r2 w6 ⟨rfl, hk6⟩
  obtain ⟨sv', hw6, hk6', hm6⟩ := HW5.out.fresh hk6
  have hll := layB_len l e ([] ++ enc kd ++ enc st ++ enc sq ++ encs (vnums x.o.deps))
  have hll2 : ([] ++ enc kd ++ enc st ++ enc sq ++ encs (vnums x.o.deps)).length ≤ 400 := by simp only [List.length_append, List.length_nil]; omega
  have hW6 : WL w0 base g sv l e ([] ++ enc kd ++ enc st ++ enc sq ++ encs (vnums x.o.deps)) w6 := ⟨sv', hw6, hk6', hm6⟩
  have hcall := HP.out w6 sv' _ hw6 ⟨hW6.dotsAt HX.out.d HOFF.out.d, hW6.runsAt HX.out.g HOFF.out.g⟩ (HOFF.out.moved HX.out hm6 (Nat.le_refl _)) (by omega)
  have HJ := Lib.hid (fun (W' : World) (hn : WNext w6 base g sv' (layB (layB l e ([] ++ enc kd ++ enc st ++ enc sq ++ encs (vnums x.o.deps))) e (encT x.o)) e W') => (WL.join (m := [] ++ enc kd ++ enc st ++ enc sq ++ encs (vnums x.o.deps)) (n := encT x.o) hw6 hk6' hm6 hn).before HK0.out)
  clear hk6 hw6 hk6' hm6 hW6 HW5 HB5 hll hll2
  go_wp2_with (fail)
  refine hcall.mono ?_
  rintro r3 w7 ⟨rfl, hn7⟩
  have HW7 := Lib.hid (HJ.out w7 hn7)
  clear hn7 HJ hcall
  go_wp2_with (fail)
  go_end0
  rw [HEO.out]
  exact HW7.out.post rfl
end Go.Proofs.Ytnlklhlnnoihiaa

namespace Go.Proofs.Ytnlklhlnnoihiaa
open Go Go.RowKit

set_option maxRecDepth 100000 in
set_option maxHeartbeats 1600000 in
theorem OpPut_no (base g : Nat) (sv : Value) (l : List Int) (e : Int) (x : Lop) (w : World) (h : WriterAt w base g sv l e) (hx : x.At w) (hs : x.o.Small) (hok : okOp x.o = false) :
    Calls Try.prog 32 #[.pointer (some ⟨g, 0, none⟩), .agg x.c] w (WPost w base g sv l e) := by
  have hk0 : Kept (fun _ => False) w (w.alloc (.cells x.c 30)) := (Kept.refl _ _).alloc _
  have HK0 := Lib.hid hk0
  have HC := Lib.hid (fun W (hW : x.At W) => OpCheck_any x.o x.dA x.gA x.dc x.gc W (hW.opr hs))
  have HXC := Lib.hid (show x.o.cells x.dA x.dc x.gA x.gc = x.c from rfl)
  have HE := Lib.hid (show opE x.o = 10 by unfold opE; rw [hok]; rfl)
  have HB := Lib.hid (Box.new w 30 x.c)
  have HX := Lib.hid (hx.fresh hk0)
  have H := Lib.hid h
  obtain ⟨cs, hcs⟩ : ∃ cs, x.c = cs := ⟨_, rfl⟩
  have HSZ := Lib.hid (show cs.size = 11 by rw [← hcs]; rfl)
  rw [hcs] at HXC HB HX HK0 ⊢
  clear h hx hs hok hk0 hcs
  go_enter Try.func32, Try.ntmps32
  go_upto_region 1 with (fail)
  generalize w.alloc (.cells cs 30) = w0 at HK0 HB HX ⊢
  go_wp2_with (refine wpList_load_op rfl _ rfl w.heap.size rfl _ cs HSZ.out HB.out ?_)
  have hcall := HC.out w0 HX.out
  rw [HXC.out, HE.out] at hcall
  refine hcall.mono ?_
  unfold IntPost
  rintro r1 w1 ⟨rfl, hk1⟩
  have hk := HK0.out.trans hk1 fun _ _ e => e
  have HW := Lib.hid (WPost.same (r := .returned (.tuple #[])) rfl (H.out.fresh hk) (hk.more fun _ _ e => e.elim))
  clear hk1 hcall hk
  go_wp2_with (fail)
  go_end0
  exact HW.out
theorem nat_of {n : Int} (h : 0 ≤ n) : n = (n.toNat : Int) := by omega
theorem OpPut_any (base g : Nat) (sv : Value) (l : List Int) (e : Int) (x : Lop) (w : World) (h : WriterAt w base g sv l e) (hx : x.At w) (hs : x.o.Small) (hoff : OffW g sv x) (hl : l.length ≤ 800000) :
    Calls Try.prog 32 #[.pointer (some ⟨g, 0, none⟩), .agg x.c] w (WPost w base g sv (layO l e x.o) e) := by
  unfold layO
  cases hok : okOp x.o with
  | false => exact OpPut_no base g sv l e x w h hx hs hok
  | true =>
    rw [if_pos rfl]
    have hf := okOp_f hok
    have hof := fun W => opof_any x.o x.dA x.gA x.dc x.gc W
    unfold ofV at hof
    rcases hf.kd with ⟨k1, hgo, hsi, hc0, hc1, hb, his, hid, hti, href, hlt⟩ | ⟨k2, hid, href, htx, hsi, hg0, hg1, hck⟩ | ⟨k3, hgo, hid, href, htx, hs1, hs2⟩ | ⟨k4, hgo, hid, href, htx, hsi⟩
    · simp only [if_pos k1] at hof
      refine OpPut_kind base g sv l e x w _ _ 99 (.agg #[.int .i64 x.o.id.time, .int .i64 x.o.id.site, .int .i64 x.o.ref.time, .int .i64 x.o.ref.site, .string x.o.text]) h hx hs hoff hok hl (Lib.hid hof) (fun _ => by kernel_rfl) (fun _ _ => by kernel_rfl) (Lib.hid fun W sv' l' hW hxW hoW hl' => ?_)
      rw [okId_iff] at hid
      have hr0 : 0 ≤ x.o.ref.time ∧ 0 ≤ x.o.ref.site ∧ x.o.ref.site ≤ 16 := by
        rcases href with h | h
        · rw [h]; exact ⟨by decide, by decide, by decide⟩
        · rw [okId_iff] at h; omega
      have := putI_any base g sv' l' e x.o.id.time.toNat x.o.ref.time.toNat x.o.ref.site.toNat x.o.id.site x.o.text W hW (by omega) (by omega) (by omega) hs.tl hl'
      rw [← nat_of (by omega : 0 ≤ x.o.id.time), ← nat_of hr0.1, ← nat_of hr0.2.1] at this
      rw [show encT x.o = encs [x.o.id.time.toNat, x.o.ref.time.toNat, x.o.ref.site.toNat] ++ (enc x.o.text.size ++ tb x.o.text) from if_pos k1]
      exact this
    · simp only [k2, if_true, if_neg (show ¬ (2 : Int) = 1 by decide)] at hof
      refine OpPut_kind base g sv l e x w _ _ 111 (.agg #[.slice x.gA x.o.gone.length x.gc]) h hx hs hoff hok hl (Lib.hid hof) (fun _ => by kernel_rfl) (fun _ _ => by kernel_rfl) (Lib.hid fun W sv' l' hW hxW hoW hl' => ?_)
      rw [show encT x.o = encs (x.o.gone.length :: goneNums x.o.gone) by unfold encT; rw [if_neg (by rw [k2]; decide), if_pos k2]]
      exact putR_any base g sv' l' e x.gA x.o.gone x.gc W hW hxW.g hoW.g (chkR_all _ _ hck) hg1 hl'
    · simp only [k3, if_true, if_neg (show ¬ (3 : Int) = 1 by decide), if_neg (show ¬ (3 : Int) = 2 by decide)] at hof
      refine OpPut_kind base g sv l e x w _ _ 121 (.agg #[.int .i64 x.o.site]) h hx hs hoff hok hl (Lib.hid hof) (fun _ => by kernel_rfl) (fun _ _ => by kernel_rfl) (Lib.hid fun W sv' l' hW hxW hoW hl' => ?_)
      have := putJ_any base g sv' l' e x.o.site.toNat W hW (by omega) hl'
      rw [← nat_of (by omega : 0 ≤ x.o.site)] at this
      rw [show encT x.o = encs [x.o.site.toNat] by unfold encT; rw [if_neg (by rw [k3]; decide), if_neg (by rw [k3]; decide), if_pos k3]]
      exact this
    · simp only [k4, if_true, if_neg (show ¬ (4 : Int) = 1 by decide), if_neg (show ¬ (4 : Int) = 2 by decide), if_neg (show ¬ (4 : Int) = 3 by decide)] at hof
      refine OpPut_kind base g sv l e x w _ _ 125 (.agg #[]) h hx hs hoff hok hl (Lib.hid hof) (fun _ => by kernel_rfl) (fun _ _ => by kernel_rfl) (Lib.hid fun W sv' l' hW hxW hoW hl' => ?_)
      rw [show encT x.o = [] by unfold encT; rw [if_neg (by rw [k4]; decide), if_neg (by rw [k4]; decide), if_neg (by rw [k4]; decide)]]
      exact putL_any base g sv' l' e W hW
theorem encOp_len (o : Opr) (hok : okOp o = true) (hs : o.Small) : (encOp o).length ≤ 1100000 := by
  have hf := okOp_f hok
  have hv := vec_len (Row.says o.deps)
  rw [vec_says hf.dv] at hv
  have hvl : (encs (vnums o.deps)).length ≤ 9 * 33 := by
    refine Nat.le_trans (encs_le _ fun z hz => ?_) ?_
    · unfold vnums at hz
      rcases List.mem_cons.1 hz with rfl | hz
      · omega
      · have := dotNums_bd o.deps (by have := vec_ok (Row.says o.deps) 17 (Nat.le_refl _); rw [show vecTo (says o.deps) 17 = o.deps from vec_says hf.dv] at this; exact this) z hz
        omega
    · unfold vnums
      rw [List.length_cons, dotNums_len]
      omega
  have hh : (encs [o.kind.toNat, o.dot.site.toNat, o.dot.seq.toNat]).length ≤ 27 := by
    refine Nat.le_trans (encs_le _ fun z hz => ?_) (by simp)
    have := hf.s2; have := hf.q2; have := hf.kd
    simp only [List.mem_cons, List.not_mem_nil, or_false] at hz
    rcases hz with rfl | rfl | rfl <;> omega
  have ht : (encT o).length ≤ 1050000 := by
    have htl := hs.tl
    unfold encT
    split
    · rename_i k1
      have h1 : (encs [o.id.time.toNat, o.ref.time.toNat, o.ref.site.toNat]).length ≤ 27 := by
        refine Nat.le_trans (encs_le _ fun z hz => ?_) (by simp)
        rcases hf.kd with ⟨-, -, -, -, -, -, -, hid, -, href, -⟩ | ⟨k, -⟩ | ⟨k, -⟩ | ⟨k, -⟩
        · rw [okId_iff] at hid
          have hr0 : o.ref.time ≤ 2147483647 ∧ o.ref.site ≤ 16 := by
            rcases href with h | h
            · rw [h]; exact ⟨by decide, by decide⟩
            · rw [okId_iff] at h; omega
          simp only [List.mem_cons, List.not_mem_nil, or_false] at hz
          rcases hz with rfl | rfl | rfl <;> omega
        all_goals (rw [k1] at k; exact absurd k (by decide))
      have h2 := enc_len9 o.text.size (by omega)
      simp only [List.length_append, tb_len]
      omega
    · split
      · rename_i k2
        rcases hf.kd with ⟨k, -⟩ | ⟨-, -, -, -, -, hg0, hg1, hck⟩ | ⟨k, -⟩ | ⟨k, -⟩
        · rw [k2] at k; exact absurd k (by decide)
        · refine Nat.le_trans (encs_le _ fun z hz => ?_) ?_
          · rcases List.mem_cons.1 hz with rfl | hz
            · omega
            · have := goneNums_bd o.gone (chkR_all _ _ hck) z hz; omega
          · rw [List.length_cons, goneNums_len]; omega
        all_goals (rw [k2] at k; exact absurd k (by decide))
      · split
        · rename_i k3
          refine Nat.le_trans (encs_le _ fun z hz => ?_) (by simp)
          rcases hf.kd with ⟨k, -⟩ | ⟨k, -⟩ | ⟨-, -, -, -, -, h1, h2⟩ | ⟨k, -⟩
          · rw [k3] at k; exact absurd k (by decide)
          · rw [k3] at k; exact absurd k (by decide)
          · simp only [List.mem_cons, List.not_mem_nil, or_false] at hz
            omega
          · rw [k3] at k; exact absurd k (by decide)
        · simp
  unfold encOp
  simp only [List.length_append]
  omega
/-- The bytes in new memory, or the error. -/
def EncPost (w : World) (o : Opr) (e : Ending) (w' : World) : Prop :=
  if okOp o = true then ∃ A c, e = .returned (.tuple #[.slice A (encOp o).length c, .int .i64 0]) ∧ w'.ownsRow w.heap.size 5 1 (.slice A (encOp o).length c) (encOp o).length (bys (encOp o)) ∧ Kept (fun _ => False) w w'
  else e = .returned (.tuple #[.slice none 0 0, .int .i64 10]) ∧ Kept (fun _ => False) w w'
theorem WriterAt.new (w : World) : WriterAt (w.alloc (.cells #[.slice none 0 0, .int .i64 0] 71)) w.heap.size w.heap.size (.slice none 0 0) [] 0 := ⟨Box.new _ _ _, World.ownsRow_nil _ _ _ _, Nat.le_refl _⟩
theorem WNext.new {w w1 w2 : World} {g : Nat} {l : List Int} {e : Int} (h : WNext w1 w.heap.size g (.slice none 0 0) l e w2) (hk : Kept (fun _ => False) w w1) (hg : w.heap.size ≤ g) : Kept (fun _ => False) w w2 := by
  obtain ⟨sv', h1, h2, h3⟩ := h
  refine hk.trans h2 fun k hk ho => ?_
  rcases ho with rfl | e
  · omega
  · cases e
theorem OffW.new {w1 : World} {x : Lop} (h : x.At w1) : OffW w1.heap.size (.slice none 0 0) x := by
  refine ⟨fun hne a ha ho => ?_, fun hne a ha ho => ?_⟩
  · rcases ho with e | e
    · have := dots_lt0 h.d hne a ha; omega
    · cases e
  · rcases ho with e | e
    · have := runs_lt h.g hne a ha; omega
    · cases e
set_option maxRecDepth 100000 in
set_option maxHeartbeats 1600000 in
theorem OpEncode_any (x : Lop) (w : World) (hx : x.At w) (hs : x.o.Small) : Calls Try.prog 33 #[.agg x.c] w (EncPost w x.o) := by
  have hk0 : Kept (fun _ => False) w (w.alloc (.cells x.c 30)) := (Kept.refl _ _).alloc _
  have HK0 := Lib.hid hk0
  have HC := Lib.hid (fun W (hW : x.At W) => OpCheck_any x.o x.dA x.gA x.dc x.gc W (hW.opr hs))
  have HXC := Lib.hid (show x.o.cells x.dA x.dc x.gA x.gc = x.c from rfl)
  have HB := Lib.hid (Box.new w 30 x.c)
  have HX := Lib.hid (hx.fresh hk0)
  have HPT := Lib.hid (fun (base g : Nat) (sv : Value) (W : World) (h : WriterAt W base g sv [] 0) (hxW : x.At W) (ho : OffW g sv x) => OpPut_any base g sv [] 0 x W h hxW hs ho (by simp))
  obtain ⟨cs, hcs⟩ : ∃ cs, x.c = cs := ⟨_, rfl⟩
  have HSZ := Lib.hid (show cs.size = 11 by rw [← hcs]; rfl)
  rw [hcs] at HXC HB HX HK0 HPT ⊢
  have HLO := Lib.hid (show okOp x.o = true → (layO [] 0 x.o) = encOp x.o from fun h => by unfold layO layB; rw [if_pos h, if_neg (by decide)]; rfl)
  have hlen : okOp x.o = true → (encOp x.o).length ≤ 1100000 := fun h => encOp_len x.o h hs
  clear hx hs hk0 hcs
  cases hok : okOp x.o with
  | false =>
    have HE := Lib.hid (show opE x.o = 10 by unfold opE; rw [hok]; rfl)
    have HO := Lib.hid hok
    clear hok HPT
    go_enter Try.func33, Try.ntmps33
    go_upto_region 1 with (fail)
    generalize w.alloc (.cells cs 30) = w0 at HK0 HB HX ⊢
    go_wp2_with (refine wpList_load_op rfl _ rfl w.heap.size rfl _ cs HSZ.out HB.out ?_)
    have hcall := HC.out w0 HX.out
    rw [HXC.out, HE.out] at hcall
    refine hcall.mono ?_
    unfold IntPost
    rintro r1 w1 ⟨rfl, hk1⟩
    have HK := Lib.hid (HK0.out.trans hk1 fun _ _ e => e)
    clear hk1 hcall
    go_wp2_with (fail)
    go_ret2
    unfold EncPost
    rw [if_neg (by rw [HO.out]; decide)]
    exact ⟨rfl, HK.out⟩
  | true =>
    have HE := Lib.hid (show opE x.o = 0 by unfold opE; rw [hok]; rfl)
    have HO := Lib.hid hok
    have HLE := Lib.hid (HLO.out hok)
    have hlen := hlen hok
    clear hok HLO
    go_enter Try.func33, Try.ntmps33
    go_upto_region 1 with (fail)
    generalize w.alloc (.cells cs 30) = w0 at HK0 HB HX ⊢
    go_wp2_with (refine wpList_load_op rfl _ rfl w.heap.size rfl _ cs HSZ.out HB.out ?_)
    have hcall := HC.out w0 HX.out
    rw [HXC.out, HE.out] at hcall
    refine hcall.mono ?_
    unfold IntPost
    rintro r1 w1 ⟨rfl, hk1⟩
    have HK1 := Lib.hid (HK0.out.trans hk1 fun _ _ e => e)
    have HB1 := Lib.hid (HB.out.kept hk1 id)
    have HX1 := Lib.hid (HX.out.fresh hk1)
    have hka : Kept (fun _ => False) w1 (w1.alloc (.cells #[.slice none 0 0, .int .i64 0] 71)) := (Kept.refl _ _).alloc _
    have HWR := Lib.hid (WriterAt.new w1)
    have HKA := Lib.hid hka
    have HBA := Lib.hid (HB1.out.kept hka id)
    have HXA := Lib.hid (HX1.out.fresh hka)
    have HOF := Lib.hid (OffW.new HX1.out)
    clear hk1 hcall hka HC HXC HE HK0 HB HX HB1 HX1
    go_wp2_with (refine wpList_load_op rfl _ rfl w.heap.size rfl _ cs HSZ.out HBA.out ?_)
    refine (HPT.out w1.heap.size w1.heap.size _ _ HWR.out HXA.out HOF.out).mono ?_
    rw [HLE.out]
    rintro r2 w2 ⟨rfl, hn⟩
    have HK2 := Lib.hid (HK1.out.trans (WNext.new hn HKA.out (Nat.le_refl _)) fun _ _ e => e)
    obtain ⟨sv', hw2, -, -⟩ := hn
    have HW2 := Lib.hid hw2
    clear hw2 HPT HWR HKA HBA HXA HOF
    go_wp2_with (fail)
    refine (Data_any w1.heap.size w1.heap.size sv' (encOp x.o) 0 w2 HW2.out (by omega)).mono ?_
    rintro r3 w3 ⟨A, c, rfl, ho3, hk3⟩
    have HO3 := Lib.hid (own_base ho3 HK2.out.size)
    have HK3 := Lib.hid (HK2.out.trans hk3 fun _ _ e => e)
    clear ho3 hk3 HW2
    go_wp2_with (fail)
    go_ret2
    unfold EncPost
    rw [if_pos HO.out]
    exact ⟨A, c, rfl, HO3.out, HK3.out⟩
end Go.Proofs.Ytnlklhlnnoihiaa

namespace Go.Proofs.Ytnlklhlnnoihiaa
open Go Go.RowKit

def Post1 (Q : Exit → Act → World → Prop) (K : Act → World → Prop) : Exit → Act → World → Prop
  | .normal, a, w => K a w
  | e, a, w => Q e a w
section
variable {P : Program} {ops : Array Oper} {md : Region.Mode} {Q : Exit → Act → World → Prop} {S : World → Prop} {K : Act → World → Prop}
theorem upon_post1 {o : Oper} {a : Act} {r : Result Next} (h : o.upon P a K (Post1 Q K) r) : o.upon P a K Q r := by
  cases r with
  | ok n w' =>
    cases n with
    | enter f args =>
      refine Calls.mono (show Calls _ _ _ _ _ from h) fun e w'' he => ?_
      cases e with
      | returned v => exact he
      | panicked c => exact he
      | outgrown => exact he
    | _ => exact h
  | halt x w' => cases x <;> exact h
theorem wpOp_list {i : Nat} {o : Oper} {a : Act} {w : World} (ho : ops[i]? = some o) (h : wpList P ops (Post1 Q K) [o] a w) : wpOp P ops Q i K a w := by
  unfold wpOp
  rw [ho]
  unfold wpList at h
  show if Region.wanted o (yielded ops a.tmps) = true then _ else _
  split
  · rename_i hw
    rw [if_pos hw] at h
    rcases h with h | ⟨h1, h2⟩
    · exact .inl (upon_post1 h)
    · exact .inr ⟨h1, h2⟩
  · rename_i hw
    rw [if_neg hw] at h
    exact h
theorem AllReadyH.law {fuel : Nat} {listed : Array Bool} {a : Act} {w : World} {i : Nat} {o : Oper} {rs : List Nat} (ho : ops[i]? = some o)
    (h : ∀ K : Act → World → Prop, Shut (∀ a w, S w → (S w → wpAnyH P md ops Q S fuel (listed.setIfInBounds i true) a w) → K a w) → wpList P ops (Post1 Q K) [o] a w)
    (hs : AllReadyH P md ops Q S fuel listed a w rs) : AllReadyH P md ops Q S fuel listed a w (i :: rs) := fun j hj => by
  rcases List.mem_cons.1 hj with rfl | hj
  · exact wpOp_list ho (h _ (fun a w hS hW => ⟨hS, hW hS⟩))
  · exact hs j hj
/-- One alone may come up next. -/
theorem held_one {fuel : Nat} {listed : Array Bool} {a : Act} {w : World} {i : Nat} {o : Oper} (hr : Region.ready md ops listed = [i]) (ho : ops[i]? = some o)
    (h : ∀ K : Act → World → Prop, Shut (∀ a w, S w → (S w → wpAnyH P md ops Q S fuel (listed.setIfInBounds i true) a w) → K a w) → wpList P ops (Post1 Q K) [o] a w) : wpAnyH P md ops Q S (fuel + 1) listed a w :=
  wpAnyH_ready hr (by simp) (AllReadyH.law ho h AllReadyH.nil)
/-- Two may. -/
theorem held_two {fuel : Nat} {listed : Array Bool} {a : Act} {w : World} {i j : Nat} {o o' : Oper} (hr : Region.ready md ops listed = [i, j]) (ho : ops[i]? = some o) (ho' : ops[j]? = some o')
    (h : ∀ K : Act → World → Prop, Shut (∀ a w, S w → (S w → wpAnyH P md ops Q S fuel (listed.setIfInBounds i true) a w) → K a w) → wpList P ops (Post1 Q K) [o] a w)
    (h' : ∀ K : Act → World → Prop, Shut (∀ a w, S w → (S w → wpAnyH P md ops Q S fuel (listed.setIfInBounds j true) a w) → K a w) → wpList P ops (Post1 Q K) [o'] a w) : wpAnyH P md ops Q S (fuel + 1) listed a w :=
  wpAnyH_ready hr (by simp) (AllReadyH.law ho h (AllReadyH.law ho' h' AllReadyH.nil))
theorem held_take {i : Nat} {oi : Oper} {v : Value} {fuel : Nat} {listed : Array Bool} {a : Act} {w : World} (hi : ops[i]? = some oi)
    (hs : Region.noSelect ops = true) (hf : Region.free md ops listed i = true) (hr : (Region.ready md ops listed).contains i = true)
    (hQ : ∀ c a w, Q (.panic c) (a.put oi.dst v) w → Q (.panic c) a w) (hg : oi.guard = none) (hS : S w) (hy : ∀ w, S w → (execOp a.eval oi).run P w = .ok (.value v) w)
    (h : wpAnyH P md ops Q S fuel (listed.setIfInBounds i true) (a.put oi.dst v) w) : wpAnyH P md ops Q S (fuel + 1) listed a w :=
  wpAnyH_take hi hs hf hr hQ (.inl ⟨by simp [Region.wanted, hg], hy⟩) hS h
theorem held_takeTo {i : Nat} {oi : Oper} {v : Value} {fuel : Nat} {listed : Array Bool} {a : Act} {w : World} (t : Tmp) (hi : ops[i]? = some oi) (hd : oi.dst = some t)
    (hs : Region.noSelect ops = true) (hf : Region.free md ops listed i = true) (hr : (Region.ready md ops listed).contains i = true)
    (hQ : ∀ c a w, Q (.panic c) (a.put (some t) v) w → Q (.panic c) a w) (hg : oi.guard = none) (hS : S w) (hy : ∀ w, S w → (execOp a.eval oi).run P w = .ok (.value v) w)
    (h : wpAnyH P md ops Q S fuel (listed.setIfInBounds i true) { a with tmps := a.tmps.setIfInBounds t v } w) : wpAnyH P md ops Q S (fuel + 1) listed a w :=
  held_take hi hs hf hr (by rw [hd]; exact hQ) hg hS hy (by rw [hd]; exact h)
end
end Go.Proofs.Ytnlklhlnnoihiaa

namespace Go.Proofs.Ytnlklhlnnoihiaa
open Go Go.RowKit

set_option maxRecDepth 100000 in
set_option maxHeartbeats 1600000 in
theorem IsID_any (i : Idt) (w : World) : Calls Try.prog 70 #[idV i] w (BoolPost w (okId i)) := by
  obtain ⟨t, s⟩ := i
  have hk : Kept (fun _ => False) w (w.alloc (.cells #[.int .i64 t, .int .i64 s] 27)) := (Kept.refl _ _).alloc _
  have HK := Lib.hid hk
  have x0 : (w.alloc (.cells #[.int .i64 t, .int .i64 s] 27)).cell? ⟨w.heap.size, 0, none⟩ = some (.int .i64 t) := (Box.new w 27 #[.int .i64 t, .int .i64 s]).cell 0
  have x1 : (w.alloc (.cells #[.int .i64 t, .int .i64 s] 27)).cell? ⟨w.heap.size, 1, none⟩ = some (.int .i64 s) := (Box.new w 27 #[.int .i64 t, .int .i64 s]).cell 1
  clear hk
  unfold idV okId
  by_cases h1 : 1 ≤ t
  · by_cases h2 : t ≤ 2147483647
    · by_cases h3 : 1 ≤ s
      · by_cases h4 : s ≤ 16
        · have hd : decide (1 ≤ t ∧ t ≤ 2147483647 ∧ 1 ≤ s ∧ s ≤ 16) = true := by simp [h1, h2, h3, h4]
          rw [hd]
          clear hd
          go_enter Try.func70, Try.ntmps70
          go_wp2
          go_ret
          exact ⟨rfl, HK.out⟩
        · have hd : decide (1 ≤ t ∧ t ≤ 2147483647 ∧ 1 ≤ s ∧ s ≤ 16) = false := by simp [h4]
          have h4' : 16 < s := by omega
          rw [hd]
          clear hd
          go_enter Try.func70, Try.ntmps70
          go_wp2
          go_ret
          exact ⟨rfl, HK.out⟩
      · have hd : decide (1 ≤ t ∧ t ≤ 2147483647 ∧ 1 ≤ s ∧ s ≤ 16) = false := by simp [h3]
        have h3' : s < 1 := by omega
        rw [hd]
        clear hd
        go_enter Try.func70, Try.ntmps70
        go_wp2
        go_ret
        exact ⟨rfl, HK.out⟩
    · have hd : decide (1 ≤ t ∧ t ≤ 2147483647 ∧ 1 ≤ s ∧ s ≤ 16) = false := by simp [h2]
      have h2' : 2147483647 < t := by omega
      rw [hd]
      clear hd
      go_enter Try.func70, Try.ntmps70
      go_wp2
      go_ret
      exact ⟨rfl, HK.out⟩
  · have hd : decide (1 ≤ t ∧ t ≤ 2147483647 ∧ 1 ≤ s ∧ s ≤ 16) = false := by simp [h1]
    have h1' : t < 1 := by omega
    rw [hd]
    clear hd
    go_enter Try.func70, Try.ntmps70
    go_wp2
    go_ret
    exact ⟨rfl, HK.out⟩

set_option maxRecDepth 100000 in
set_option maxHeartbeats 1600000 in
theorem RAfter_any (i : Idt) (n : Int) (w : World) (hn : inI n) : Calls Try.prog 69 #[idV i, .int .i64 n] w (IdPost w (afterI i n)) := by
  obtain ⟨lo, hi⟩ := hn
  have hk1 : Kept (fun _ => False) w (w.alloc (.cells #[.int .i64 i.time, .int .i64 i.site] 27)) := (Kept.refl _ _).alloc _
  have HK2 := Lib.hid (hk1.trans ((Kept.refl (fun _ => False) _).alloc (.cells #[.int .i64 0, .int .i64 0] 27)) fun _ _ e => e)
  have HB1 := Lib.hid ((Box.new w 27 #[.int .i64 i.time, .int .i64 i.site]).alloc (.cells #[.int .i64 0, .int .i64 0] 27))
  have HB2 := Lib.hid ((Box.new (w.alloc (.cells #[.int .i64 i.time, .int .i64 i.site] 27)) 27 #[.int .i64 0, .int .i64 0]).at_eq (show _ = w.heap.size + 1 by simp))
  clear hk1
  obtain ⟨x, hx⟩ : ∃ x, afterI i n = x := ⟨_, rfl⟩
  obtain ⟨b, hb⟩ : ∃ b, okId i = b := ⟨_, rfl⟩
  have HX := Lib.hid hx
  have HB := Lib.hid hb
  rw [hx]
  have hcase : (b = false ∧ x = noId) ∨ (b = true ∧ n < 0 ∧ x = noId) ∨ (b = true ∧ 0 ≤ n ∧ 2147483647 - i.time < n ∧ x = noId) ∨ (b = true ∧ 0 ≤ n ∧ n ≤ 2147483647 - i.time ∧ x = ⟨i.time + n, i.site⟩) := by
    rw [← hx]
    unfold afterI
    cases b with
    | false => exact .inl ⟨rfl, if_neg fun e => by rw [hb] at e; cases e.1⟩
    | true =>
      by_cases h1 : n < 0
      · exact .inr (.inl ⟨rfl, h1, if_neg fun e => by omega⟩)
      · by_cases h2 : 2147483647 - i.time < n
        · exact .inr (.inr (.inl ⟨rfl, by omega, h2, if_neg fun e => by omega⟩))
        · exact .inr (.inr (.inr ⟨rfl, by omega, by omega, if_pos ⟨hb, by omega, by omega⟩⟩))
  have hbd : b = true → 1 ≤ i.time ∧ i.time ≤ 2147483647 := fun e => by
    rw [e, okId_iff] at hb
    exact ⟨hb.1, hb.2.1⟩
  obtain ⟨t, s⟩ := i
  clear hx hb
  unfold idV at *
  simp only at HB1 HB2 HK2 hcase hbd ⊢
  rcases hcase with ⟨rfl, rfl⟩ | ⟨rfl, h1, rfl⟩ | ⟨rfl, h1, h2, rfl⟩ | ⟨rfl, h1, h2, rfl⟩
  · clear hbd
    go_enter Try.func69, Try.ntmps69
    go_wp2_with (fail)
    refine (IsID_any ⟨t, s⟩ _).mono ?_
    unfold BoolPost
    rw [HB.out]
    rintro e w3 ⟨rfl, hk⟩
    have HB1' := Lib.hid (HB1.out.kept hk id)
    have HB2' := Lib.hid (HB2.out.kept hk id)
    have HK3 := Lib.hid (HK2.out.trans hk fun _ _ e => e)
    have x0 : w3.cell? ⟨w.heap.size, 0, none⟩ = some (.int .i64 t) := HB1'.out.cell 0
    have y0 : w3.cell? ⟨w.heap.size + 1, 0, none⟩ = some (.int .i64 0) := HB2'.out.cell 0
    have y1 : w3.cell? ⟨w.heap.size + 1, 1, none⟩ = some (.int .i64 0) := HB2'.out.cell 1
    have g0 : w3.frozen? ⟨w.heap.size + 1, 0, none⟩ = false := HB2'.out.frozen 0
    have g1 : w3.frozen? ⟨w.heap.size + 1, 1, none⟩ = false := HB2'.out.frozen 1
    clear hk
    go_wp2
    exact ret_id (i := noId) (g := w.heap.size + 1) (t := 4) rfl rfl rfl ((HB2'.out.set 0 _).set 1 _) rfl (HK3.out.trans (((Kept.refl (fun k => k = w.heap.size + 1) _).at 0 _ (.inl rfl)).at 1 _ (.inl rfl)) fun k hlt e => by omega)
  iterate 2
    · obtain ⟨hb1, hb2⟩ := hbd rfl
      clear hbd
      go_enter Try.func69, Try.ntmps69
      go_wp2_with (fail)
      refine (IsID_any ⟨t, s⟩ _).mono ?_
      unfold BoolPost
      rw [HB.out]
      rintro e w3 ⟨rfl, hk⟩
      have HB1' := Lib.hid (HB1.out.kept hk id)
      have HB2' := Lib.hid (HB2.out.kept hk id)
      have HK3 := Lib.hid (HK2.out.trans hk fun _ _ e => e)
      have x0 : w3.cell? ⟨w.heap.size, 0, none⟩ = some (.int .i64 t) := HB1'.out.cell 0
      have y0 : w3.cell? ⟨w.heap.size + 1, 0, none⟩ = some (.int .i64 0) := HB2'.out.cell 0
      have y1 : w3.cell? ⟨w.heap.size + 1, 1, none⟩ = some (.int .i64 0) := HB2'.out.cell 1
      have g0 : w3.frozen? ⟨w.heap.size + 1, 0, none⟩ = false := HB2'.out.frozen 0
      have g1 : w3.frozen? ⟨w.heap.size + 1, 1, none⟩ = false := HB2'.out.frozen 1
      clear hk
      go_wp2
      exact ret_id (i := noId) (g := w.heap.size + 1) (t := 4) rfl rfl rfl ((HB2'.out.set 0 _).set 1 _) rfl (HK3.out.trans (((Kept.refl (fun k => k = w.heap.size + 1) _).at 0 _ (.inl rfl)).at 1 _ (.inl rfl)) fun k hlt e => by omega)
  · obtain ⟨hb1, hb2⟩ := hbd rfl
    clear hbd
    go_enter Try.func69, Try.ntmps69
    go_wp2_with (fail)
    refine (IsID_any ⟨t, s⟩ _).mono ?_
    unfold BoolPost
    rw [HB.out]
    rintro e w3 ⟨rfl, hk⟩
    have HB1' := Lib.hid (HB1.out.kept hk id)
    have HB2' := Lib.hid (HB2.out.kept hk id)
    have HK3 := Lib.hid (HK2.out.trans hk fun _ _ e => e)
    have x0 : w3.cell? ⟨w.heap.size, 0, none⟩ = some (.int .i64 t) := HB1'.out.cell 0
    have x1 : w3.cell? ⟨w.heap.size, 1, none⟩ = some (.int .i64 s) := HB1'.out.cell 1
    have f0 : w3.frozen? ⟨w.heap.size, 0, none⟩ = false := HB1'.out.frozen 0
    have y0 : w3.cell? ⟨w.heap.size + 1, 0, none⟩ = some (.int .i64 0) := HB2'.out.cell 0
    have y1 : w3.cell? ⟨w.heap.size + 1, 1, none⟩ = some (.int .i64 0) := HB2'.out.cell 1
    have g0 : w3.frozen? ⟨w.heap.size + 1, 0, none⟩ = false := HB2'.out.frozen 0
    have g1 : w3.frozen? ⟨w.heap.size + 1, 1, none⟩ = false := HB2'.out.frozen 1
    clear hk
    go_wp2
    exact ret_id (i := ⟨t + n, s⟩) (g := w.heap.size + 1) (t := 4) rfl rfl rfl ((HB2'.out.set 0 _).set 1 _) rfl (HK3.out.trans (((Kept.refl (fun k => k = w.heap.size + 1) _).at 0 _ (.inl rfl)).at 1 _ (.inl rfl)) fun k hlt e => by omega)


def rcmpId (a b : Idt) : Int := if a.time = b.time ∧ a.site = b.site then 0 else if ltId a b then -1 else 1
theorem rcmpId_ge (a b : Idt) : 0 ≤ rcmpId a b ↔ ¬ ltId a b := by
  unfold rcmpId
  split
  · unfold ltId; omega
  · split <;> rename_i h <;> simp [h]
set_option maxRecDepth 100000 in
set_option maxHeartbeats 1600000 in
theorem RCompare_any (a b : Idt) (w : World) : Calls Try.prog 71 #[idV a, idV b] w (IntPost w (rcmpId a b)) := by
  have HK := Lib.hid (((Kept.refl (fun _ => False) w).alloc (.cells #[.int .i64 a.time, .int .i64 a.site] 27)).alloc (.cells #[.int .i64 b.time, .int .i64 b.site] 27))
  have hb1 := (Box.new w 27 #[.int .i64 a.time, .int .i64 a.site]).alloc (.cells #[.int .i64 b.time, .int .i64 b.site] 27)
  have hb2 := (Box.new (w.alloc (.cells #[.int .i64 a.time, .int .i64 a.site] 27)) 27 #[.int .i64 b.time, .int .i64 b.site]).at_eq (show _ = w.heap.size + 1 by simp)
  obtain ⟨x, hx⟩ : ∃ x, rcmpId a b = x := ⟨_, rfl⟩
  have hcase : (a.time = b.time ∧ a.site = b.site ∧ x = 0) ∨ (a.time < b.time ∧ x = -1) ∨ (a.time = b.time ∧ a.site < b.site ∧ x = -1) ∨ (b.time < a.time ∧ x = 1) ∨ (a.time = b.time ∧ b.site < a.site ∧ x = 1) := by
    rw [← hx]
    unfold rcmpId
    by_cases h1 : a.time = b.time ∧ a.site = b.site
    · exact .inl ⟨h1.1, h1.2, if_pos h1⟩
    · rw [if_neg h1]
      by_cases h2 : ltId a b
      · rw [if_pos h2]
        unfold ltId at h2
        omega
      · rw [if_neg h2]
        unfold ltId at h2
        omega
  rw [hx]
  clear hx
  obtain ⟨t, s⟩ := a
  obtain ⟨t', s'⟩ := b
  unfold idV
  simp only at HK hb1 hb2 hcase ⊢
  have x0 := hb1.cell 0
  have x1 := hb1.cell 1
  have y0 := hb2.cell 0
  have y1 := hb2.cell 1
  clear hb1 hb2
  have hx := fun W => eql_id t s t' s' W
  rcases hcase with ⟨h1, h2, rfl⟩ | ⟨h1, rfl⟩ | ⟨h1, h2, rfl⟩ | ⟨h1, rfl⟩ | ⟨h1, h2, rfl⟩
  · rw [decide_eq_true ⟨h1, h2⟩] at hx
    clear h1 h2
    go_enter Try.func71, Try.ntmps71
    go_wp2
    go_ret
    exact ⟨rfl, HK.out⟩
  · rw [decide_eq_false (by omega)] at hx
    go_enter Try.func71, Try.ntmps71
    go_wp2
    go_ret
    exact ⟨rfl, HK.out⟩
  · subst h1
    rw [decide_eq_false (by omega)] at hx
    go_enter Try.func71, Try.ntmps71
    go_wp2
    go_ret
    exact ⟨rfl, HK.out⟩
  · rw [decide_eq_false (by omega)] at hx
    go_enter Try.func71, Try.ntmps71
    go_wp2
    go_ret
    exact ⟨rfl, HK.out⟩
  · subst h1
    rw [decide_eq_false (by omega)] at hx
    go_enter Try.func71, Try.ntmps71
    go_wp2
    go_ret
    exact ⟨rfl, HK.out⟩

/-- All of these may be runs. -/
def OkAll (p : List Rn) : Prop := ∀ q ∈ p, okRn q = true
structure RChkAt (w : World) (A : Option Addr) (l : List Rn) (wr : World) : Prop where
  r : RunsAt wr A l
  k : Kept (fun _ => False) w wr
theorem RChkAt.fresh {w wr w' : World} {A : Option Addr} {l : List Rn} (h : RChkAt w A l wr) (hk : Kept (fun _ => False) wr w') : RChkAt w A l w' := ⟨h.r.fresh hk, h.k.trans hk fun _ _ e => e⟩
theorem meets_take (l : List Rn) (r : Rn) {j : Nat} (h : j < l.length) : meets (l.take (j + 1)) r = (meets (l.take j) r || decide (l[j].id.site = r.id.site ∧ r.id.time ≤ l[j].id.time + l[j].count)) := by
  unfold meets
  rw [List.take_succ_eq_append_getElem h, List.any_append]
  simp

set_option maxRecDepth 100000 in
set_option maxHeartbeats 3200000 in
theorem RRCheck_any (A : Option Addr) (l : List Rn) (c : Nat) (w : World) (hl : RunsAt w A l) (hc : ∀ r ∈ l, inI r.count) (hlen : l.length ≤ 1000000) :
    Calls Try.prog 52 #[.slice A l.length c] w (IntPost w (chkR [] l)) := by
  obtain ⟨x, hx⟩ : ∃ x, chkR [] l = x := ⟨_, rfl⟩
  have HX := Lib.hid (show chkR (l.take 0) (l.drop 0) = x from hx)
  have HL := Lib.hid hl
  have HC := Lib.hid hc
  rw [hx]
  clear hx hl hc
  go_enter Try.func52, Try.ntmps52
  go_wp2_with (fail)
  go_loopw [3] (fun i wr => ∃ (k : Nat), i = .int .i64 k ∧ k ≤ l.length ∧ chkR (l.take k) (l.drop k) = x ∧ OkAll (l.take k) ∧ RChkAt w A l wr) (fun i _ => l.length - (intOf i).toNat)
  case atStart => exact ⟨0, rfl, by omega, HX.out, fun q hq => absurd hq (by simp), HL.out, Kept.refl _ _⟩
  case round =>
    obtain ⟨k, rfl, hk, hchk, hoa, hz⟩ := hrel
    have HZ := Lib.hid hz
    have HOA := Lib.hid hoa
    clear HX hz hoa
    by_cases hlt : k < l.length
    · rw [chkR_step l hlt] at hchk
      obtain ⟨ad, rfl, x0, x1, x2⟩ := HZ.out.r k hlt
      have hci := HC.out l[k] (List.getElem_mem hlt)
      obtain ⟨r, hr⟩ : ∃ r, l[k] = r := ⟨_, rfl⟩
      rw [hr] at hchk x0 x1 x2 hci
      have HR := Lib.hid hr
      have HCH := Lib.hid hchk
      clear hr hchk
      have HST := Lib.hid (show stepR (l.take k) r = if okRn r = false then 1 else if notUp (l.take k) r = true then 9 else if meets (l.take k) r = true then 6 else 0 from rfl)
      have HOD := Lib.hid (show okRn r = (decide (1 ≤ r.count) && okId r.id && decide (r.count - 1 ≤ 2147483647 - r.id.time)) from rfl)
      obtain ⟨⟨t, s⟩, n⟩ := r
      obtain ⟨lo, hi⟩ := hci
      simp only at x0 x1 x2 lo hi
      have HB1 := Lib.hid (Box.new wr 32 #[.int .i64 t, .int .i64 s, .int .i64 n])
      have HZ1 := Lib.hid (HZ.out.fresh ((Kept.refl _ _).alloc (.cells #[.int .i64 t, .int .i64 s, .int .i64 n] 32)))
      go_upto_region 5 with (fail)
      generalize wr.alloc (.cells #[.int .i64 t, .int .i64 s, .int .i64 n] 32) = w1 at HB1 HZ1 ⊢
      clear HZ x0 x1 x2
      generalize wr.heap.size = g1 at HB1 ⊢
      have y0 : w1.cell? ⟨g1, 0, none⟩ = some (.int .i64 t) := HB1.out.cell 0
      have y1 : w1.cell? ⟨g1, 1, none⟩ = some (.int .i64 s) := HB1.out.cell 1
      have y2 : w1.cell? ⟨g1, 2, none⟩ = some (.int .i64 n) := HB1.out.cell 2
      go_cut [34] (fun v wx => v = .bool (!okRn ⟨⟨t, s⟩, n⟩) ∧ RChkAt w (some ad) l wx ∧ Box wx g1 32 #[.int .i64 t, .int .i64 s, .int .i64 n])
      case first =>
        by_cases h1 : n < 1
        · have hok : okRn ⟨⟨t, s⟩, n⟩ = false := by
            rw [HOD.out]
            simp only
            rw [decide_eq_false (show ¬ 1 ≤ n by omega)]
            rfl
          have HOK := Lib.hid hok
          clear hok
          go_wp2_with (fail)
          go_meet
          case rel => exact ⟨by rw [HOK.out]; rfl, HZ1.out, HB1.out⟩
        · have h1' : 1 ≤ n := by omega
          have HI := Lib.hid (IsID_any ⟨t, s⟩ w1)
          obtain ⟨b, hb⟩ : ∃ b, okId ⟨t, s⟩ = b := ⟨_, rfl⟩
          have HB := Lib.hid hb
          have hbt : b = true → 1 ≤ t ∧ t ≤ 2147483647 := fun e => by
            rw [e, okId_iff] at hb
            exact ⟨hb.1, hb.2.1⟩
          have HBT := Lib.hid hbt
          clear hb hbt h1
          go_wp2_with (fail)
          refine HI.out.mono ?_
          unfold BoolPost
          rw [HB.out]
          rintro e w2 ⟨rfl, hk2⟩
          have HZ2 := Lib.hid (HZ1.out.fresh hk2)
          have HB2 := Lib.hid (HB1.out.kept hk2 id)
          clear hk2 y0 y1 y2 HZ1 HB1 HI
          have y0 : w2.cell? ⟨g1, 0, none⟩ = some (.int .i64 t) := HB2.out.cell 0
          have y2 : w2.cell? ⟨g1, 2, none⟩ = some (.int .i64 n) := HB2.out.cell 2
          cases b with
          | false =>
            have HOK := Lib.hid (show okRn ⟨⟨t, s⟩, n⟩ = false by rw [HOD.out, HB.out]; simp)
            go_wp2_with (fail)
            go_meet
            case rel => exact ⟨congrArg Value.bool (by rw [HOK.out]; (first | rfl | (simp; omega))), HZ2.out, HB2.out⟩
          | true =>
            obtain ⟨hb1, hb2⟩ := HBT.out rfl
            by_cases h3 : n - 1 ≤ 2147483647 - t
            · have HOK := Lib.hid (show okRn ⟨⟨t, s⟩, n⟩ = true by rw [HOD.out, HB.out, decide_eq_true h1', decide_eq_true h3]; rfl)
              go_wp2_with (fail)
              go_meet
              case rel => exact ⟨congrArg Value.bool (by rw [HOK.out]; (first | rfl | (simp; omega))), HZ2.out, HB2.out⟩
            · have h3' : 2147483647 - t < n - 1 := by omega
              have HOK := Lib.hid (show okRn ⟨⟨t, s⟩, n⟩ = false by rw [HOD.out, HB.out, decide_eq_true h1', decide_eq_false h3]; rfl)
              clear h3
              go_wp2_with (fail)
              go_meet
              case rel => exact ⟨congrArg Value.bool (by rw [HOK.out]; (first | rfl | (simp; omega))), HZ2.out, HB2.out⟩
      case rest =>
        obtain ⟨rfl, hz2, hb2⟩ := hcut
        have HZ2 := Lib.hid hz2
        have HB2 := Lib.hid hb2
        clear hz2 hb2 y0 y1 y2 HZ1 HB1
        cases hok : okRn ⟨⟨t, s⟩, n⟩ with
        | false =>
          have h2 := HCH.out
          rw [HST.out, hok] at h2
          have HF := Lib.hid (show (1 : Int) = x from h2)
          clear hok h2
          go_wp2_with (fail)
          go_ret
          exact ⟨by rw [← HF.out]; rfl, HZ2.out.k⟩
        | true =>
          have HOK := Lib.hid hok
          have hob := hok
          rw [HOD.out] at hob
          simp only [Bool.and_eq_true, decide_eq_true_eq, okId_iff] at hob
          obtain ⟨⟨hn1, ht1, ht2, hs1, hs2⟩, hn2⟩ := hob
          clear hok HOD lo hi
          go_wp2_with (fail)
          generalize wc = w3 at HZ2 HB2 ⊢
          have y0 : w3.cell? ⟨g1, 0, none⟩ = some (.int .i64 t) := HB2.out.cell 0
          have y1 : w3.cell? ⟨g1, 1, none⟩ = some (.int .i64 s) := HB2.out.cell 1
          go_cut [48] (fun v wx => v = .bool (notUp (l.take k) ⟨⟨t, s⟩, n⟩) ∧ RChkAt w (some ad) l wx ∧ Box wx g1 32 #[.int .i64 t, .int .i64 s, .int .i64 n])
          case first =>
            rcases Nat.eq_zero_or_pos k with hk0 | hk0
            · subst hk0
              have hg : decide ((0 : Nat) < 0) = false := rfl
              go_quiet (fail)
              go_wp2
              go_meet
              case rel => exact ⟨rfl, HZ2.out.fresh (Kept.drewN_eq nq), HB2.out.drewN nq⟩
            · obtain ⟨j, rfl⟩ : ∃ j, k = j + 1 := ⟨k - 1, by omega⟩
              have hjl : j < l.length := by omega
              obtain ⟨ad', e, p0, p1, _⟩ := HZ2.out.r j hjl
              injection e with e
              subst e
              have HNU := Lib.hid (notUp_succ l hlt ⟨⟨t, s⟩, n⟩)
              obtain ⟨q, hq⟩ : ∃ q, l[j] = q := ⟨_, rfl⟩
              rw [hq] at p0 p1 HNU
              obtain ⟨⟨qt, qs⟩, qn⟩ := q
              simp only at p0 p1
              clear hq
              have hwj : IntKind.i64.wrap (j : Int) = (j : Int) := IntWalk.i64_in _ ⟨by omega, by omega⟩
              have hj0 : (0 : Int) ≤ (j : Int) := by omega
              have hj1 : (j : Int) < (l.length : Int) := by omega
              go_still_tail 11, (by kernel_rfl)
              change wpList _ _ _ _ _ w3.drew
              have HZ4 := Lib.hid (HZ2.out.fresh (Kept.refl (fun _ => False) w3).drew)
              have HB4 := Lib.hid HB2.out.drew
              clear HZ2 HB2 y0 y1 p0 p1
              generalize w3.drew = w4 at HZ4 HB4 ⊢
              go_wp2_with (fail)
              refine (RCompare_any ⟨qt, qs⟩ ⟨t, s⟩ _).mono ?_
              obtain ⟨y, hy⟩ : ∃ y, rcmpId ⟨qt, qs⟩ ⟨t, s⟩ = y := ⟨_, rfl⟩
              have hyl := rcmpId_ge ⟨qt, qs⟩ ⟨t, s⟩
              unfold IntPost
              rw [hy] at hyl ⊢
              have HYL := Lib.hid hyl
              clear hy hyl
              rintro e w5 ⟨rfl, hk5⟩
              have HZ5 := Lib.hid (HZ4.out.fresh hk5)
              have HB5 := Lib.hid (HB4.out.kept hk5 id)
              have HN2 := Lib.hid (show notUp (l.take (j + 1)) ⟨⟨t, s⟩, n⟩ = decide (0 ≤ y) by
                rw [HNU.out]
                by_cases h : ltId ⟨qt, qs⟩ ⟨t, s⟩
                · have h1 : ¬ 0 ≤ y := fun e => (HYL.out.1 e) h
                  simp [h, h1]
                · have h1 : 0 ≤ y := HYL.out.2 h
                  simp [h, h1])
              clear hk5 HZ4 HB4 hwj hj0 hj1
              go_wp2
              go_meet
              case rel => exact ⟨by rw [HN2.out], HZ5.out, HB5.out⟩
          case rest =>
            obtain ⟨rfl, hz3, hb3⟩ := hcut
            have HZ3 := Lib.hid hz3
            have HB3 := Lib.hid hb3
            clear hz3 hb3 y0 y1 HZ2 HB2
            cases hnu : notUp (l.take k) ⟨⟨t, s⟩, n⟩ with
            | true =>
              have h2 := HCH.out
              rw [HST.out, HOK.out, hnu] at h2
              have HF := Lib.hid (show (9 : Int) = x from h2)
              clear hnu h2
              go_wp2_with (fail)
              go_ret
              exact ⟨by rw [← HF.out]; rfl, HZ3.out.k⟩
            | false =>
              have HNU := Lib.hid hnu
              clear hnu
              go_wp2_with (fail)
              generalize wc = w6 at HZ3 HB3 ⊢
              go_loopw [5] (fun i wr => ∃ (j : Nat), i = .int .i64 j ∧ j ≤ k ∧ meets (l.take j) ⟨⟨t, s⟩, n⟩ = false ∧ RChkAt w (some ad) l wr ∧ Box wr g1 32 #[.int .i64 t, .int .i64 s, .int .i64 n]) (fun i _ => k - (intOf i).toNat)
              case atStart => exact ⟨0, rfl, by omega, rfl, HZ3.out, HB3.out⟩
              case round =>
                obtain ⟨j, rfl, hj, hme, hz, hb⟩ := hrel
                have HZ4 := Lib.hid hz
                have HB4 := Lib.hid hb
                have HME := Lib.hid hme
                clear hz hb hme HZ3 HB3
                by_cases hjk : j < k
                · have hjl : j < l.length := by omega
                  obtain ⟨ad', e, p0, p1, p2⟩ := HZ4.out.r j hjl
                  injection e with e
                  subst e
                  have HMT := Lib.hid (meets_take l ⟨⟨t, s⟩, n⟩ hjl)
                  have hoj := HOA.out l[j] (List.mem_of_getElem? (show (l.take k)[j]? = some l[j] by rw [List.getElem?_take, if_pos hjk, List.getElem?_eq_getElem hjl]))
                  obtain ⟨q, hq⟩ : ∃ q, l[j] = q := ⟨_, rfl⟩
                  rw [hq] at p0 p1 p2 hoj HMT
                  obtain ⟨⟨qt, qs⟩, qn⟩ := q
                  unfold okRn at hoj
                  simp only [Bool.and_eq_true, decide_eq_true_eq, okId_iff] at hoj
                  simp only at p0 p1 p2
                  obtain ⟨⟨hqn, hq1, hq2, hq3, hq4⟩, hq5⟩ := hoj
                  rw [HME.out] at HMT
                  clear hq
                  have y0 : wr.cell? ⟨g1, 0, none⟩ = some (.int .i64 t) := HB4.out.cell 0
                  have y1 : wr.cell? ⟨g1, 1, none⟩ = some (.int .i64 s) := HB4.out.cell 1
                  by_cases hqs : qs = s
                  · have hd : decide (qs = s) = true := decide_eq_true hqs
                    have hd' : (qs == s) = true := by simp [hqs]
                    by_cases hqt : t ≤ qt + qn
                    · have hme : meets (l.take (j + 1)) ⟨⟨t, s⟩, n⟩ = true := by rw [HMT.out]; simp [hqs, hqt]
                      have hmk : meets (l.take k) ⟨⟨t, s⟩, n⟩ = true := by
                        rw [meets_iff] at hme ⊢
                        obtain ⟨q, hq, h⟩ := hme
                        exact ⟨q, List.take_subset_take_left l (by omega) hq, h⟩
                      have h2 := HCH.out
                      rw [HST.out, HOK.out, HNU.out, hmk] at h2
                      have HF := Lib.hid (show (6 : Int) = x from h2)
                      have HQ := Lib.hid hqs
                      clear h2 hme hmk hqs
                      go_wp2_with (fail)
                      go_quiet (fail)
                      go_wp2
                      go_ret
                      exact ⟨by rw [← HF.out]; rfl, HZ4.out.k.trans (Kept.drewN_eq nq) fun _ _ e => e⟩
                    · have hme : meets (l.take (j + 1)) ⟨⟨t, s⟩, n⟩ = false := by rw [HMT.out]; simp [hqt]
                      have HME1 := Lib.hid hme
                      have hqt' : qt + qn < t := by omega
                      have HQ := Lib.hid hqs
                      clear hme hqt hqs
                      go_wp2_with (fail)
                      go_quiet (fail)
                      go_wp2
                      go_roundw
                      case rel => exact ⟨j + 1, by go_num, by omega, HME1.out, HZ4.out.fresh (Kept.drewN_eq nq), HB4.out.drewN nq⟩
                      case measure => simp [intOf]; omega
                  · have hd : decide (qs = s) = false := decide_eq_false hqs
                    have hd' : (qs == s) = false := by simp [hqs]
                    have hme : meets (l.take (j + 1)) ⟨⟨t, s⟩, n⟩ = false := by rw [HMT.out]; simp [hqs]
                    have HME1 := Lib.hid hme
                    clear hme
                    go_wp2_with (fail)
                    go_quiet (fail)
                    go_wp2
                    go_roundw
                    case rel => exact ⟨j + 1, by go_num, by omega, HME1.out, HZ4.out.fresh (Kept.drewN_eq nq), HB4.out.drewN nq⟩
                    case measure => simp [intOf]; omega
                · obtain rfl : j = k := by omega
                  have h2 := HCH.out
                  rw [HST.out, HOK.out, HNU.out, HME.out] at h2
                  have HF := Lib.hid h2
                  clear h2
                  go_wp2_with (fail)
                  go_roundw
                  case rel => exact ⟨j + 1, by go_num, by omega, HF.out, fun q hq => by
                    rw [List.take_succ_eq_append_getElem hlt, List.mem_append] at hq
                    rcases hq with hq | hq
                    · exact HOA.out q hq
                    · obtain rfl : q = l[j] := by simpa using hq
                      rw [HR.out]
                      exact HOK.out, HZ4.out⟩
                  case measure => simp [intOf]; omega
    · obtain rfl : k = l.length := by omega
      rw [chkR_end] at hchk
      have HF := Lib.hid hchk
      clear hchk
      go_wp2_with (fail)
      go_ret
      exact ⟨by rw [← HF.out]; rfl, HZ.out.k⟩
end Go.Proofs.Ytnlklhlnnoihiaa
