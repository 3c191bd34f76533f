/- How many bytes an operation is laid as. No program. · A Writer made since a world: what is laid with it; the reference's Encode. Conditions: what is handed in lies in memory. · Operations one behind the other: in memory, as bytes; what a Writer's call leaves. Conditions: what is handed in lies in memory. · The walk of OpStream: it is true. Conditions: the operations lie in memory. -/
import Derived.Test.YtnlklhlnnoihiaaOCS
import Derived.Test.YtnlklhlnnoihiaaMO32
namespace Go.Proofs.Ytnlklhlnnoihiaa
open Go

theorem pcs_size (s : ByteArray) : ∀ (n f i : Nat), s.size - i ≤ n → s.size ≤ i + f → s.size ≤ i + 4 * (pcs s f i).length := by
  intro n
  induction n with
  | zero => intro f i h1 _; omega
  | succ n ih =>
    intro f i h1 h2
    rcases Nat.lt_or_ge i s.size with h | h
    · rw [pcs_step h h2, List.length_cons]
      have hp := dec_pos s i
      have := ih f (i + (dec s i).2) (by omega) (by omega)
      omega
    · omega
theorem size_le_cnt (s : ByteArray) : s.size ≤ 4 * cnt s := by
  have := pcs_size s s.size s.size 0 (by omega) (by omega)
  unfold cnt cuts
  omega
theorem enc_le5 {x : Nat} (h : x ≤ 2147483648) : (enc x).length ≤ 5 := enc_len 4 x (Nat.lt_of_le_of_lt h (by decide))
theorem enc_le1 {x : Nat} (h : x ≤ 127) : (enc x).length ≤ 1 := enc_len 0 x (Nat.lt_of_le_of_lt h (by decide))
theorem enc_le2 {x : Nat} (h : x ≤ 16383) : (enc x).length ≤ 2 := enc_len 1 x (Nat.lt_of_le_of_lt h (by decide))
theorem encs_more (x : Nat) (m : List Nat) : encs (x :: m) = enc x ++ encs m := by simp [encs]
theorem gone_len : ∀ (l : List Rn), (∀ r ∈ l, okRn r = true) → (encs (goneNums l)).length ≤ 11 * l.length
  | [], _ => by simp [goneNums, encs]
  | r :: l, h => by
    have hr := h r (by simp)
    rw [okRn_iff, okId_iff] at hr
    have ih := gone_len l fun q hq => h q (by simp [hq])
    have e : encs (goneNums (r :: l)) = enc r.id.time.toNat ++ (enc r.id.site.toNat ++ (enc r.count.toNat ++ encs (goneNums l))) := by simp [goneNums, encs]
    have h1 := enc_le5 (x := r.id.time.toNat) (by omega)
    have h2 := enc_le1 (x := r.id.site.toNat) (by omega)
    have h3 := enc_le5 (x := r.count.toNat) (by omega)
    rw [e]
    simp only [List.length_append, List.length_cons]
    omega
theorem dot_len : ∀ (l : List Dt), (∀ d ∈ l, okDot d = true) → (encs (dotNums l)).length ≤ 6 * l.length
  | [], _ => by simp [dotNums, encs]
  | d :: l, h => by
    have hd : 1 ≤ d.site ∧ d.site ≤ 16 ∧ 1 ≤ d.seq ∧ d.seq ≤ 2147483647 := by simpa [okDot] using h d (by simp)
    have ih := dot_len l fun q hq => h q (by simp [hq])
    have e : encs (dotNums (d :: l)) = enc d.site.toNat ++ (enc d.seq.toNat ++ encs (dotNums l)) := by simp [dotNums, encs]
    have h1 := enc_le1 (x := d.site.toNat) (by omega)
    have h2 := enc_le5 (x := d.seq.toNat) (by omega)
    rw [e]
    simp only [List.length_append, List.length_cons]
    omega
/-- An operation has not many bytes. -/
theorem encOp_le (o : Opr) (hok : okOp o = true) : (encOp o).length ≤ 11400 := by
  have hf := okOp_f hok
  have hs1 := hf.s1
  have hs2 := hf.s2
  have hq1 := hf.q1
  have hq2 := hf.q2
  have hkd : 1 ≤ o.kind ∧ o.kind ≤ 4 := by rcases hf.kd with ⟨k, -⟩ | ⟨k, -⟩ | ⟨k, -⟩ | ⟨k, -⟩ <;> omega
  have hdl : o.deps.length ≤ 16 := by
    have := vec_len (Row.says o.deps)
    rwa [vec_says hf.dv] at this
  have hdo : ∀ d ∈ o.deps, okDot d = true := by
    have := vec_ok (Row.says o.deps) 17 (Nat.le_refl _)
    rwa [show vecTo (says o.deps) 17 = o.deps from vec_says hf.dv] at this
  have h1 := enc_le1 (x := o.kind.toNat) (by omega)
  have h2 := enc_le1 (x := o.dot.site.toNat) (by omega)
  have h3 := enc_le5 (x := o.dot.seq.toNat) (by omega)
  have h4 := dot_len o.deps hdo
  have h5 := enc_le1 (x := o.deps.length) (by omega)
  have ht : (encT o).length ≤ 11290 := by
    unfold encT
    rcases hf.kd with ⟨k1, hgo, hsi, hc0, hc1, hb, his, hid, hti, href, hlt⟩ | ⟨k2, hid, href, htx, hsi, hg0, hg1, hck⟩ | ⟨k3, hgo, hid, href, htx, hs1, hs2⟩ | ⟨k4, hgo, hid, href, htx, hsi⟩
    · rw [if_pos k1]
      rw [okId_iff] at hid
      have hr0 : o.ref.time ≤ 2147483647 ∧ o.ref.site ≤ 16 := by
        rcases href with h | h
        · rw [h]; exact ⟨by decide, by decide⟩
        · rw [okId_iff] at h; omega
      have a1 := enc_le5 (x := o.id.time.toNat) (by omega)
      have a2 := enc_le5 (x := o.ref.time.toNat) (by omega)
      have a3 := enc_le5 (x := o.ref.site.toNat) (by omega)
      have a4 := size_le_cnt o.text
      have a5 := enc_le2 (x := o.text.size) (by omega)
      have a6 := tb_len o.text
      simp only [encs_more, encs_nil, List.length_append, List.length_nil]
      omega
    · rw [if_neg (by rw [k2]; decide), if_pos k2, encs_more]
      have a1 := enc_le2 (x := o.gone.length) (by omega)
      have a2 := gone_len o.gone (chkR_all _ _ hck)
      simp only [List.length_append]
      omega
    · rw [if_neg (by rw [k3]; decide), if_neg (by rw [k3]; decide), if_pos k3, encs_one]
      have a1 := enc_le5 (x := o.site.toNat) (by omega)
      omega
    · rw [if_neg (by rw [k4]; decide), if_neg (by rw [k4]; decide), if_neg (by rw [k4]; decide)]
      simp
  unfold encOp vnums
  simp only [encs_more, encs_nil, List.length_append, List.length_nil]
  omega
end Go.Proofs.Ytnlklhlnnoihiaa

namespace Go.Proofs.Ytnlklhlnnoihiaa
open Go Go.RowKit

/-- A Writer that was made since wm, at g; nothing of wm has turned. -/
structure WrIn (wm : World) (g : Nat) (l : List Int) (e : Int) (W : World) : Prop where
  k : Kept (fun _ => False) wm W
  w : ∃ sv, WriterAt W wm.heap.size g sv l e
section
variable {wm W W' : World} {g : Nat} {l l' : List Int} {e : Int} {r : Ending}
theorem WrIn.fresh (h : WrIn wm g l e W) (hk : Kept (fun _ => False) W W') : WrIn wm g l e W' := by
  obtain ⟨sv, hw⟩ := h.w
  exact ⟨h.k.trans hk fun _ _ e => e, sv, hw.fresh hk⟩
theorem WrIn.new (wm : World) : WrIn wm wm.heap.size [] 0 (wm.alloc (.cells #[.slice none 0 0, .int .i64 0] 71)) := ⟨(Kept.refl _ _).alloc _, _, WriterAt.new wm⟩
theorem WrIn.of_post {sv : Value} (h : WriterAt W wm.heap.size g sv l e) (hk : Kept (fun _ => False) wm W) (hp : WPost W wm.heap.size g sv l' e r W') : r = .returned (.tuple #[]) ∧ WrIn wm g l' e W' := by
  obtain ⟨hr, sv', h', hk', -⟩ := hp
  refine ⟨hr, hk.trans hk' fun k h1 h2 => ?_, sv', h'⟩
  rcases h2 with rfl | h2
  · have := h.base_le; omega
  · have := (h.row.lt k h2).1; omega
theorem WrIn.other {M : Nat} {T : TypeId} {cs : Array Value} (h : WrIn wm g l e W) (hb : Box W M T cs) (h1 : T ≠ 71) (h2 : 5 ≠ T) (hM : wm.heap.size ≤ M) (hk : Kept (fun k => k = M) W W') : WrIn wm g l e W' := by
  obtain ⟨sv, hw⟩ := h.w
  have hne := Box.ne hb hw.box h1
  exact ⟨h.k.trans hk fun k hk e => by omega, sv, hw.box.kept hk (fun e => hne e.symm), hk.own hw.row fun k e1 e2 => own_box_ne hw.row hb h2 (by rw [e1, e2]), hw.base_le⟩
def WrPost (wm : World) (g : Nat) (l : List Int) (e : Int) (r : Ending) (W' : World) : Prop := r = .returned (.tuple #[]) ∧ WrIn wm g l e W'
theorem WrIn.text (h : WrIn wm g l e W) (s : ByteArray) (hl : l.length ≤ 1000000) (hs : s.size ≤ 1000000) : Calls Try.prog 36 #[.pointer (some ⟨g, 0, none⟩), .string s] W (WrPost wm g (layB l e (enc s.size ++ tb s)) e) := by
  obtain ⟨sv, hw⟩ := h.w
  exact (WText_any _ g sv l e s W hw hl hs).mono fun r W' hp => WrIn.of_post hw h.k hp
theorem WrIn.num (h : WrIn wm g l e W) (x : Nat) (hl : l.length ≤ 1000000) (hx : x ≤ 9223372036854775807) : Calls Try.prog 37 #[.pointer (some ⟨g, 0, none⟩), .int .i64 x] W (WrPost wm g (layB l e (enc x)) e) := by
  obtain ⟨sv, hw⟩ := h.w
  obtain ⟨h1, h2⟩ := layB_num l e x
  have := Number_any _ g sv l e x W hw hl (by omega)
  rw [h1, h2] at this
  exact this.mono fun r W' hp => WrIn.of_post hw h.k hp
theorem WrIn.put (h : WrIn wm g l e W) (x : Lop) (hx : x.At wm) (hs : x.o.Small) (hl : l.length ≤ 800000) : Calls Try.prog 32 #[.pointer (some ⟨g, 0, none⟩), .agg x.c] W (WrPost wm g (layO l e x.o) e) := by
  obtain ⟨sv, hw⟩ := h.w
  have hoff : OffW g sv x := by
    refine ⟨fun hne a ha ho => ?_, fun hne a ha ho => ?_⟩
    · have h1 := hx.d.block_lt hne a ha
      rcases ho with ho | ho
      · have := hw.base_le; omega
      · have := (hw.row.lt _ ho).1; omega
    · have h1 := hx.g.block_lt hne a ha
      rcases ho with ho | ho
      · have := hw.base_le; omega
      · have := (hw.row.lt _ ho).1; omega
  exact (OpPut_any _ g sv l e x W hw (hx.fresh h.k) hs hoff hl).mono fun r W' hp => WrIn.of_post hw h.k hp
theorem WrIn.data (h : WrIn wm g l e W) (hl : l.length ≤ 100000000) : Calls Try.prog 41 #[.pointer (some ⟨g, 0, none⟩)] W (FreshBytes W l) := by
  obtain ⟨sv, hw⟩ := h.w
  exact Data_any _ g sv l e W hw hl
theorem WrIn.err (h : WrIn wm g l e W) : Calls Try.prog 42 #[.pointer (some ⟨g, 0, none⟩)] W (fun r w' => r = .returned (.int .i64 e) ∧ W = w') := by
  obtain ⟨sv, hw⟩ := h.w
  exact WErr_any _ g sv l e W hw
end
theorem layO_le (l : List Int) (e : Int) (o : Opr) : (layO l e o).length ≤ l.length + 11400 := by
  unfold layO
  split
  · rename_i h
    have := layB_len l e (encOp o)
    have := encOp_le o h
    omega
  · omega
theorem layO_nil (o : Opr) : layO [] 0 o = encL o := by
  unfold layO encL layB
  split
  · simp
  · rfl
/-- The reference's Encode. -/
def REncS (w : World) (o : Opr) (r : Ending) (w' : World) : Prop := ∃ A c, r = .returned (.tuple #[.slice A (encL o).length c, .int .i64 (opE o)]) ∧ BytesAt w' A (encL o) ∧ Kept (fun _ => False) w w'
theorem field_RW (A : Option Addr) (n c : Nat) (e : Int) (W : World) : (Instr.field 75 (.agg #[.slice A n c, .int .i64 e]) 0).run Try.prog W = .ok (.slice A n c) W := by kernel_rfl
theorem RBz (w : World) : RB w none [] 0 := ⟨fun k h => absurd h (by simp), fun _ => rfl⟩
set_option maxRecDepth 100000 in
set_option maxHeartbeats 1600000 in
theorem REnc_any (x : Lop) (w : World) (hx : x.At w) (hs : x.o.Small) : Calls Try.prog 35 #[.agg x.c] w (REncS w x.o) := by
  have hk0 : Kept (fun _ => False) w (w.alloc (.cells x.c 30)) := (Kept.refl _ _).alloc _
  have HK := Lib.hid hk0
  have HX := Lib.hid (hx.fresh hk0)
  have HB := Lib.hid (Box.new w 30 x.c)
  have HRC := Lib.hid (fun W (h1 : x.At W) => RefCheck_any x.o x.dA x.gA x.dc x.gc W (h1.opr hs))
  have HRP := Lib.hid (fun W (h1 : x.At W) => RPut8_any none [] 0 0 x W (RBz W) h1 hs (by simp))
  have HCC := Lib.hid (show x.o.cells x.dA x.dc x.gA x.gc = x.c from rfl)
  obtain ⟨cs, hcs⟩ : ∃ cs, x.c = cs := ⟨_, rfl⟩
  have HSZ := Lib.hid (show cs.size = 11 by rw [← hcs]; rfl)
  rw [hcs] at HX HB HRP HCC HK ⊢
  rw [HCC.out] at HRC
  clear hx hs hk0 hcs HCC
  go_enter Try.func35, Try.ntmps35
  go_upto_region 1 with (fail)
  generalize w.alloc (.cells cs 30) = w0 at HK HB HX ⊢
  go_wp2_with (refine wpList_load_op rfl _ rfl w.heap.size rfl _ cs HSZ.out HB.out ?_)
  refine (HRC.out w0 HX.out).mono ?_
  unfold IntPost
  cases hok : okOp x.o with
  | false =>
    rw [opE_no hok]
    rintro r w1 ⟨rfl, hk⟩
    have HK1 := Lib.hid (HK.out.trans hk fun _ _ e => e)
    have HO := Lib.hid hok
    clear hk hok
    go_wp2_with (fail)
    go_ret2
    refine ⟨none, 0, ?_, ?_, HK1.out⟩
    · rw [encL_no HO.out, opE_no HO.out]; rfl
    · rw [encL_no HO.out]; exact fun k h => absurd h (by simp)
  | true =>
    rw [opE_ok hok]
    rintro r w1 ⟨rfl, hk⟩
    have HK1 := Lib.hid (HK.out.trans hk fun _ _ e => e)
    have HX1 := Lib.hid (HX.out.fresh hk)
    have HB1 := Lib.hid (HB.out.kept hk id)
    have HO := Lib.hid hok
    clear hk hok HK HX HB
    go_wp2_with (refine wpList_load_op rfl _ rfl w.heap.size rfl _ cs HSZ.out HB1.out ?_)
    refine (HRP.out w1 HX1.out).mono ?_
    rw [layO_nil]
    rintro r w2 ⟨A, c, rfl, hr, -, hk⟩
    have HK2 := Lib.hid (HK1.out.trans hk fun _ _ e => e)
    have HR2 := Lib.hid hr.at_
    unfold wrV
    clear hk hr HK1 HX1 HB1
    have hfd := field_RW A (encL x.o).length c 0
    go_wp2_with (fail)
    go_ret2
    refine ⟨A, c, ?_, HR2.out, HK2.out⟩
    rw [opE_ok HO.out]
    rfl
end Go.Proofs.Ytnlklhlnnoihiaa

namespace Go.Proofs.Ytnlklhlnnoihiaa
open Go Go.RowKit

theorem cell_none {w : World} {q : Addr} {v : Value} (h : w.cell? q = some v) : q = ⟨q.block, q.off, none⟩ := by
  obtain ⟨b, o, s⟩ := q
  cases s with
  | none => rfl
  | some x =>
    unfold World.cell? at h
    simp only [Option.isSome_some, if_true] at h
    split at h <;> cases h
/-- A list of operations as it is handed in. -/
structure OpsAt (w : World) (A : Option Addr) (l : List Lop) : Prop where
  row : ∀ k (h : k < l.length), ∃ ad, A = some ad ∧ w.cell? (ad.add (k * 11)) = some (.int .i64 l[k].o.dot.site) ∧ w.rangeAt (ad.add (k * 11)).block (ad.add (k * 11)).off l[k].c.toList
  xs : ∀ x ∈ l, x.At w ∧ (∀ r ∈ x.o.gone, inI r.count)
theorem cell_fresh {w W : World} {b o : Nat} {v : Value} (h : w.cell? ⟨b, o, none⟩ = some v) (hk : Kept (fun _ => False) w W) : W.cell? ⟨b, o, none⟩ = some v := by
  have hb : b < w.heap.size := by
    rcases Nat.lt_or_ge b w.heap.size with h0 | h0
    · exact h0
    · have : w.heap[b]? = none := Array.getElem?_eq_none h0
      simp [World.cell?, this] at h
  have := hk.block b hb id
  simp only [World.cell?, this] at h ⊢
  exact h
theorem OpsAt.load {w W : World} {A : Option Addr} {l : List Lop} (h : OpsAt w A l) (hk : Kept (fun _ => False) w W) {k : Nat} (hlt : k < l.length) : ∃ ad, A = some ad ∧ ad.add (k * 11) = ⟨(ad.add (k * 11)).block, (ad.add (k * 11)).off, none⟩ ∧ W.rangeAt (ad.add (k * 11)).block (ad.add (k * 11)).off l[k].c.toList := by
  obtain ⟨ad, hA, h0, h1⟩ := h.row k hlt
  exact ⟨ad, hA, cell_none h0, fun j v hj => cell_fresh (h1 j v hj) hk⟩
theorem wpList_load_q {w : World} {ops : Array Oper} {rest : List Oper} {o : Oper} {a : Act} {Q : Exit → Act → World → Prop} (hgd : o.guard = none) (x : Operand) (ho : o.op = .load 30 x) (q : Addr) (hx : a.eval x = .pointer (some q)) (hq : q = ⟨q.block, q.off, none⟩) (y : Lop) (cs : Array Value) (hcs : y.c = cs)
    (hr : w.rangeAt q.block q.off y.c.toList) (h : wpList Try.prog ops Q rest (a.put o.dst (.agg cs)) w) : wpList Try.prog ops Q (o :: rest) a w := by
  obtain ⟨d, hu, hd⟩ := und_op
  rw [hq] at hx
  refine wpList_load_mid hgd _ x ho q.block q.off hx y.c.toList d hr hu hd (by rw [Array.length_toList]; exact size_op) ?_
  rw [Array.toArray_toList, hcs]
  exact h
theorem run_load_row {w : World} {a : Act} (op : Oper) (x : Operand) (ho : op.op = .load 30 x) (g k : Nat) (hx : a.eval x = .pointer (some ⟨g, k * 11, none⟩)) {base n c : Nat} (xs : List Lop)
    (hr : w.ownsRow base 30 11 (.slice (some ⟨g, 0, none⟩) n c) n (lops xs)) (hk : k < xs.length) (cs : Array Value) (hcs : xs[k].c = cs) : (execOp a.eval op).run Try.prog w = .ok (.value (.agg cs)) w := by
  obtain ⟨d, hu, hd⟩ := und_op
  have := run_loadVar_mid (P := Try.prog) w g (k * 11) 30 xs[k].c.toList d (range_of_row hr k hk) hu hd (by rw [Array.length_toList]; exact size_op)
  rw [Array.toArray_toList, hcs] at this
  unfold execOp
  simp only [ho, hx, Instr.loadAt, Instr.sureAddr, Sem.run_bind, Sem.run_pure, Result.andThen_ok, this]
/-- Those that are operations, and all their bytes. -/
def okL (l : List Lop) : List Lop := l.filter fun x => okOp x.o
def catE (l : List Lop) : List Int := l.flatMap fun x => encL x.o
theorem okL_snoc (l : List Lop) {k : Nat} (h : k < l.length) : okL (l.take (k + 1)) = if okOp l[k].o = true then okL (l.take k) ++ [l[k]] else okL (l.take k) := by
  unfold okL
  rw [List.take_succ_eq_append_getElem h, List.filter_append]
  cases hk : okOp l[k].o with
  | true => simp [hk]
  | false => simp [hk]
theorem catE_snoc (l : List Lop) {k : Nat} (h : k < l.length) : catE (l.take (k + 1)) = catE (l.take k) ++ encL l[k].o := by
  unfold catE
  rw [List.take_succ_eq_append_getElem h, List.flatMap_append, List.flatMap_cons, List.flatMap_nil, List.append_nil]
theorem catE_okL (l : List Lop) : catE (okL l) = catE l := by
  induction l with
  | nil => rfl
  | cons x l ih =>
    unfold okL at ih ⊢
    rw [List.filter_cons]
    split
    · show encL x.o ++ catE _ = encL x.o ++ catE l
      rw [ih]
    · rename_i h
      show catE _ = encL x.o ++ catE l
      rw [ih, encL_no (by simpa using h), List.nil_append]
theorem catE_drop (l : List Lop) {k : Nat} (h : k < l.length) : catE (l.drop k) = encL l[k].o ++ catE (l.drop (k + 1)) := by
  rw [List.drop_eq_getElem_cons h]
  rfl
theorem encL_le (o : Opr) : (encL o).length ≤ 11400 := by
  unfold encL
  split
  · rename_i h; exact encOp_le o h
  · simp
theorem catE_le (l : List Lop) : (catE l).length ≤ l.length * 11400 := by
  induction l with
  | nil => simp [catE]
  | cons x l ih =>
    have e : catE (x :: l) = encL x.o ++ catE l := rfl
    have := encL_le x.o
    rw [e, List.length_append, List.length_cons]
    omega
theorem catE_byte (l : List Lop) : isByte (catE l) := by
  intro b hb
  unfold catE at hb
  obtain ⟨x, _, hx⟩ := List.mem_flatMap.1 hb
  unfold encL at hx
  split at hx
  · exact encOp_byte _ b hx
  · cases hx
theorem layO_app (l : List Int) (o : Opr) : layO l 0 o = l ++ encL o := by
  unfold layO encL layB
  split
  · simp
  · simp
/-- Rows of operations stay. -/
def RowsStay (W W' : World) : Prop := ∀ (b : Nat) (v : Value) (n : Nat) (xs : List Value), W.ownsRow b 30 11 v n xs → W'.ownsRow b 30 11 v n xs
theorem RowsStay.of_fresh {W W' : World} (hk : Kept (fun _ => False) W W') : RowsStay W W' := fun _ _ _ _ h => hk.own h fun _ _ => id
theorem RowsStay.of_box {W W' : World} {g : Nat} {T : TypeId} {cs : Array Value} (hb : Box W g T cs) (h1 : 30 ≠ T) (hk : Kept (fun k => k = g) W W') : RowsStay W W' := fun _ _ _ _ h => hk.own h fun k e1 e2 => own_box_ne h hb h1 (by rw [e1, e2])
theorem WrIn.put2 {wm W : World} {g : Nat} {l : List Int} {e : Int} (h : WrIn wm g l e W) (x : Lop) (hx : x.At wm) (hs : x.o.Small) (hl : l.length ≤ 800000) :
    Calls Try.prog 32 #[.pointer (some ⟨g, 0, none⟩), .agg x.c] W (fun r W' => r = .returned (.tuple #[]) ∧ WrIn wm g (layO l e x.o) e W' ∧ RowsStay W W') := by
  obtain ⟨sv, hw⟩ := h.w
  have hoff : OffW g sv x := by
    refine ⟨fun hne a ha ho => ?_, fun hne a ha ho => ?_⟩
    · have h1 := hx.d.block_lt hne a ha
      rcases ho with ho | ho
      · have := hw.base_le; omega
      · have := (hw.row.lt _ ho).1; omega
    · have h1 := hx.g.block_lt hne a ha
      rcases ho with ho | ho
      · have := hw.base_le; omega
      · have := (hw.row.lt _ ho).1; omega
  refine (OpPut_any _ g sv l e x W hw (hx.fresh h.k) hs hoff hl).mono fun r W' hp => ?_
  obtain ⟨h1, h2⟩ := WrIn.of_post hw h.k hp
  obtain ⟨-, -, -, hk, -⟩ := hp
  refine ⟨h1, h2, fun b v n xs hr => hk.own hr fun k e1 e2 => ?_⟩
  rcases e2 with rfl | e2
  · exact own_box_ne hr hw.box (by decide) e1
  · exact own_other hr hw.row (by decide) k e1 e2
theorem REnd_any (d g : Nat) (s : Rd) (w : World) (h : RdAt w d g s) (hl : s.l = []) (he : s.e = 0) :
    Calls Try.prog 43 #[.pointer (some ⟨g, 0, none⟩)] w (fun r w' => r = .returned (.int .i64 0) ∧ w = w') := by
  obtain ⟨l, e⟩ := s
  simp only at hl he
  subst hl he
  obtain ⟨A, c, hb, -⟩ := h.at_.box
  have x0 : w.cell? ⟨g, 0, none⟩ = some (.slice A 0 c) := by simpa using hb.cell 0
  have H := Lib.hid h
  clear h hb
  go_enter Try.func43, Try.ntmps43
  go_wp2_with (fail)
  refine (RErrs_any d g _ _ H.out).mono ?_
  rintro r w2 ⟨rfl, rfl⟩
  go_wp2
  go_ret
  exact ⟨rfl, rfl⟩
end Go.Proofs.Ytnlklhlnnoihiaa

namespace Go.Proofs.Ytnlklhlnnoihiaa
open Go Go.RowKit

theorem OpsAt.load2 {w W : World} {A : Option Addr} {l : List Lop} (h : OpsAt w A l) (hk : Kept (fun _ => False) w W) {k : Nat} (hlt : k < l.length) {ad : Addr} (hA : A = some ad) : W.rangeAt (ad.add (k * 11)).block (ad.add (k * 11)).off l[k].c.toList := by
  obtain ⟨ad', e, _, h1⟩ := h.load hk hlt
  rw [hA] at e
  injection e with e
  subst e
  exact h1
/-- Behind k operations: the Writer, those that are kept. -/
structure StrAt (w : World) (xs : List Lop) (k : Nat) (A : Option Addr) (c : Nat) (W : World) : Prop where
  wi : WrIn w w.heap.size (catE (xs.take k)) 0 W
  ro : W.ownsRow w.heap.size 30 11 (.slice A (okL (xs.take k)).length c) (okL (xs.take k)).length (lops (okL (xs.take k)))
theorem StrAt.fresh {w W W' : World} {xs : List Lop} {k c : Nat} {A : Option Addr} (h : StrAt w xs k A c W) (hk : Kept (fun _ => False) W W') : StrAt w xs k A c W' := ⟨h.wi.fresh hk, hk.own h.ro fun _ _ => id⟩
theorem small_ok {o : Opr} (h : okOp o = true) (hc : ∀ r ∈ o.gone, inI r.count) : o.Small := by
  have hf := okOp_f h
  have hdl : o.deps.length ≤ 16 := by
    have := vec_len (Row.says o.deps)
    rwa [vec_says hf.dv] at this
  have h2 := size_le_cnt o.text
  rcases hf.kd with ⟨k1, hgo, hsi, hc0, hc1, -⟩ | ⟨k2, hid, href, htx, hsi, hg0, hg1, hck⟩ | ⟨k3, hgo, hid, href, htx, -⟩ | ⟨k4, hgo, hid, href, htx, hsi⟩
  · exact ⟨hc, by omega, by rw [hgo]; decide, by omega⟩
  · exact ⟨hc, by omega, by omega, by rw [htx]; decide⟩
  · exact ⟨hc, by omega, by rw [hgo]; decide, by rw [htx]; decide⟩
  · exact ⟨hc, by omega, by rw [hgo]; decide, by rw [htx]; decide⟩
/-- Behind k operations that were taken. -/
structure Str2 (w : World) (L : List Int) (m : List Lop) (B : Option Addr) (d d2 g2 k : Nat) (W : World) : Prop where
  rd : RdAt W d2 g2 ⟨catE (m.drop k), 0⟩
  wi : WrIn w w.heap.size L 0 W
  ro : W.ownsRow w.heap.size 30 11 (.slice B m.length d) m.length (lops m)
  ge : w.heap.size ≤ g2
section
variable {w W W' : World} {L : List Int} {m : List Lop} {B : Option Addr} {d d2 g2 k k' : Nat}
theorem Str2.fresh (h : Str2 w L m B d d2 g2 k W) (hk : Kept (fun _ => False) W W') : Str2 w L m B d d2 g2 k W' := ⟨h.rd.fresh hk, h.wi.fresh hk, hk.own h.ro fun _ _ => id, h.ge⟩
theorem Str2.took (h : Str2 w L m B d d2 g2 k W) (hk : Kept (fun x => x = g2) W W') (hr : RdAt W' d2 g2 ⟨catE (m.drop k'), 0⟩) : Str2 w L m B d d2 g2 k' W' := by
  obtain ⟨A, c, hb, -⟩ := h.rd.at_.box
  exact ⟨hr, h.wi.other hb (by decide) (by decide) h.ge hk, RowsStay.of_box hb (by decide) hk _ _ _ _ h.ro, h.ge⟩
end
set_option maxRecDepth 100000 in
set_option maxHeartbeats 3200000 in
theorem Stream_walk (A : Option Addr) (xs : List Lop) (c : Nat) (w : World) (hx : OpsAt w A xs) : Calls Try.prog 11 #[.slice A xs.length c] w (KnownPost w) := by
  have HXS := Lib.hid hx
  have HK0 := Lib.hid (Kept.refl (fun _ => False) w)
  clear hx
  by_cases h1 : 60 < xs.length
  · have h1' : (60 : Int) < (xs.length : Int) := by omega
    go_enter Try.func11, Try.ntmps11
    go_wp2_with (fail)
    refine (Known8_any w).mono ?_
    rintro r k1 ⟨rfl, hk⟩
    have HK1 := Lib.hid (HK0.out.trans hk fun _ _ e => e)
    clear hk
    go_wp2_with (fail)
    go_ret
    exact ⟨rfl, HK1.out⟩
  have h1' : ¬ (60 : Int) < (xs.length : Int) := by omega
  go_enter Try.func11, Try.ntmps11
  have HS0 := Lib.hid (show StrAt w xs 0 none 0 (w.alloc (.cells #[.slice none 0 0, .int .i64 0] 71)) from ⟨WrIn.new w, World.ownsRow_nil _ _ _ _⟩)
  go_wp2_with (fail)
  generalize w.alloc (.cells #[.slice none 0 0, .int .i64 0] 71) = w0 at HS0 ⊢
  go_loopw [4, 5] (fun v i wr => ∃ (k : Nat) (B : Option Addr) (d : Nat), v = .slice B (okL (xs.take k)).length d ∧ i = .int .i64 k ∧ k ≤ xs.length ∧ StrAt w xs k B d wr) (fun _ i _ => xs.length - (intOf i).toNat)
  case atStart => exact ⟨0, none, 0, rfl, rfl, Nat.zero_le _, HS0.out⟩
  case round =>
    obtain ⟨k, B, d, rfl, rfl, hk, hs⟩ := hrel
    have HS := Lib.hid hs
    clear hs HS0
    by_cases hlt : k < xs.length
    · obtain ⟨ad, hA, hqn, -⟩ := HXS.out.load HS.out.wi.k hlt
      subst hA
      have HQN := Lib.hid hqn
      clear hqn
      have hmem := HXS.out.xs xs[k] (List.getElem_mem hlt)
      have HMM := Lib.hid hmem
      have HLG := Lib.hid (fun W => Long_any xs[k] W)
      have HCK := Lib.hid (fun W (h1 : xs[k].At W) (h2 : xs[k].o.Small) => Check_lop xs[k] W h1 h2)
      have HPT := Lib.hid (fun (g : Nat) (l : List Int) W (h : WrIn w g l 0 W) (h2 : xs[k].o.Small) (h3 : l.length ≤ 800000) => h.put2 xs[k] hmem.1 h2 h3)
      obtain ⟨cs, hcs⟩ : ∃ cs, xs[k].c = cs := ⟨_, rfl⟩
      have HCS := Lib.hid hcs
      have HOK1 := Lib.hid (okL_snoc xs hlt)
      have HCE := Lib.hid (catE_snoc xs hlt)
      have hcl : (catE (xs.take k)).length ≤ 684000 := by
        have e1 := catE_le (xs.take k)
        have e2 := List.length_take_le k xs
        omega
      have hol : (okL (xs.take k)).length ≤ 60 := by
        have e1 := List.length_filter_le (fun x : Lop => okOp x.o) (xs.take k)
        have e2 := List.length_take_le k xs
        unfold okL
        omega
      rw [hcs] at HLG HCK HPT
      clear hcs hmem
      have hr := HS.out.wi.k
      go_wp2_with (refine wpList_load_q rfl _ rfl (ad.add (k * 11)) rfl HQN.out xs[k] cs HCS.out (HXS.out.load2 hr hlt rfl) ?_)
      refine (HLG.out wr).mono ?_
      cases hl : isLong xs[k].o with
      | true =>
        rintro r w1 ⟨rfl, hk1⟩
        have HK1 := Lib.hid (HS.out.wi.k.trans hk1 fun _ _ e => e)
        clear hk1
        go_wp2_with (fail)
        refine (Known8_any w1).mono ?_
        rintro r k1 ⟨rfl, hk⟩
        have HK2 := Lib.hid (HK1.out.trans hk fun _ _ e => e)
        clear hk
        go_wp2_with (fail)
        go_ret
        exact ⟨rfl, HK2.out⟩
      | false =>
        rintro r w1 ⟨rfl, hk1⟩
        have HSM := Lib.hid (show xs[k].o.Small from by
          have := of_decide_eq_false hl
          exact ⟨HMM.out.2, by omega, by omega, by omega⟩)
        have HS1 := Lib.hid (HS.out.fresh hk1)
        have hr1 := HS1.out.wi.k
        clear hk1 hl HLG hr HS
        go_wp2_with (refine wpList_load_q rfl _ rfl (ad.add (k * 11)) rfl HQN.out xs[k] cs HCS.out (HXS.out.load2 hr1 hlt rfl) ?_)
        refine (HPT.out w.heap.size _ w1 HS1.out.wi HSM.out (by omega)).mono ?_
        rintro r w2 ⟨rfl, hw2, hst⟩
        have HW2 := Lib.hid hw2
        have HR2 := Lib.hid (hst _ _ _ _ HS1.out.ro)
        have hr2 := hw2.k
        have HX2 := Lib.hid (HMM.out.1.fresh hw2.k)
        clear hw2 hst HS1 hr1 HPT
        rw [layO_app, ← HCE.out] at HW2
        go_wp2_with (refine wpList_load_q rfl _ rfl (ad.add (k * 11)) rfl HQN.out xs[k] cs HCS.out (HXS.out.load2 hr2 hlt rfl) ?_)
        refine (HCK.out w2 HX2.out HSM.out).mono ?_
        unfold IntPost opE
        cases hok : okOp xs[k].o with
        | false =>
          rw [hok] at HOK1
          simp only [Bool.false_eq_true, if_false] at HOK1 ⊢
          rintro r w3 ⟨rfl, hk3⟩
          have HS3 := Lib.hid (show StrAt w xs (k + 1) B d w3 from ⟨HW2.out.fresh hk3, by rw [HOK1.out]; exact hk3.own HR2.out fun _ _ => id⟩)
          clear hk3
          go_wp2_with (fail)
          go_roundw
          case rel => exact ⟨k + 1, B, d, by rw [HOK1.out], by go_num, by omega, HS3.out⟩
          case measure => simp [intOf]; omega
        | true =>
          rw [hok] at HOK1
          simp only [if_true] at HOK1 ⊢
          rintro r w3 ⟨rfl, hk3⟩
          have HW3 := Lib.hid (HW2.out.fresh hk3)
          have HR3 := Lib.hid (hk3.own HR2.out fun _ _ => id)
          have hr3 := HW3.out.k
          have hs3 := hr3.size
          clear hk3 hr2 HW2 HR2 HX2
          have HZ11 := Lib.hid (show cs.size = 1 * 11 by rw [← HCS.out]; rfl)
          have HON1 := Lib.hid (show cs.toList.all (·.oneCell') = true by rw [← HCS.out]; exact Lop.c_one _)
          go_wp2_with (first | (at_builtin; refine Hid.out ?_) | (refine wpList_one_op rfl _ rfl xs[k] cs HCS.out rfl ?_) | (refine wpList_load_q rfl _ rfl (ad.add (k * 11)) rfl HQN.out xs[k] cs HCS.out (HXS.out.load2 hr3 hlt rfl) ?_))
          refine Lib.hid ?_
          refine wpList_append_new eltOps rfl _ _ rfl w.heap.size _ (okL (xs.take k)).length (lops (okL (xs.take k))) rfl HR3.out 1 1 rfl HZ11.out HON1.out (by omega) hs3 ?_
          intro A2 c2 w4 HO4 HK4 _
          have hk34 : Kept (fun _ => False) w w4 := HW3.out.k.trans HK4.out fun k hk e => by have := (HR3.out.lt k e).1; omega
          have HS4 := Lib.hid (show StrAt w xs (k + 1) A2 c2 w4 from by
            obtain ⟨sv, hw⟩ := HW3.out.w
            refine ⟨⟨hk34, sv, hw.box.kept HK4.out fun e => own_box_ne HR3.out hw.box (by decide) e, HK4.out.own hw.row fun k e1 e2 => own_other hw.row HR3.out (by decide) k e1 e2, hw.base_le⟩, ?_⟩
            rw [HOK1.out, List.length_append, lops_app]
            have := HO4.out
            rw [← HCS.out] at this
            exact this)
          clear hk34 HO4 HK4 HW3 HR3 hr3 hs3
          go_wp2_with (fail)
          go_roundw
          case rel => exact ⟨k + 1, A2, c2, by rw [HOK1.out, List.length_append]; rfl, by go_num, by omega, HS4.out⟩
          case measure => simp [intOf]; omega
    · obtain rfl : k = xs.length := by omega
      have HW := Lib.hid HS.out.wi
      have HR := Lib.hid HS.out.ro
      rw [List.take_length] at HW HR ⊢
      have HLL := Lib.hid (catE_le xs)
      have HML := Lib.hid (show ∀ x ∈ okL xs, okOp x.o = true ∧ x.At w ∧ x.o.Small from fun x hx => by
        obtain ⟨h1, h2⟩ := List.mem_filter.1 hx
        obtain ⟨h3, h4⟩ := HXS.out.xs x h1
        exact ⟨h2, h3, small_ok h2 h4⟩)
      have HCB := Lib.hid (show catE (okL xs) = catE xs from catE_okL xs)
      have hml : (okL xs).length ≤ 60 := by
        have e1 := List.length_filter_le (fun x : Lop => okOp x.o) xs
        unfold okL
        omega
      have hcl : (catE xs).length ≤ 684000 := by have := HLL.out; omega
      have HBY := Lib.hid (catE_byte xs)
      clear HS HLL
      generalize okL xs = m at HR HML HCB hml ⊢
      generalize catE xs = L at HW HCB hcl HBY ⊢
      go_wp2_with (fail)
      refine (HW.out.data (by omega)).mono ?_
      rintro r w1 hfb
      obtain ⟨A3, c3, rfl, hb3, hk1⟩ := hfb.at
      have HB3 := Lib.hid hb3
      have HW1 := Lib.hid (HW.out.fresh hk1)
      have HR1 := Lib.hid (hk1.own HR.out fun _ _ => id)
      clear hfb hb3 hk1 HW HR
      go_wp2_with (fail)
      refine (Read_any A3 L c3 w1 HB3.out (fun e => List.eq_nil_of_length_eq_zero (HB3.out.nilness (c := 0) (fun _ => rfl) e).1) (by omega)).mono ?_
      rintro r w2 ⟨d2, g2, rfl, hr, ⟨-, hg⟩, hk2⟩
      have HS2 := Lib.hid (show Str2 w L m B d d2 g2 0 w2 from ⟨⟨by rw [List.drop_zero, HCB.out]; exact hr, by rw [List.drop_zero, HCB.out]; exact HBY.out⟩, HW1.out.fresh hk2, hk2.own HR1.out fun _ _ => id, Nat.le_trans HW1.out.k.size hg⟩)
      clear hr hg hk2 HB3 HW1 HR1 HBY HCB
      go_wp2_with (fail)
      as_aux_lemma =>
      go_loopw [7] (fun i wr => ∃ k : Nat, i = .int .i64 k ∧ k ≤ m.length ∧ Str2 w L m B d d2 g2 k wr) (fun i _ => m.length - (intOf i).toNat)
      case atStart => exact ⟨0, rfl, Nat.zero_le _, HS2.out⟩
      case round =>
        obtain ⟨k, rfl, hk, hs⟩ := hrel
        have HS := Lib.hid hs
        clear hs HS2
        by_cases hlt : k < m.length
        · obtain ⟨gB, hB, hBo, -, -⟩ := own_cells HS.out.ro (by omega)
          subst hB
          obtain ⟨hok, hxa, hsm⟩ := HML.out m[k] (List.getElem_mem hlt)
          have HXA := Lib.hid hxa
          have HSM := Lib.hid hsm
          have hT := TakeS_any d2 g2 ⟨catE (m.drop k), 0⟩ wr HS.out.rd (fun _ => by rw [catE_drop m hlt, encL_ok hok, takeR_enc hok hsm]; exact hsm)
          rw [catE_drop m hlt, encL_ok hok, takeO_enc hok hsm] at hT
          have HT := Lib.hid hT
          clear hT hok hxa hsm hBo
          obtain ⟨cs, hcs⟩ : ∃ cs, m[k].c = cs := ⟨_, rfl⟩
          have HCS := Lib.hid hcs
          clear hcs
          go_wp2_with (fail)
          refine HT.out.mono ?_
          rintro r w3 ⟨y, gc, rfl, hyo, hya, -, -, -, hk3, hr3⟩
          have HS3 := Lib.hid (HS.out.took hk3 hr3)
          have HYO := Lib.hid (show y.o = m[k].o from hyo)
          have HYA := Lib.hid hya
          have HSY := Lib.hid (show y.c.size = 11 from rfl)
          have HON := Lib.hid (show y.c.all (·.oneCell') = true from Opr.cells_one _ _ _ _ _)
          obtain ⟨ys, hys⟩ : ∃ ys, y.c = ys := ⟨_, rfl⟩
          have HYS := Lib.hid hys
          rw [hys] at HSY HON ⊢
          clear hk3 hr3 hyo hya hys HS HT
          have hka : Kept (fun _ => False) w3 (w3.alloc (.cells zeroC 30)) := (Kept.refl _ _).alloc _
          have HBX := Lib.hid (Box.new w3 30 zeroC)
          go_wp2_with (refine wpList_store_box rfl 30 _ _ rfl w3.heap.size ys rfl rfl 30 zeroC HBX.out (by rw [HSY.out]; exact size_op) HSY.out.symm HON.out ?_; intro w4 HV4 hk4; refine Hid.out ?_)
          refine Lib.hid ?_
          have hk34 : Kept (fun _ => False) w3 w4 := hka.trans hk4 fun k hk e => by omega
          have HS4 := Lib.hid (HS3.out.fresh hk34)
          have HY4 := Lib.hid (HYA.out.fresh hk34)
          obtain ⟨M, hM⟩ : ∃ M, w3.heap.size = M := ⟨_, rfl⟩
          rw [hM] at HV4 ⊢
          clear hka hk4 hk34 HBX HS3 HYA hM
          go_upto_region 18 with (fail)
          have hkd : Kept (fun _ => False) w4 w4.drew := (Kept.refl _ _).drew
          have HSD := Lib.hid (HS4.out.fresh hkd)
          have HYD := Lib.hid (HY4.out.fresh hkd)
          have HVD := Lib.hid (HV4.out.kept hkd id)
          clear hkd HS4 HY4 HV4
          refine wp_region_held_drew (S := fun Wz => Kept (fun _ => False) w4.drew Wz) (by kernel_rfl) (Kept.refl _ _) fun hS => ?_
          generalize w4.drew = W at HSD HYD HVD hS ⊢
          refine held_takeTo 61 (i := 0) (v := .int .i64 0) rfl rfl (by kernel_rfl) (by kernel_rfl) (by kernel_rfl) (fun _ _ _ h => h) rfl hS (fun Wz hW => by go_simp) ?_
          simp only [List.setIfInBounds_toArray, List.set_cons_zero, List.set_cons_succ]
          refine held_takeTo 62 (i := 1) (v := .bool false) rfl rfl (by kernel_rfl) (by kernel_rfl) (by kernel_rfl) (fun _ _ _ h => h) rfl hS (fun Wz hW => by go_simp) ?_
          simp only [List.setIfInBounds_toArray, List.set_cons_zero, List.set_cons_succ]
          refine held_takeTo 63 (i := 2) (v := .bool false) rfl rfl (by kernel_rfl) (by kernel_rfl) (by kernel_rfl) (fun _ _ _ h => h) rfl hS (fun Wz hW => by go_simp) ?_
          simp only [List.setIfInBounds_toArray, List.set_cons_zero, List.set_cons_succ]
          refine held_takeG 64 (i := 3) (v := .agg ys) rfl rfl (by kernel_rfl) (by kernel_rfl) (by kernel_rfl) (fun _ _ _ h => h) (by rfl) hS (fun Wz hW => run_load_op _ _ rfl M rfl _ ys HSY.out (HVD.out.kept hW id)) ?_
          simp only [List.setIfInBounds_toArray, List.set_cons_zero, List.set_cons_succ]
          refine held_takeG 65 (i := 4) (v := .slice (some ⟨gB, 0, none⟩) m.length d) rfl rfl (by kernel_rfl) (by kernel_rfl) (by kernel_rfl) (fun _ _ _ h => h) (by rfl) hS (fun Wz hW => by go_simp) ?_
          simp only [List.setIfInBounds_toArray, List.set_cons_zero, List.set_cons_succ]
          refine held_takeG 66 (i := 5) (v := .int .i64 k) rfl rfl (by kernel_rfl) (by kernel_rfl) (by kernel_rfl) (fun _ _ _ h => h) (by rfl) hS (fun Wz hW => by go_simp) ?_
          simp only [List.setIfInBounds_toArray, List.set_cons_zero, List.set_cons_succ]
          refine held_takeG 67 (i := 6) (v := .pointer (some ⟨gB, k * 11, none⟩)) rfl rfl (by kernel_rfl) (by kernel_rfl) (by kernel_rfl) (fun _ _ _ h => h) (by rfl) hS (fun Wz hW => by go_simp) ?_
          simp only [List.setIfInBounds_toArray, List.set_cons_zero, List.set_cons_succ]
          refine held_takeG 68 (i := 7) (v := .agg cs) rfl rfl (by kernel_rfl) (by kernel_rfl) (by kernel_rfl) (fun _ _ _ h => h) (by rfl) hS (fun Wz hW => run_load_row _ _ rfl gB k rfl m (HSD.out.fresh hW).ro hlt cs HCS.out) ?_
          simp only [List.setIfInBounds_toArray, List.set_cons_zero, List.set_cons_succ]
          refine held_one (i := 8) (by kernel_rfl) rfl fun K hK => ?_
          go_wp2_with (fail)
          have hcall := Same8_any y m[k] W HYD.out (HXA.out.fresh HSD.out.wi.k) (by rw [HYO.out]; exact HSM.out.dl) (by rw [HYO.out]; exact HSM.out.gl)
          rw [HYS.out, HCS.out] at hcall
          refine hcall.mono ?_
          clear hcall
          rintro r v1 ⟨bb, rfl, hbb, hk⟩
          obtain rfl : bb = true := hbb.2 HYO.out
          have hS1 := hS.trans hk fun _ _ e => e
          clear hk hbb
          go_wp2_with (fail)
          refine hK.out _ _ hS1 fun _ => ?_
          clear hK K
          refine held_one (i := 9) (by kernel_rfl) rfl fun K hK => ?_
          go_wp2_with (fail)
          refine hK.out _ _ hS1 fun _ => ?_
          clear hK K
          refine held_one (i := 10) (by kernel_rfl) rfl fun K hK => ?_
          go_wp2_with (fail)
          refine hK.out _ _ hS1 fun _ => ?_
          clear hK K
          refine wpAnyH_done (by kernel_rfl) ?_ _
          have HS5 := Lib.hid (HSD.out.fresh hS1)
          go_wp2_with (fail)
          go_roundw
          case rel => exact ⟨k + 1, by go_num, by omega, HS5.out⟩
          case measure => simp [intOf]; omega
        · obtain rfl : k = m.length := by omega
          have HRE := Lib.hid HS.out.rd
          rw [List.drop_length] at HRE
          go_wp2_with (fail)
          refine (HS.out.wi.err).mono ?_
          rintro r w5 ⟨rfl, rfl⟩
          go_wp2_with (fail)
          refine (REnd_any d2 g2 _ wr HRE.out rfl rfl).mono ?_
          rintro r w5 ⟨rfl, rfl⟩
          have HKE := Lib.hid HS.out.wi.k
          go_wp2_with (fail)
          refine (Known8_any wr).mono ?_
          rintro r k5 ⟨rfl, hk⟩
          have HKF := Lib.hid (HKE.out.trans hk fun _ _ e => e)
          clear hk
          go_wp2_with (fail)
          go_ret
          exact ⟨rfl, HKF.out⟩
end Go.Proofs.Ytnlklhlnnoihiaa
