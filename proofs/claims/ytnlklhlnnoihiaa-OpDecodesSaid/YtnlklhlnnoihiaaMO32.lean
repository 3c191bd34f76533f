/- The walks of hearsayref8.Put and hearsayref8.Encode. Conditions: the bytes and the operation lie in memory; nothing is longer than a million. -/
import Derived.Test.YtnlklhlnnoihiaaMO31
namespace Go.Proofs.Ytnlklhlnnoihiaa
open Go Go.RowKit

theorem DotsAt.block_lt {w : World} {A : Option Addr} {l : List Dt} (h : DotsAt w A l) (hl : l ≠ []) : ∀ a, A = some a → a.block < w.heap.size := by
  rintro a rfl
  obtain ⟨ad, e, h0, _⟩ := h 0 (List.length_pos_iff.2 hl)
  injection e with e
  subst e
  have := World.block_lt_of_cell? w _ h0
  have hb : (a.add (0 * 2)).block = a.block := by unfold Addr.add; split <;> rfl
  rwa [hb] at this
theorem RunsAt.block_lt {w : World} {A : Option Addr} {l : List Rn} (h : RunsAt w A l) (hl : l ≠ []) : ∀ a, A = some a → a.block < w.heap.size := by
  rintro a rfl
  obtain ⟨ad, e, h0, _⟩ := h 0 (List.length_pos_iff.2 hl)
  injection e with e
  subst e
  have := World.block_lt_of_cell? w _ h0
  have hb : (a.add (0 * 3)).block = a.block := by unfold Addr.add; split <;> rfl
  rwa [hb] at this
/-- The reference's Writer in block g, the operation behind it, the result behind that. -/
structure RQAt (w : World) (g : Nat) (A0 : Option Addr) (l0 : List Int) (x : Lop) (l : List Int) (e : Int) (wr : World) : Prop where
  box : ∃ A c, Box wr g 75 (wrV A l c e) ∧ RB wr A l c ∧ Lies (g + 3) A0 l0 A l
  op : Box wr (g + 1) 30 x.c
  res : Box wr (g + 2) 75 (wrV none [] 0 0)
  at_ : x.At wr
  old : l0 ≠ [] → ∀ a, A0 = some a → a.block < g
  oldD : x.o.deps ≠ [] → ∀ a, x.dA = some a → a.block < g
  oldG : x.o.gone ≠ [] → ∀ a, x.gA = some a → a.block < g
  k : Kept (fun _ => False) w wr
  ge : w.heap.size ≤ g
section
variable {w : World} {g : Nat} {A0 : Option Addr} {l0 l : List Int} {x : Lop} {e : Int} {W W' : World}
theorem RQAt.fresh (h : RQAt w g A0 l0 x l e W) (hk : Kept (fun _ => False) W W') : RQAt w g A0 l0 x l e W' := by
  obtain ⟨A, c, hb, hr, hn⟩ := h.box
  exact ⟨⟨A, c, hb.kept hk id, hr.fresh hk, hn⟩, h.op.kept hk id, h.res.kept hk id, h.at_.fresh hk, h.old, h.oldD, h.oldG, h.k.trans hk fun _ _ e => e, h.ge⟩
theorem RQAt.off {A : Option Addr} (h0 : l0 ≠ [] → ∀ a, A0 = some a → a.block < g) (h : Lies (g + 3) A0 l0 A l) (hl : l ≠ []) : ∀ a, A = some a → ¬ (a.block = g ∨ a.block = g + 1 ∨ a.block = g + 2) := by
  intro a ha
  rcases h with ⟨rfl, rfl⟩ | h
  · have := h0 hl a ha; omega
  · have := h a ha; omega
theorem RQAt.keptG (h : RQAt w g A0 l0 x l e W) (hk : Kept (fun k => k = g) W W') : Box W' (g + 1) 30 x.c ∧ x.At W' := by
  refine ⟨h.op.kept hk (by omega), ?_, ?_⟩
  · by_cases hd : x.o.deps = []
    · rw [hd]; exact DotsAt.nil
    · exact h.at_.d.kept hk fun a ha => by have := h.oldD hd a ha; omega
  · exact h.at_.g.kept hk fun hl a ha => by have := h.oldG (List.length_pos_iff.1 hl) a ha; omega
theorem RQAt.store (h : RQAt w g A0 l0 x l e W) {A1 A : Option Addr} {l' : List Int} {e' : Int} {c : Nat} {W3 : World} (h1 : Lies (g + 3) A0 l0 A1 l) (hk : Kept (fun _ => False) W W') (hr : RB W' A l' c) (hL : Lies W.heap.size A1 l A l')
    (hb : Box W3 g 75 (wrV A l' c e')) (hk3 : Kept (fun k => k = g) W' W3) : RQAt w g A0 l0 x l' e' W3 := by
  have hs : g + 3 ≤ W.heap.size := by have := h.res.lt; omega
  have hL2 := h1.trans (hL.less hs)
  obtain ⟨k1, k2⟩ := (h.fresh hk).keptG hk3
  refine ⟨⟨A, c, hb, hr.kept hk3 fun hl a ha => ?_, hL2⟩, k1, (h.res.kept hk id).kept hk3 (by omega), k2, h.old, h.oldD, h.oldG, (h.k.trans hk fun _ _ e => e).trans hk3 fun k hlt e => ?_, h.ge⟩
  · have := RQAt.off h.old hL2 hl a ha; omega
  · have := h.ge; omega
/-- What a call that lays answers, and what is so once it is stored. -/
def RQPost (w : World) (g : Nat) (A0 : Option Addr) (l0 : List Int) (x : Lop) (cs : Array Value) (l1 : List Int) (e : Int) (r : Ending) (w1 : World) : Prop :=
  ∃ A1 c1, r = .returned (.agg (wrV A1 l1 c1 e)) ∧ Box w1 g 75 cs ∧ ∀ w2, Box w2 g 75 (wrV A1 l1 c1 e) → Kept (fun k => k = g) w1 w2 → RQAt w g A0 l0 x l1 e w2
theorem RQAt.post (h : RQAt w g A0 l0 x l e W) {A : Option Addr} {c : Nat} {l1 : List Int} (hb : Box W g 75 (wrV A l c e)) (hn : Lies (g + 3) A0 l0 A l) {r : Ending} {w1 : World} (hp : RWPost W A l l1 e r w1) : RQPost w g A0 l0 x (wrV A l c e) l1 e r w1 ∧ Kept (fun _ => False) W w1 := by
  obtain ⟨A1, c1, hr, hr1, hl1, hk1⟩ := hp
  exact ⟨⟨A1, c1, hr, hb.kept hk1 id, fun w2 hb2 hk2 => h.store hn hk1 hr1 hl1 hb2 hk2⟩, hk1⟩
/-- The cells of the Writer, and what the calls on it do. -/
theorem RQAt.num (h : RQAt w g A0 l0 x l e W) (n : Nat) (hn : n ≤ 9223372036854775807) (hl : l.length ≤ 1000000) (l1 : List Int) (h1 : layB l e (enc n) = l1) : ∃ A c, Box W g 75 (wrV A l c e) ∧
    ∀ W', Kept (fun _ => False) W W' → Calls Try.prog 39 #[.agg (wrV A l c e), .int .i64 n] W' fun r w1 => RQPost w g A0 l0 x (wrV A l c e) l1 e r w1 ∧ Kept (fun _ => False) W' w1 := by
  obtain ⟨A, c, hb, hr, hL⟩ := h.box
  refine ⟨A, c, hb, fun W' hk => (RWNum_any A l c e n W' (hr.fresh hk) hl (by omega)).mono fun r w1 hp => ?_⟩
  rw [(layB_num l e n).1, (layB_num l e n).2, h1] at hp
  exact (h.fresh hk).post (hb.kept hk id) hL hp
theorem RQAt.text (h : RQAt w g A0 l0 x l e W) (s : ByteArray) (hs : s.size ≤ 1000000) (hl : l.length ≤ 1000000) (l1 : List Int) (h1 : layB l e (enc s.size ++ tb s) = l1) : ∃ A c, Box W g 75 (wrV A l c e) ∧
    ∀ W', Kept (fun _ => False) W W' → Calls Try.prog 38 #[.agg (wrV A l c e), .string s] W' fun r w1 => RQPost w g A0 l0 x (wrV A l c e) l1 e r w1 ∧ Kept (fun _ => False) W' w1 := by
  obtain ⟨A, c, hb, hr, hL⟩ := h.box
  refine ⟨A, c, hb, fun W' hk => (RWText_any A l c e s W' (hr.fresh hk) hl hs).mono fun r w1 hp => ?_⟩
  rw [h1] at hp
  exact (h.fresh hk).post (hb.kept hk id) hL hp
theorem RQAt.dots (h : RQAt w g A0 l0 x l e W) (hlen : x.o.deps.length ≤ 4611686018427387904) (hc : checkV x.o.deps = 0) (hl : l.length ≤ 900000) (l1 : List Int) (h1 : layB l e (encs (vnums x.o.deps)) = l1) : ∃ A c, Box W g 75 (wrV A l c e) ∧
    ∀ W', Kept (fun _ => False) W W' → Calls Try.prog 64 #[.agg (wrV A l c e), .slice x.dA x.o.deps.length x.dc] W' fun r w1 => RQPost w g A0 l0 x (wrV A l c e) l1 e r w1 ∧ Kept (fun _ => False) W' w1 := by
  obtain ⟨A, c, hb, hr, hL⟩ := h.box
  refine ⟨A, c, hb, fun W' hk => (RPut_any A l c e x.dA x.o.deps x.dc W' (hr.fresh hk) (h.at_.fresh hk).d hlen hl).mono fun r w1 hp => ?_⟩
  rw [vec_says hc, layB_puts, h1] at hp
  exact (h.fresh hk).post (hb.kept hk id) hL hp
theorem RQAt.cell (h : RQAt w g A0 l0 x l e W) {cs : Array Value} (hc : x.c = cs) {j : Nat} {v : Value} (hj : cs[j]? = some v) : W.cell? ⟨g + 1, j, none⟩ = some v := by
  rw [h.op.cell j, hc]; exact hj
end
theorem wrV_0 (A : Option Addr) (l : List Int) (c : Nat) (e : Int) : (wrV A l c e)[0]? = some (.slice A l.length c) := rfl
theorem wrV_1 (A : Option Addr) (l : List Int) (c : Nat) (e : Int) : (wrV A l c e)[1]? = some (.int .i64 e) := rfl

set_option maxRecDepth 100000 in
set_option maxHeartbeats 3200000 in
theorem RPut8_no (A : Option Addr) (l : List Int) (c : Nat) (e : Int) (x : Lop) (w : World) (h : RB w A l c) (hx : x.At w) (hs : x.o.Small) (hok : okOp x.o = false) :
    Calls Try.prog 40 #[.agg #[.slice A l.length c, .int .i64 e], .agg x.c] w (RWPost w A l l e) := by
  have HC := Lib.hid (fun W (hW : x.At W) => RefCheck_any x.o x.dA x.gA x.dc x.gc W (hW.opr hs))
  have HXC := Lib.hid (show x.o.cells x.dA x.dc x.gA x.gc = x.c from rfl)
  have HE := Lib.hid (show opE x.o = 10 by unfold opE; rw [hok]; rfl)
  obtain ⟨cs, hcs⟩ : ∃ cs, x.c = cs := ⟨_, rfl⟩
  have HSZ := Lib.hid (show cs.size = 11 by rw [← hcs]; rfl)
  rw [hcs] at HXC ⊢
  have hk0 : Kept (fun _ => False) w (((w.alloc (.cells #[.slice A l.length c, .int .i64 e] 75)).alloc (.cells cs 30)).alloc (.cells #[.slice none 0 0, .int .i64 0] 75)) := (((Kept.refl _ _).alloc _).alloc _).alloc _
  have HK0 := Lib.hid hk0
  have HB := Lib.hid (((Box.new w 75 #[.slice A l.length c, .int .i64 e]).alloc (.cells cs 30)).alloc (.cells #[.slice none 0 0, .int .i64 0] 75))
  have HO := Lib.hid (((Box.new (w.alloc (.cells #[.slice A l.length c, .int .i64 e] 75)) 30 cs).at_eq (show _ = w.heap.size + 1 by simp)).alloc (.cells #[.slice none 0 0, .int .i64 0] 75))
  have HZ := Lib.hid ((Box.new ((w.alloc (.cells #[.slice A l.length c, .int .i64 e] 75)).alloc (.cells cs 30)) 75 #[.slice none 0 0, .int .i64 0]).at_eq (show _ = w.heap.size + 2 by simp))
  have HX := Lib.hid (hx.fresh hk0)
  have HBL := Lib.hid (fun hl a ha => h.block_lt hl a ha)
  have H := Lib.hid (h.fresh hk0)
  clear h hx hs hok hk0 hcs
  go_enter Try.func40, Try.ntmps40
  go_upto_region 1 with (fail)
  generalize World.alloc _ _ = w0 at HK0 HB HO HZ HX H ⊢
  go_wp2_with (refine wpList_load_op rfl _ rfl (w.heap.size + 1) rfl _ cs HSZ.out HO.out ?_)
  have hcall := HC.out w0 HX.out
  rw [HXC.out, HE.out] at hcall
  refine hcall.mono ?_
  unfold IntPost
  rintro r1 w1 ⟨rfl, hk1⟩
  have x0 : w1.cell? ⟨w.heap.size, 0, none⟩ = some (.slice A l.length c) := ((HB.out.kept hk1 id).cell 0).trans rfl
  have x1 : w1.cell? ⟨w.heap.size, 1, none⟩ = some (.int .i64 e) := ((HB.out.kept hk1 id).cell 1).trans rfl
  have HZ1 := Lib.hid (HZ.out.kept hk1 id)
  have HK1 := Lib.hid (HK0.out.trans hk1 fun _ _ e => e)
  have HR1 := Lib.hid (H.out.fresh hk1)
  clear hk1 hcall
  go_wp2_with (refine wpList_store_box rfl 75 _ _ rfl (w.heap.size + 2) (wrV A l c e) rfl rfl 75 (wrV none [] 0 0) HZ1.out (size_RW.trans rfl) rfl (wrV_one _ _ _ _) ?_; intro w8 HB8 hk8; refine Hid.out ?_)
  refine Lib.hid ?_
  have HR8 := Lib.hid (HR1.out.kept hk8 fun hl a ha e => by have := HBL.out hl a ha; omega)
  have HK8 := Lib.hid (HK1.out.trans hk8 fun k hk e => by omega)
  clear hk8 x0 x1
  go_wp2
  exact bodyPost_ret (results_cell_row (show Try.f40.results = #[.cell 4 75] by kernel_rfl) _ _ (w.heap.size + 2) 75 (wrV A l c e) (0, 0) _ rfl HB8.out Try.underlying75 rfl (size_RW.trans rfl)) rfl ⟨A, c, rfl, HR8.out, .inl ⟨rfl, rfl⟩, HK8.out⟩

set_option maxRecDepth 100000 in
set_option maxHeartbeats 3200000 in
theorem RPut8_ok (A : Option Addr) (l : List Int) (c : Nat) (e : Int) (x : Lop) (w : World) (h : RB w A l c) (hx : x.At w) (hs : x.o.Small) (hok : okOp x.o = true) (hl : l.length ≤ 800000) :
    Calls Try.prog 40 #[.agg #[.slice A l.length c, .int .i64 e], .agg x.c] w (RWPost w A l (layB l e (encOp x.o)) e) := by
  have HC := Lib.hid (fun W (hW : x.At W) => RefCheck_any x.o x.dA x.gA x.dc x.gc W (hW.opr hs))
  have HXC := Lib.hid (show x.o.cells x.dA x.dc x.gA x.gc = x.c from rfl)
  have HE := Lib.hid (show opE x.o = 0 by unfold opE; rw [hok]; rfl)
  have hf := okOp_f hok
  have HF := Lib.hid hf
  have HDV := Lib.hid hf.dv
  have hd1 := hf.s1
  have hd2 := hf.s2
  have hq1 := hf.q1
  have hq2 := hf.q2
  have hdl := hs.dl
  have htl := hs.tl
  have hvl : (encs (vnums x.o.deps)).length ≤ 9 * 33 := by
    have hv := vec_len (Row.says x.o.deps)
    rw [vec_says hf.dv] at hv
    refine Nat.le_trans (encs_le _ fun z hz => ?_) ?_
    · unfold vnums at hz
      rcases List.mem_cons.1 hz with rfl | hz
      · omega
      · have := dotNums_bd x.o.deps (by have := vec_ok (Row.says x.o.deps) 17 (Nat.le_refl _); rw [show vecTo (says x.o.deps) 17 = x.o.deps from vec_says hf.dv] at this; exact this) z hz
        omega
    · unfold vnums
      rw [List.length_cons, dotNums_len]
      omega
  obtain ⟨res, hres⟩ : ∃ res, layB l e (encOp x.o) = res := ⟨_, rfl⟩
  rw [hres]
  have HRES := Lib.hid hres
  obtain ⟨cs, hcs⟩ : ∃ cs, x.c = cs := ⟨_, rfl⟩
  have HSZ := Lib.hid (show cs.size = 11 by rw [← hcs]; rfl)
  have HX0 := Lib.hid (show x.c[0]? = some (.int .i64 x.o.dot.site) from rfl)
  have HX1 := Lib.hid (show x.c[1]? = some (.int .i64 x.o.dot.seq) from rfl)
  have HX2 := Lib.hid (show x.c[2]? = some (.slice x.dA x.o.deps.length x.dc) from rfl)
  have HX3 := Lib.hid (show x.c[3]? = some (.int .i64 x.o.kind) from rfl)
  have HX4 := Lib.hid (show x.c[4]? = some (.int .i64 x.o.id.time) from rfl)
  have HX6 := Lib.hid (show x.c[6]? = some (.int .i64 x.o.ref.time) from rfl)
  have HX7 := Lib.hid (show x.c[7]? = some (.int .i64 x.o.ref.site) from rfl)
  have HX8 := Lib.hid (show x.c[8]? = some (.string x.o.text) from rfl)
  have HX9 := Lib.hid (show x.c[9]? = some (.slice x.gA x.o.gone.length x.gc) from rfl)
  have HX10 := Lib.hid (show x.c[10]? = some (.int .i64 x.o.site) from rfl)
  have HCS := Lib.hid hcs
  rw [hcs] at HXC ⊢
  have hk0 : Kept (fun _ => False) w (((w.alloc (.cells #[.slice A l.length c, .int .i64 e] 75)).alloc (.cells cs 30)).alloc (.cells #[.slice none 0 0, .int .i64 0] 75)) := (((Kept.refl _ _).alloc _).alloc _).alloc _
  have HQ := Lib.hid (show RQAt w w.heap.size A l x l e (((w.alloc (.cells #[.slice A l.length c, .int .i64 e] 75)).alloc (.cells cs 30)).alloc (.cells #[.slice none 0 0, .int .i64 0] 75)) from
    ⟨⟨A, c, ((Box.new w _ _).alloc _).alloc _, h.fresh hk0, .inl ⟨rfl, rfl⟩⟩, by rw [hcs]; exact ((Box.new (w.alloc (.cells #[.slice A l.length c, .int .i64 e] 75)) 30 cs).at_eq (by simp)).alloc _,
     (Box.new ((w.alloc (.cells #[.slice A l.length c, .int .i64 e] 75)).alloc (.cells cs 30)) 75 #[.slice none 0 0, .int .i64 0]).at_eq (by simp), hx.fresh hk0, fun hl a ha => h.block_lt hl a ha, fun hl a ha => hx.d.block_lt hl a ha, fun hl a ha => hx.g.block_lt hl a ha, hk0, Nat.le_refl _⟩)
  have HW := Lib.hid (Kept.refl (fun _ => False) w)
  clear h hx hs hok hk0 hcs hres hf
  go_enter Try.func40, Try.ntmps40
  go_upto_region 1 with (fail)
  generalize World.alloc _ _ = w0 at HQ ⊢
  obtain ⟨g, hg⟩ : ∃ g, w.heap.size = g := ⟨_, rfl⟩
  have HG := Lib.hid hg
  rw [hg] at HQ ⊢
  clear hg
  have HOB := Lib.hid (show Box w0 (g + 1) 30 cs by rw [← HCS.out]; exact HQ.out.op)
  go_wp2_with (refine wpList_load_op rfl _ rfl (g + 1) rfl _ cs HSZ.out HOB.out ?_)
  have hcall := HC.out w0 HQ.out.at_
  rw [HXC.out, HE.out] at hcall
  refine hcall.mono ?_
  unfold IntPost
  rintro r1 w1 ⟨rfl, hk1⟩
  have HQ1 := Lib.hid (HQ.out.fresh hk1)
  clear hk1 hcall HC HXC HE HOB HQ
  have HQ := HQ1
  clear HQ1
  obtain ⟨st, hst⟩ : ∃ n : Nat, x.o.dot.site = n := ⟨x.o.dot.site.toNat, by omega⟩
  obtain ⟨sq, hsq⟩ : ∃ n : Nat, x.o.dot.seq = n := ⟨x.o.dot.seq.toNat, by omega⟩
  obtain ⟨kd, hkd⟩ : ∃ n : Nat, x.o.kind = n := ⟨x.o.kind.toNat, by rcases HF.out.kd with ⟨k, -⟩ | ⟨k, -⟩ | ⟨k, -⟩ | ⟨k, -⟩ <;> omega⟩
  have hkl : kd ≤ 4 := by rcases HF.out.kd with ⟨k, -⟩ | ⟨k, -⟩ | ⟨k, -⟩ | ⟨k, -⟩ <;> omega
  have HHEAD := Lib.hid (show encOp x.o = encs [kd, st, sq] ++ (encs (vnums x.o.deps) ++ encT x.o) by unfold encOp; rw [hst, hsq, hkd]; rfl)
  have HKD := Lib.hid hkd
  rw [hst] at HX0 hd1 hd2
  rw [hsq] at HX1 hq1 hq2
  rw [hkd] at HX3
  clear hst hsq hkd
  go_upto_region 3 with (fail)
  obtain ⟨l1, hl1⟩ : ∃ z, layB l e (enc kd) = z := ⟨_, rfl⟩
  have bl1 := layB_len l e (enc kd)
  have el1 := enc_len9 kd (by omega)
  rw [hl1] at bl1
  obtain ⟨A, c, hb, hcall⟩ := HQ.out.num kd (by omega) (by omega) l1 hl1
  have Hl1 := Lib.hid hl1
  clear hl1
  have x0 : w1.cell? ⟨g, 0, none⟩ = some (.slice A l.length c) := (hb.cell 0).trans (wrV_0 _ _ _ _)
  have x1 : w1.cell? ⟨g, 1, none⟩ = some (.int .i64 e) := (hb.cell 1).trans (wrV_1 _ _ _ _)
  have y3 := HQ.out.cell rfl HX3.out
  have HCALL := Lib.hid (hcall w1 (Kept.refl _ _))
  clear hb hcall
  go_wp2_with (fail)
  refine HCALL.out.mono ?_
  rintro r w1 ⟨⟨A1, c1, rfl, hb1, hst⟩, -⟩
  have HB1 := Lib.hid hb1
  have HST := Lib.hid hst
  clear hb1 hst HCALL x0 x1 y3
  go_wp2_with (refine wpList_store_box rfl 75 _ _ rfl g (wrV A1 l1 c1 e) rfl rfl 75 (wrV A l c e) HB1.out (size_RW.trans rfl) rfl (wrV_one _ _ _ _) ?_; intro w2 HB2 hk2; refine Hid.out ?_)
  refine Lib.hid ?_
  have HQ := Lib.hid (HST.out w2 HB2.out hk2)
  clear hk2 HB2 HST HB1
  go_upto_region 4 with (fail)
  obtain ⟨l2, hl2⟩ : ∃ z, layB l1 e (enc st) = z := ⟨_, rfl⟩
  have bl2 := layB_len l1 e (enc st)
  have el2 := enc_len9 st (by omega)
  rw [hl2] at bl2
  obtain ⟨A, c, hb, hcall⟩ := HQ.out.num st (by omega) (by omega) l2 hl2
  have Hl2 := Lib.hid hl2
  clear hl2
  have x0 : w2.cell? ⟨g, 0, none⟩ = some (.slice A l1.length c) := (hb.cell 0).trans (wrV_0 _ _ _ _)
  have x1 : w2.cell? ⟨g, 1, none⟩ = some (.int .i64 e) := (hb.cell 1).trans (wrV_1 _ _ _ _)
  have y0 := HQ.out.cell rfl HX0.out
  have HCALL := Lib.hid (hcall w2 (Kept.refl _ _))
  clear hb hcall
  go_wp2_with (fail)
  refine HCALL.out.mono ?_
  rintro r w1 ⟨⟨A1, c1, rfl, hb1, hst⟩, -⟩
  have HB1 := Lib.hid hb1
  have HST := Lib.hid hst
  clear hb1 hst HCALL x0 x1 y0
  go_wp2_with (refine wpList_store_box rfl 75 _ _ rfl g (wrV A1 l2 c1 e) rfl rfl 75 (wrV A l1 c e) HB1.out (size_RW.trans rfl) rfl (wrV_one _ _ _ _) ?_; intro w2 HB2 hk2; refine Hid.out ?_)
  refine Lib.hid ?_
  have HQ := Lib.hid (HST.out w2 HB2.out hk2)
  clear hk2 HB2 HST HB1
  go_upto_region 5 with (fail)
  obtain ⟨l3, hl3⟩ : ∃ z, layB l2 e (enc sq) = z := ⟨_, rfl⟩
  have bl3 := layB_len l2 e (enc sq)
  have el3 := enc_len9 sq (by omega)
  rw [hl3] at bl3
  obtain ⟨A, c, hb, hcall⟩ := HQ.out.num sq (by omega) (by omega) l3 hl3
  have Hl3 := Lib.hid hl3
  clear hl3
  have x0 : w2.cell? ⟨g, 0, none⟩ = some (.slice A l2.length c) := (hb.cell 0).trans (wrV_0 _ _ _ _)
  have x1 : w2.cell? ⟨g, 1, none⟩ = some (.int .i64 e) := (hb.cell 1).trans (wrV_1 _ _ _ _)
  have y1 := HQ.out.cell rfl HX1.out
  have HCALL := Lib.hid (hcall w2 (Kept.refl _ _))
  clear hb hcall
  go_wp2_with (fail)
  refine HCALL.out.mono ?_
  rintro r w1 ⟨⟨A1, c1, rfl, hb1, hst⟩, -⟩
  have HB1 := Lib.hid hb1
  have HST := Lib.hid hst
  clear hb1 hst HCALL x0 x1 y1
  go_wp2_with (refine wpList_store_box rfl 75 _ _ rfl g (wrV A1 l3 c1 e) rfl rfl 75 (wrV A l2 c e) HB1.out (size_RW.trans rfl) rfl (wrV_one _ _ _ _) ?_; intro w2 HB2 hk2; refine Hid.out ?_)
  refine Lib.hid ?_
  have HQ := Lib.hid (HST.out w2 HB2.out hk2)
  clear hk2 HB2 HST HB1
  go_upto_region 6 with (fail)
  obtain ⟨l4, hl4⟩ : ∃ z, layB l3 e (encs (vnums x.o.deps)) = z := ⟨_, rfl⟩
  have bl4 := layB_len l3 e (encs (vnums x.o.deps))
  rw [hl4] at bl4
  obtain ⟨A, c, hb, hcall⟩ := HQ.out.dots (by omega) HDV.out (by omega) l4 hl4
  have Hl4 := Lib.hid hl4
  clear hl4
  have x0 : w2.cell? ⟨g, 0, none⟩ = some (.slice A l3.length c) := (hb.cell 0).trans (wrV_0 _ _ _ _)
  have x1 : w2.cell? ⟨g, 1, none⟩ = some (.int .i64 e) := (hb.cell 1).trans (wrV_1 _ _ _ _)
  have y2 := HQ.out.cell rfl HX2.out
  have HCALL := Lib.hid (hcall w2 (Kept.refl _ _))
  clear hb hcall
  go_wp2_with (fail)
  refine HCALL.out.mono ?_
  rintro r w1 ⟨⟨A1, c1, rfl, hb1, hst⟩, -⟩
  have HB1 := Lib.hid hb1
  have HST := Lib.hid hst
  clear hb1 hst HCALL x0 x1 y2
  go_wp2_with (refine wpList_store_box rfl 75 _ _ rfl g (wrV A1 l4 c1 e) rfl rfl 75 (wrV A l3 c e) HB1.out (size_RW.trans rfl) rfl (wrV_one _ _ _ _) ?_; intro w2 HB2 hk2; refine Hid.out ?_)
  refine Lib.hid ?_
  have HQ := Lib.hid (HST.out w2 HB2.out hk2)
  clear hk2 HB2 HST HB1
  have y3 := HQ.out.cell rfl HX3.out
  rcases HF.out.kd with ⟨k1, hgo, hsi, hc0, hc1, hb, his, hid, hti, href, hlt⟩ | ⟨k2, hid, href, htx, hsi, hg0, hg1, hck⟩ | ⟨k3, hgo, hid, href, htx, hs1, hs2⟩ | ⟨k4, hgo, hid, href, htx, hsi⟩
  · obtain rfl : kd = 1 := by have := HKD.out; omega
    rw [okId_iff] at hid
    have hr0 : 0 ≤ x.o.ref.time ∧ x.o.ref.time ≤ 2147483647 ∧ 0 ≤ x.o.ref.site ∧ x.o.ref.site ≤ 16 := by
      rcases href with h | h
      · rw [h]; exact ⟨by decide, by decide, by decide, by decide⟩
      · rw [okId_iff] at h; omega
    have HT := Lib.hid (show encT x.o = encs [x.o.id.time.toNat, x.o.ref.time.toNat, x.o.ref.site.toNat] ++ (enc x.o.text.size ++ tb x.o.text) from if_pos k1)
    obtain ⟨it, hit⟩ : ∃ n : Nat, x.o.id.time = n := ⟨x.o.id.time.toNat, by omega⟩
    obtain ⟨rt, hrt⟩ : ∃ n : Nat, x.o.ref.time = n := ⟨x.o.ref.time.toNat, by omega⟩
    obtain ⟨rs, hrs⟩ : ∃ n : Nat, x.o.ref.site = n := ⟨x.o.ref.site.toNat, by omega⟩
    rw [hit] at HX4 HT hid
    rw [hrt] at HX6 HT hr0
    rw [hrs] at HX7 HT hr0
    simp only [Int.toNat_natCast] at HT
    clear hit hrt hrs hti hlt href hb his hc0 hc1 k1
    go_upto_region 9 with (fail)
    clear y3
    obtain ⟨l5, hl5⟩ : ∃ z, layB l4 e (enc it) = z := ⟨_, rfl⟩
    have bl5 := layB_len l4 e (enc it)
    have el5 := enc_len9 it (by omega)
    rw [hl5] at bl5
    obtain ⟨A, c, hb, hcall⟩ := HQ.out.num it (by omega) (by omega) l5 hl5
    have Hl5 := Lib.hid hl5
    clear hl5
    have x0 : w2.cell? ⟨g, 0, none⟩ = some (.slice A l4.length c) := (hb.cell 0).trans (wrV_0 _ _ _ _)
    have x1 : w2.cell? ⟨g, 1, none⟩ = some (.int .i64 e) := (hb.cell 1).trans (wrV_1 _ _ _ _)
    have y4 := HQ.out.cell rfl HX4.out
    have HCALL := Lib.hid (hcall w2 (Kept.refl _ _))
    clear hb hcall
    go_wp2_with (fail)
    refine HCALL.out.mono ?_
    rintro r w1 ⟨⟨A1, c1, rfl, hb1, hst⟩, -⟩
    have HB1 := Lib.hid hb1
    have HST := Lib.hid hst
    clear hb1 hst HCALL x0 x1 y4
    go_wp2_with (refine wpList_store_box rfl 75 _ _ rfl g (wrV A1 l5 c1 e) rfl rfl 75 (wrV A l4 c e) HB1.out (size_RW.trans rfl) rfl (wrV_one _ _ _ _) ?_; intro w2 HB2 hk2; refine Hid.out ?_)
    refine Lib.hid ?_
    have HQ := Lib.hid (HST.out w2 HB2.out hk2)
    clear hk2 HB2 HST HB1
    go_upto_region 10 with (fail)
    obtain ⟨l6, hl6⟩ : ∃ z, layB l5 e (enc rt) = z := ⟨_, rfl⟩
    have bl6 := layB_len l5 e (enc rt)
    have el6 := enc_len9 rt (by omega)
    rw [hl6] at bl6
    obtain ⟨A, c, hb, hcall⟩ := HQ.out.num rt (by omega) (by omega) l6 hl6
    have Hl6 := Lib.hid hl6
    clear hl6
    have x0 : w2.cell? ⟨g, 0, none⟩ = some (.slice A l5.length c) := (hb.cell 0).trans (wrV_0 _ _ _ _)
    have x1 : w2.cell? ⟨g, 1, none⟩ = some (.int .i64 e) := (hb.cell 1).trans (wrV_1 _ _ _ _)
    have y6 := HQ.out.cell rfl HX6.out
    have HCALL := Lib.hid (hcall w2 (Kept.refl _ _))
    clear hb hcall
    go_wp2_with (fail)
    refine HCALL.out.mono ?_
    rintro r w1 ⟨⟨A1, c1, rfl, hb1, hst⟩, -⟩
    have HB1 := Lib.hid hb1
    have HST := Lib.hid hst
    clear hb1 hst HCALL x0 x1 y6
    go_wp2_with (refine wpList_store_box rfl 75 _ _ rfl g (wrV A1 l6 c1 e) rfl rfl 75 (wrV A l5 c e) HB1.out (size_RW.trans rfl) rfl (wrV_one _ _ _ _) ?_; intro w2 HB2 hk2; refine Hid.out ?_)
    refine Lib.hid ?_
    have HQ := Lib.hid (HST.out w2 HB2.out hk2)
    clear hk2 HB2 HST HB1
    go_upto_region 11 with (fail)
    obtain ⟨l7, hl7⟩ : ∃ z, layB l6 e (enc rs) = z := ⟨_, rfl⟩
    have bl7 := layB_len l6 e (enc rs)
    have el7 := enc_len9 rs (by omega)
    rw [hl7] at bl7
    obtain ⟨A, c, hb, hcall⟩ := HQ.out.num rs (by omega) (by omega) l7 hl7
    have Hl7 := Lib.hid hl7
    clear hl7
    have x0 : w2.cell? ⟨g, 0, none⟩ = some (.slice A l6.length c) := (hb.cell 0).trans (wrV_0 _ _ _ _)
    have x1 : w2.cell? ⟨g, 1, none⟩ = some (.int .i64 e) := (hb.cell 1).trans (wrV_1 _ _ _ _)
    have y7 := HQ.out.cell rfl HX7.out
    have HCALL := Lib.hid (hcall w2 (Kept.refl _ _))
    clear hb hcall
    go_wp2_with (fail)
    refine HCALL.out.mono ?_
    rintro r w1 ⟨⟨A1, c1, rfl, hb1, hst⟩, -⟩
    have HB1 := Lib.hid hb1
    have HST := Lib.hid hst
    clear hb1 hst HCALL x0 x1 y7
    go_wp2_with (refine wpList_store_box rfl 75 _ _ rfl g (wrV A1 l7 c1 e) rfl rfl 75 (wrV A l6 c e) HB1.out (size_RW.trans rfl) rfl (wrV_one _ _ _ _) ?_; intro w2 HB2 hk2; refine Hid.out ?_)
    refine Lib.hid ?_
    have HQ := Lib.hid (HST.out w2 HB2.out hk2)
    clear hk2 HB2 HST HB1
    go_upto_region 12 with (fail)
    obtain ⟨l8, hl8⟩ : ∃ z, layB l7 e (enc x.o.text.size ++ tb x.o.text) = z := ⟨_, rfl⟩
    obtain ⟨A, c, hb, hcall⟩ := HQ.out.text x.o.text (by omega) (by omega) l8 hl8
    have Hl8 := Lib.hid hl8
    clear hl8
    have x0 : w2.cell? ⟨g, 0, none⟩ = some (.slice A l7.length c) := (hb.cell 0).trans (wrV_0 _ _ _ _)
    have x1 : w2.cell? ⟨g, 1, none⟩ = some (.int .i64 e) := (hb.cell 1).trans (wrV_1 _ _ _ _)
    have y8 := HQ.out.cell rfl HX8.out
    have HCALL := Lib.hid (hcall w2 (Kept.refl _ _))
    clear hb hcall
    go_wp2_with (fail)
    refine HCALL.out.mono ?_
    rintro r w1 ⟨⟨A1, c1, rfl, hb1, hst⟩, -⟩
    have HB1 := Lib.hid hb1
    have HST := Lib.hid hst
    clear hb1 hst HCALL x0 x1 y8
    go_wp2_with (refine wpList_store_box rfl 75 _ _ rfl g (wrV A1 l8 c1 e) rfl rfl 75 (wrV A l7 c e) HB1.out (size_RW.trans rfl) rfl (wrV_one _ _ _ _) ?_; intro w2 HB2 hk2; refine Hid.out ?_)
    refine Lib.hid ?_
    have HQ := Lib.hid (HST.out w2 HB2.out hk2)
    clear hk2 HB2 HST HB1
    obtain ⟨A, c, hb, hr, hn⟩ := HQ.out.box
    have x0 : w2.cell? ⟨g, 0, none⟩ = some (.slice A l8.length c) := (hb.cell 0).trans (wrV_0 _ _ _ _)
    have x1 : w2.cell? ⟨g, 1, none⟩ = some (.int .i64 e) := (hb.cell 1).trans (wrV_1 _ _ _ _)
    have HR9 := Lib.hid hr
    have HN9 := Lib.hid hn
    have HRS := Lib.hid HQ.out.res
    clear hb hr hn
    have HRE := Lib.hid (show l8 = res from by rw [← HRES.out, HHEAD.out, ← Hl8.out, ← Hl7.out, ← Hl6.out, ← Hl5.out, ← Hl4.out, ← Hl3.out, ← Hl2.out, ← Hl1.out, HT.out]; simp only [layB_app]; simp [encs, List.append_assoc])
    go_wp2_with (refine wpList_store_box rfl 75 _ _ rfl (g + 2) (wrV A l8 c e) rfl rfl 75 (wrV none [] 0 0) HRS.out (size_RW.trans rfl) rfl (wrV_one _ _ _ _) ?_; intro w9 HB9 hk9; refine Hid.out ?_)
    refine Lib.hid ?_
    have HK9 := Lib.hid hk9
    clear hk9 x0 x1
    go_wp2_with (fail)
    refine bodyPost_ret (results_cell_row (show Try.f40.results = #[.cell 4 75] by kernel_rfl) _ _ (g + 2) 75 (wrV A l8 c e) (0, 0) _ rfl HB9.out Try.underlying75 rfl (size_RW.trans rfl)) rfl ?_
    rw [← HRE.out]
    refine ⟨A, c, rfl, HR9.out.kept HK9.out fun hl a ha => ?_, by rw [HG.out]; exact HN9.out.less (by omega), HQ.out.k.trans HK9.out fun k hlt e => ?_⟩
    · have := RQAt.off HQ.out.old HN9.out hl a ha
      omega
    · have := HQ.out.ge
      omega
  · obtain rfl : kd = 2 := by have := HKD.out; omega
    have HOKR := Lib.hid (chkR_all _ _ hck)
    have HT := Lib.hid (show encT x.o = encs (x.o.gone.length :: goneNums x.o.gone) by unfold encT; rw [if_neg (by rw [k2]; decide), if_pos k2])
    clear hid href htx hsi hck k2
    go_upto_region 14 with (fail)
    clear y3
    obtain ⟨l5, hl5⟩ : ∃ z, layB l4 e (enc x.o.gone.length) = z := ⟨_, rfl⟩
    have bl5 := layB_len l4 e (enc x.o.gone.length)
    have el5 := enc_len9 x.o.gone.length (by omega)
    rw [hl5] at bl5
    obtain ⟨A, c, hb, hcall⟩ := HQ.out.num x.o.gone.length (by omega) (by omega) l5 hl5
    have Hl5 := Lib.hid hl5
    clear hl5
    have x0 : w2.cell? ⟨g, 0, none⟩ = some (.slice A l4.length c) := (hb.cell 0).trans (wrV_0 _ _ _ _)
    have x1 : w2.cell? ⟨g, 1, none⟩ = some (.int .i64 e) := (hb.cell 1).trans (wrV_1 _ _ _ _)
    have y9 := HQ.out.cell rfl HX9.out
    have HCALL := Lib.hid (hcall w2 (Kept.refl _ _))
    clear hb hcall
    go_wp2_with (fail)
    refine HCALL.out.mono ?_
    rintro r w1 ⟨⟨A1, c1, rfl, hb1, hst⟩, -⟩
    have HB1 := Lib.hid hb1
    have HST := Lib.hid hst
    clear hb1 hst HCALL x0 x1 y9
    go_wp2_with (refine wpList_store_box rfl 75 _ _ rfl g (wrV A1 l5 c1 e) rfl rfl 75 (wrV A l4 c e) HB1.out (size_RW.trans rfl) rfl (wrV_one _ _ _ _) ?_; intro w2 HB2 hk2; refine Hid.out ?_)
    refine Lib.hid ?_
    have HQ := Lib.hid (HST.out w2 HB2.out hk2)
    clear hk2 HB2 HST HB1
    have HQ0 := Lib.hid (show RQAt w g _ l x (layB l5 e (encs (goneNums (x.o.gone.take 0)))) e w2 by rw [show encs (goneNums (x.o.gone.take 0)) = [] from rfl, layB_nil]; exact HQ.out)
    have hll5 : l5.length ≤ 800000 + 400 := by omega
    go_wp2_with (fail)
    go_loopw [5] (fun i wr => ∃ k : Nat, i = .int .i64 k ∧ k ≤ x.o.gone.length ∧ RQAt w g _ l x (layB l5 e (encs (goneNums (x.o.gone.take k)))) e wr) (fun i _ => x.o.gone.length - (intOf i).toNat)
    case atStart => exact ⟨0, rfl, Nat.zero_le _, HQ0.out⟩
    case round =>
      clear HQ0 HQ
      obtain ⟨k, rfl, hk, hq⟩ := hrel
      have HQ := Lib.hid hq
      have y9 := hq.cell rfl HX9.out
      clear hq
      have hll := layB_len l5 e (encs (goneNums (x.o.gone.take k)))
      have hel : (encs (goneNums (x.o.gone.take k))).length ≤ 9 * (3 * 1024) := by
        refine Nat.le_trans (encs_le _ fun z hz => ?_) ?_
        · have := goneNums_bd (x.o.gone.take k) (fun r hr => HOKR.out r (List.mem_of_mem_take hr)) z hz
          omega
        · have h1 := goneNums_len (x.o.gone.take k)
          have h2 := List.length_take_le k x.o.gone
          omega
      by_cases hlt : k < x.o.gone.length
      · obtain ⟨ad, hA, -⟩ := HQ.out.at_.g k hlt
        have HX9' := Lib.hid HX9.out
        rw [hA] at HX9' y9
        have HAT := Lib.hid (fun (Wz : World) (h : x.At Wz) => show Wz.cell? (ad.add (k * 3)) = some (.int .i64 x.o.gone[k].id.time) ∧ Wz.cell? ⟨(ad.add (k * 3)).block, (ad.add (k * 3)).off + 1, none⟩ = some (.int .i64 x.o.gone[k].id.site) ∧ Wz.cell? ⟨(ad.add (k * 3)).block, (ad.add (k * 3)).off + 2, none⟩ = some (.int .i64 x.o.gone[k].count) by
          obtain ⟨ad', e', hh⟩ := h.g k hlt
          rw [hA] at e'
          injection e' with e'
          subst e'
          exact hh)
        have hsn := goneNums_snoc x.o.gone k hlt
        have hok := HOKR.out x.o.gone[k] (List.getElem_mem hlt)
        generalize x.o.gone[k] = q at HAT hsn hok
        obtain ⟨⟨t, s⟩, n⟩ := q
        simp only at HAT hsn
        rw [okRn_iff, okId_iff] at hok
        simp only at hok
        obtain ⟨t', rfl⟩ : ∃ n : Nat, t = n := ⟨t.toNat, by omega⟩
        obtain ⟨s', rfl⟩ : ∃ n : Nat, s = n := ⟨s.toNat, by omega⟩
        obtain ⟨n', rfl⟩ : ∃ n' : Nat, n = n' := ⟨n.toNat, by omega⟩
        simp only [Int.toNat_natCast] at hsn
        have HSN := Lib.hid hsn
        obtain ⟨m0, hm0⟩ : ∃ z, layB l5 e (encs (goneNums (x.o.gone.take k))) = z := ⟨_, rfl⟩
        rw [hm0] at HQ hll
        have HM0 := Lib.hid hm0
        have hk0 : (0 : Int) ≤ (k : Int) := by omega
        have hk1' : (k : Int) < (x.o.gone.length : Int) := by omega
        have hk2 : ¬ ((x.o.gone.length : Int) ≤ (k : Int)) := by omega
        clear hsn hm0 hA
        go_upto_region 18 with (fail)
        clear y9
        obtain ⟨m1, hm1⟩ : ∃ z, layB m0 e (enc t') = z := ⟨_, rfl⟩
        have bm1 := layB_len m0 e (enc t')
        have em1 := enc_len9 t' (by omega)
        rw [hm1] at bm1
        have HQD := Lib.hid (HQ.out.fresh (Kept.refl (fun _ => False) wr).drew)
        clear HQ
        refine wp_region_held_drew (S := fun Wz => Kept (fun k => k = g) wr.drew Wz) (by kernel_rfl) (Kept.refl _ _) fun hS => ?_
        generalize wr.drew = W at HQD hS ⊢
        have HQ := HQD
        clear HQD
        obtain ⟨A, c, hb, hcall⟩ := HQ.out.num t' (by omega) (by omega) m1 hm1
        have Hm1 := Lib.hid hm1
        have x0 : W.cell? ⟨g, 0, none⟩ = some (.slice A m0.length c) := (hb.cell 0).trans (wrV_0 _ _ _ _)
        have x1 : W.cell? ⟨g, 1, none⟩ = some (.int .i64 e) := (hb.cell 1).trans (wrV_1 _ _ _ _)
        have HCALL := Lib.hid (hcall W (Kept.refl _ _))
        clear hb hcall hm1
        have HB9 := Lib.hid (fun Wz (hW : Kept (fun k => k = g) W Wz) => ((HQ.out.keptG hW).1.cell 9).trans HX9'.out)
        have HBG := Lib.hid (fun Wz (hW : Kept (fun k => k = g) W Wz) => HAT.out Wz (HQ.out.keptG hW).2)
        refine held_takeTo 66 (i := 1) (v := .pointer (some ⟨g + 1, 9, none⟩)) rfl rfl (by kernel_rfl) (by kernel_rfl) (by kernel_rfl) (fun _ _ _ h => h) rfl hS (fun Wz hW => by go_simp) ?_
        simp only [List.setIfInBounds_toArray, List.set_cons_zero, List.set_cons_succ]
        refine held_takeTo 67 (i := 2) (v := .slice (some ad) x.o.gone.length x.gc) rfl rfl (by kernel_rfl) (by kernel_rfl) (by kernel_rfl) (fun _ _ _ h => h) rfl hS (fun Wz hW => by (have h0 := HB9.out Wz hW; go_simp)) ?_
        simp only [List.setIfInBounds_toArray, List.set_cons_zero, List.set_cons_succ]
        refine held_takeTo 68 (i := 3) (v := .int .i64 k) rfl rfl (by kernel_rfl) (by kernel_rfl) (by kernel_rfl) (fun _ _ _ h => h) rfl hS (fun Wz hW => by go_simp) ?_
        simp only [List.setIfInBounds_toArray, List.set_cons_zero, List.set_cons_succ]
        refine held_takeTo 69 (i := 4) (v := .pointer (some (ad.add (k * 3)))) rfl rfl (by kernel_rfl) (by kernel_rfl) (by kernel_rfl) (fun _ _ _ h => h) rfl hS (fun Wz hW => by go_simp) ?_
        simp only [List.setIfInBounds_toArray, List.set_cons_zero, List.set_cons_succ]
        refine held_takeTo 70 (i := 5) (v := .pointer (some (ad.add (k * 3)))) rfl rfl (by kernel_rfl) (by kernel_rfl) (by kernel_rfl) (fun _ _ _ h => h) rfl hS (fun Wz hW => by go_simp) ?_
        simp only [List.setIfInBounds_toArray, List.set_cons_zero, List.set_cons_succ]
        refine held_takeTo 71 (i := 6) (v := .pointer (some (ad.add (k * 3)))) rfl rfl (by kernel_rfl) (by kernel_rfl) (by kernel_rfl) (fun _ _ _ h => h) rfl hS (fun Wz hW => by go_simp) ?_
        simp only [List.setIfInBounds_toArray, List.set_cons_zero, List.set_cons_succ]
        refine held_takeTo 72 (i := 7) (v := .int .i64 (t' : Int)) rfl rfl (by kernel_rfl) (by kernel_rfl) (by kernel_rfl) (fun _ _ _ h => h) rfl hS (fun Wz hW => by (obtain ⟨h0, h1, h2⟩ := HBG.out Wz hW; go_simp)) ?_
        simp only [List.setIfInBounds_toArray, List.set_cons_zero, List.set_cons_succ]
        refine held_one (i := 0) (by kernel_rfl) rfl fun K hK => ?_
        go_wp2_with (fail)
        refine hK.out _ _ hS fun _ => ?_
        clear hK K
        refine held_one (i := 8) (by kernel_rfl) rfl fun K hK => ?_
        go_wp2_with (fail)
        refine HCALL.out.mono ?_
        rintro r w1 ⟨⟨A1, c1, rfl, hb1, hst⟩, hk1⟩
        have HB1 := Lib.hid hb1
        have HST := Lib.hid hst
        have hS1 : Kept (fun k => k = g) W w1 := hk1.more fun _ _ e => e.elim
        clear hb1 hst HCALL x0 x1 hk1
        go_wp2_with (fail)
        refine hK.out _ _ hS1 fun _ => ?_
        clear hK K
        refine held_one (i := 9) (by kernel_rfl) rfl fun K hK => ?_
        go_wp2_with (refine wpList_store_box rfl 75 _ _ rfl g (wrV A1 m1 c1 e) rfl rfl 75 (wrV A m0 c e) HB1.out (size_RW.trans rfl) rfl (wrV_one _ _ _ _) ?_; intro w2 HB2 hk2)
        have HQ := Lib.hid (HST.out w2 HB2.out hk2)
        have hS2 : Kept (fun k => k = g) W w2 := hS1.trans hk2 fun _ _ e => e
        clear hk2 HB2 HST HB1
        simp only [List.getElem_toArray, List.getElem_cons_succ, List.getElem_cons_zero, Act.put]
        refine hK.out _ _ hS2 fun _ => ?_
        clear hK K
        refine wpAnyH_done (by kernel_rfl) ?_ _
        clear hS hS1 hS2 HB9 HBG
        go_upto_region 19 with (fail)
        obtain ⟨m2, hm2⟩ : ∃ z, layB m1 e (enc s') = z := ⟨_, rfl⟩
        have bm2 := layB_len m1 e (enc s')
        have em2 := enc_len9 s' (by omega)
        rw [hm2] at bm2
        have HQD := Lib.hid (HQ.out.fresh (Kept.refl (fun _ => False) w2).drew)
        clear HQ
        refine wp_region_held_drew (S := fun Wz => Kept (fun k => k = g) w2.drew Wz) (by kernel_rfl) (Kept.refl _ _) fun hS => ?_
        generalize w2.drew = W at HQD hS ⊢
        have HQ := HQD
        clear HQD
        obtain ⟨A, c, hb, hcall⟩ := HQ.out.num s' (by omega) (by omega) m2 hm2
        have Hm2 := Lib.hid hm2
        have x0 : W.cell? ⟨g, 0, none⟩ = some (.slice A m1.length c) := (hb.cell 0).trans (wrV_0 _ _ _ _)
        have x1 : W.cell? ⟨g, 1, none⟩ = some (.int .i64 e) := (hb.cell 1).trans (wrV_1 _ _ _ _)
        have HCALL := Lib.hid (hcall W (Kept.refl _ _))
        clear hb hcall hm2
        have HB9 := Lib.hid (fun Wz (hW : Kept (fun k => k = g) W Wz) => ((HQ.out.keptG hW).1.cell 9).trans HX9'.out)
        have HBG := Lib.hid (fun Wz (hW : Kept (fun k => k = g) W Wz) => HAT.out Wz (HQ.out.keptG hW).2)
        refine held_takeTo 75 (i := 1) (v := .pointer (some ⟨g + 1, 9, none⟩)) rfl rfl (by kernel_rfl) (by kernel_rfl) (by kernel_rfl) (fun _ _ _ h => h) rfl hS (fun Wz hW => by go_simp) ?_
        simp only [List.setIfInBounds_toArray, List.set_cons_zero, List.set_cons_succ]
        refine held_takeTo 76 (i := 2) (v := .slice (some ad) x.o.gone.length x.gc) rfl rfl (by kernel_rfl) (by kernel_rfl) (by kernel_rfl) (fun _ _ _ h => h) rfl hS (fun Wz hW => by (have h0 := HB9.out Wz hW; go_simp)) ?_
        simp only [List.setIfInBounds_toArray, List.set_cons_zero, List.set_cons_succ]
        refine held_takeTo 77 (i := 3) (v := .int .i64 k) rfl rfl (by kernel_rfl) (by kernel_rfl) (by kernel_rfl) (fun _ _ _ h => h) rfl hS (fun Wz hW => by go_simp) ?_
        simp only [List.setIfInBounds_toArray, List.set_cons_zero, List.set_cons_succ]
        refine held_takeTo 78 (i := 4) (v := .pointer (some (ad.add (k * 3)))) rfl rfl (by kernel_rfl) (by kernel_rfl) (by kernel_rfl) (fun _ _ _ h => h) rfl hS (fun Wz hW => by go_simp) ?_
        simp only [List.setIfInBounds_toArray, List.set_cons_zero, List.set_cons_succ]
        refine held_takeTo 79 (i := 5) (v := .pointer (some (ad.add (k * 3)))) rfl rfl (by kernel_rfl) (by kernel_rfl) (by kernel_rfl) (fun _ _ _ h => h) rfl hS (fun Wz hW => by go_simp) ?_
        simp only [List.setIfInBounds_toArray, List.set_cons_zero, List.set_cons_succ]
        refine held_takeTo 80 (i := 6) (v := .pointer (some ⟨(ad.add (k * 3)).block, (ad.add (k * 3)).off + 1, none⟩)) rfl rfl (by kernel_rfl) (by kernel_rfl) (by kernel_rfl) (fun _ _ _ h => h) rfl hS (fun Wz hW => by go_simp) ?_
        simp only [List.setIfInBounds_toArray, List.set_cons_zero, List.set_cons_succ]
        refine held_takeTo 81 (i := 7) (v := .int .i64 (s' : Int)) rfl rfl (by kernel_rfl) (by kernel_rfl) (by kernel_rfl) (fun _ _ _ h => h) rfl hS (fun Wz hW => by (obtain ⟨h0, h1, h2⟩ := HBG.out Wz hW; go_simp)) ?_
        simp only [List.setIfInBounds_toArray, List.set_cons_zero, List.set_cons_succ]
        refine held_one (i := 0) (by kernel_rfl) rfl fun K hK => ?_
        go_wp2_with (fail)
        refine hK.out _ _ hS fun _ => ?_
        clear hK K
        refine held_one (i := 8) (by kernel_rfl) rfl fun K hK => ?_
        go_wp2_with (fail)
        refine HCALL.out.mono ?_
        rintro r w1 ⟨⟨A1, c1, rfl, hb1, hst⟩, hk1⟩
        have HB1 := Lib.hid hb1
        have HST := Lib.hid hst
        have hS1 : Kept (fun k => k = g) W w1 := hk1.more fun _ _ e => e.elim
        clear hb1 hst HCALL x0 x1 hk1
        go_wp2_with (fail)
        refine hK.out _ _ hS1 fun _ => ?_
        clear hK K
        refine held_one (i := 9) (by kernel_rfl) rfl fun K hK => ?_
        go_wp2_with (refine wpList_store_box rfl 75 _ _ rfl g (wrV A1 m2 c1 e) rfl rfl 75 (wrV A m1 c e) HB1.out (size_RW.trans rfl) rfl (wrV_one _ _ _ _) ?_; intro w2 HB2 hk2)
        have HQ := Lib.hid (HST.out w2 HB2.out hk2)
        have hS2 : Kept (fun k => k = g) W w2 := hS1.trans hk2 fun _ _ e => e
        clear hk2 HB2 HST HB1
        simp only [List.getElem_toArray, List.getElem_cons_succ, List.getElem_cons_zero, Act.put]
        refine hK.out _ _ hS2 fun _ => ?_
        clear hK K
        refine wpAnyH_done (by kernel_rfl) ?_ _
        clear hS hS1 hS2 HB9 HBG
        go_upto_region 20 with (fail)
        obtain ⟨m3, hm3⟩ : ∃ z, layB m2 e (enc n') = z := ⟨_, rfl⟩
        have bm3 := layB_len m2 e (enc n')
        have em3 := enc_len9 n' (by omega)
        rw [hm3] at bm3
        have HQD := Lib.hid (HQ.out.fresh (Kept.refl (fun _ => False) w2).drew)
        clear HQ
        refine wp_region_held_drew (S := fun Wz => Kept (fun k => k = g) w2.drew Wz) (by kernel_rfl) (Kept.refl _ _) fun hS => ?_
        generalize w2.drew = W at HQD hS ⊢
        have HQ := HQD
        clear HQD
        obtain ⟨A, c, hb, hcall⟩ := HQ.out.num n' (by omega) (by omega) m3 hm3
        have Hm3 := Lib.hid hm3
        have x0 : W.cell? ⟨g, 0, none⟩ = some (.slice A m2.length c) := (hb.cell 0).trans (wrV_0 _ _ _ _)
        have x1 : W.cell? ⟨g, 1, none⟩ = some (.int .i64 e) := (hb.cell 1).trans (wrV_1 _ _ _ _)
        have HCALL := Lib.hid (hcall W (Kept.refl _ _))
        clear hb hcall hm3
        have HB9 := Lib.hid (fun Wz (hW : Kept (fun k => k = g) W Wz) => ((HQ.out.keptG hW).1.cell 9).trans HX9'.out)
        have HBG := Lib.hid (fun Wz (hW : Kept (fun k => k = g) W Wz) => HAT.out Wz (HQ.out.keptG hW).2)
        refine held_takeTo 84 (i := 1) (v := .pointer (some ⟨g + 1, 9, none⟩)) rfl rfl (by kernel_rfl) (by kernel_rfl) (by kernel_rfl) (fun _ _ _ h => h) rfl hS (fun Wz hW => by go_simp) ?_
        simp only [List.setIfInBounds_toArray, List.set_cons_zero, List.set_cons_succ]
        refine held_takeTo 85 (i := 2) (v := .slice (some ad) x.o.gone.length x.gc) rfl rfl (by kernel_rfl) (by kernel_rfl) (by kernel_rfl) (fun _ _ _ h => h) rfl hS (fun Wz hW => by (have h0 := HB9.out Wz hW; go_simp)) ?_
        simp only [List.setIfInBounds_toArray, List.set_cons_zero, List.set_cons_succ]
        refine held_takeTo 86 (i := 3) (v := .int .i64 k) rfl rfl (by kernel_rfl) (by kernel_rfl) (by kernel_rfl) (fun _ _ _ h => h) rfl hS (fun Wz hW => by go_simp) ?_
        simp only [List.setIfInBounds_toArray, List.set_cons_zero, List.set_cons_succ]
        refine held_takeTo 87 (i := 4) (v := .pointer (some (ad.add (k * 3)))) rfl rfl (by kernel_rfl) (by kernel_rfl) (by kernel_rfl) (fun _ _ _ h => h) rfl hS (fun Wz hW => by go_simp) ?_
        simp only [List.setIfInBounds_toArray, List.set_cons_zero, List.set_cons_succ]
        refine held_takeTo 88 (i := 5) (v := .pointer (some ⟨(ad.add (k * 3)).block, (ad.add (k * 3)).off + 2, none⟩)) rfl rfl (by kernel_rfl) (by kernel_rfl) (by kernel_rfl) (fun _ _ _ h => h) rfl hS (fun Wz hW => by go_simp) ?_
        simp only [List.setIfInBounds_toArray, List.set_cons_zero, List.set_cons_succ]
        refine held_takeTo 89 (i := 6) (v := .int .i64 (n' : Int)) rfl rfl (by kernel_rfl) (by kernel_rfl) (by kernel_rfl) (fun _ _ _ h => h) rfl hS (fun Wz hW => by (obtain ⟨h0, h1, h2⟩ := HBG.out Wz hW; go_simp)) ?_
        simp only [List.setIfInBounds_toArray, List.set_cons_zero, List.set_cons_succ]
        refine held_one (i := 0) (by kernel_rfl) rfl fun K hK => ?_
        go_wp2_with (fail)
        refine hK.out _ _ hS fun _ => ?_
        clear hK K
        refine held_one (i := 7) (by kernel_rfl) rfl fun K hK => ?_
        go_wp2_with (fail)
        refine HCALL.out.mono ?_
        rintro r w1 ⟨⟨A1, c1, rfl, hb1, hst⟩, hk1⟩
        have HB1 := Lib.hid hb1
        have HST := Lib.hid hst
        have hS1 : Kept (fun k => k = g) W w1 := hk1.more fun _ _ e => e.elim
        clear hb1 hst HCALL x0 x1 hk1
        go_wp2_with (fail)
        refine hK.out _ _ hS1 fun _ => ?_
        clear hK K
        refine held_one (i := 8) (by kernel_rfl) rfl fun K hK => ?_
        go_wp2_with (refine wpList_store_box rfl 75 _ _ rfl g (wrV A1 m3 c1 e) rfl rfl 75 (wrV A m2 c e) HB1.out (size_RW.trans rfl) rfl (wrV_one _ _ _ _) ?_; intro w2 HB2 hk2)
        have HQ := Lib.hid (HST.out w2 HB2.out hk2)
        have hS2 : Kept (fun k => k = g) W w2 := hS1.trans hk2 fun _ _ e => e
        clear hk2 HB2 HST HB1
        simp only [List.getElem_toArray, List.getElem_cons_succ, List.getElem_cons_zero, Act.put]
        refine hK.out _ _ hS2 fun _ => ?_
        clear hK K
        refine wpAnyH_done (by kernel_rfl) ?_ _
        clear hS hS1 hS2 HB9 HBG
        go_wp2_with (fail)
        go_roundw
        case rel =>
          refine ⟨k + 1, by go_num, by omega, ?_⟩
          rw [HSN.out, encs_app, ← layB_app, HM0.out, show encs [t', s', n'] = enc t' ++ (enc s' ++ enc n') by simp [encs], ← layB_app, Hm1.out, ← layB_app, Hm2.out, Hm3.out]
          exact HQ.out
        case measure => simp [intOf]; omega
      · obtain rfl : k = x.o.gone.length := by omega
        rw [List.take_length] at HQ
        obtain ⟨l6, hl6⟩ : ∃ z, layB l5 e (encs (goneNums x.o.gone)) = z := ⟨_, rfl⟩
        rw [hl6] at HQ
        have Hl6 := Lib.hid hl6
        have w2 := wr
        clear hl6 w2
        obtain ⟨A, c, hb, hr, hn⟩ := HQ.out.box
        have x0 : wr.cell? ⟨g, 0, none⟩ = some (.slice A l6.length c) := (hb.cell 0).trans (wrV_0 _ _ _ _)
        have x1 : wr.cell? ⟨g, 1, none⟩ = some (.int .i64 e) := (hb.cell 1).trans (wrV_1 _ _ _ _)
        have HR9 := Lib.hid hr
        have HN9 := Lib.hid hn
        have HRS := Lib.hid HQ.out.res
        clear hb hr hn
        have HRE := Lib.hid (show l6 = res from by rw [← HRES.out, HHEAD.out, ← Hl6.out, ← Hl5.out, ← Hl4.out, ← Hl3.out, ← Hl2.out, ← Hl1.out, HT.out]; simp only [layB_app]; simp [encs, List.append_assoc])
        go_wp2_with (refine wpList_store_box rfl 75 _ _ rfl (g + 2) (wrV A l6 c e) rfl rfl 75 (wrV none [] 0 0) HRS.out (size_RW.trans rfl) rfl (wrV_one _ _ _ _) ?_; intro w9 HB9 hk9; refine Hid.out ?_)
        refine Lib.hid ?_
        have HK9 := Lib.hid hk9
        clear hk9 x0 x1
        go_wp2_with (fail)
        refine bodyPost_ret (results_cell_row (show Try.f40.results = #[.cell 4 75] by kernel_rfl) _ _ (g + 2) 75 (wrV A l6 c e) (0, 0) _ rfl HB9.out Try.underlying75 rfl (size_RW.trans rfl)) rfl ?_
        rw [← HRE.out]
        refine ⟨A, c, rfl, HR9.out.kept HK9.out fun hl a ha => ?_, by rw [HG.out]; exact HN9.out.less (by omega), HQ.out.k.trans HK9.out fun k hlt e => ?_⟩
        · have := RQAt.off HQ.out.old HN9.out hl a ha
          omega
        · have := HQ.out.ge
          omega
  · obtain rfl : kd = 3 := by have := HKD.out; omega
    have HT := Lib.hid (show encT x.o = encs [x.o.site.toNat] by unfold encT; rw [if_neg (by rw [k3]; decide), if_neg (by rw [k3]; decide), if_pos k3])
    obtain ⟨js, hjs⟩ : ∃ n : Nat, x.o.site = n := ⟨x.o.site.toNat, by omega⟩
    rw [hjs] at HX10 HT hs1 hs2
    simp only [Int.toNat_natCast] at HT
    clear hjs hid href htx hgo k3
    go_upto_region 22 with (fail)
    clear y3
    obtain ⟨l5, hl5⟩ : ∃ z, layB l4 e (enc js) = z := ⟨_, rfl⟩
    have bl5 := layB_len l4 e (enc js)
    have el5 := enc_len9 js (by omega)
    rw [hl5] at bl5
    obtain ⟨A, c, hb, hcall⟩ := HQ.out.num js (by omega) (by omega) l5 hl5
    have Hl5 := Lib.hid hl5
    clear hl5
    have x0 : w2.cell? ⟨g, 0, none⟩ = some (.slice A l4.length c) := (hb.cell 0).trans (wrV_0 _ _ _ _)
    have x1 : w2.cell? ⟨g, 1, none⟩ = some (.int .i64 e) := (hb.cell 1).trans (wrV_1 _ _ _ _)
    have y10 := HQ.out.cell rfl HX10.out
    have HCALL := Lib.hid (hcall w2 (Kept.refl _ _))
    clear hb hcall
    go_wp2_with (fail)
    refine HCALL.out.mono ?_
    rintro r w1 ⟨⟨A1, c1, rfl, hb1, hst⟩, -⟩
    have HB1 := Lib.hid hb1
    have HST := Lib.hid hst
    clear hb1 hst HCALL x0 x1 y10
    go_wp2_with (refine wpList_store_box rfl 75 _ _ rfl g (wrV A1 l5 c1 e) rfl rfl 75 (wrV A l4 c e) HB1.out (size_RW.trans rfl) rfl (wrV_one _ _ _ _) ?_; intro w2 HB2 hk2; refine Hid.out ?_)
    refine Lib.hid ?_
    have HQ := Lib.hid (HST.out w2 HB2.out hk2)
    clear hk2 HB2 HST HB1
    obtain ⟨A, c, hb, hr, hn⟩ := HQ.out.box
    have x0 : w2.cell? ⟨g, 0, none⟩ = some (.slice A l5.length c) := (hb.cell 0).trans (wrV_0 _ _ _ _)
    have x1 : w2.cell? ⟨g, 1, none⟩ = some (.int .i64 e) := (hb.cell 1).trans (wrV_1 _ _ _ _)
    have HR9 := Lib.hid hr
    have HN9 := Lib.hid hn
    have HRS := Lib.hid HQ.out.res
    clear hb hr hn
    have HRE := Lib.hid (show l5 = res from by rw [← HRES.out, HHEAD.out, ← Hl5.out, ← Hl4.out, ← Hl3.out, ← Hl2.out, ← Hl1.out, HT.out]; simp only [layB_app]; simp [encs, List.append_assoc])
    go_wp2_with (refine wpList_store_box rfl 75 _ _ rfl (g + 2) (wrV A l5 c e) rfl rfl 75 (wrV none [] 0 0) HRS.out (size_RW.trans rfl) rfl (wrV_one _ _ _ _) ?_; intro w9 HB9 hk9; refine Hid.out ?_)
    refine Lib.hid ?_
    have HK9 := Lib.hid hk9
    clear hk9 x0 x1
    go_wp2_with (fail)
    refine bodyPost_ret (results_cell_row (show Try.f40.results = #[.cell 4 75] by kernel_rfl) _ _ (g + 2) 75 (wrV A l5 c e) (0, 0) _ rfl HB9.out Try.underlying75 rfl (size_RW.trans rfl)) rfl ?_
    rw [← HRE.out]
    refine ⟨A, c, rfl, HR9.out.kept HK9.out fun hl a ha => ?_, by rw [HG.out]; exact HN9.out.less (by omega), HQ.out.k.trans HK9.out fun k hlt e => ?_⟩
    · have := RQAt.off HQ.out.old HN9.out hl a ha
      omega
    · have := HQ.out.ge
      omega
  · obtain rfl : kd = 4 := by have := HKD.out; omega
    have HT := Lib.hid (show encT x.o = [] by unfold encT; rw [if_neg (by rw [k4]; decide), if_neg (by rw [k4]; decide), if_neg (by rw [k4]; decide)])
    clear hid href htx hgo hsi k4
    go_upto_region 23 with (fail)
    clear y3
    obtain ⟨A, c, hb, hr, hn⟩ := HQ.out.box
    have x0 : w2.cell? ⟨g, 0, none⟩ = some (.slice A l4.length c) := (hb.cell 0).trans (wrV_0 _ _ _ _)
    have x1 : w2.cell? ⟨g, 1, none⟩ = some (.int .i64 e) := (hb.cell 1).trans (wrV_1 _ _ _ _)
    have HR9 := Lib.hid hr
    have HN9 := Lib.hid hn
    have HRS := Lib.hid HQ.out.res
    clear hb hr hn
    have HRE := Lib.hid (show l4 = res from by rw [← HRES.out, HHEAD.out, ← Hl4.out, ← Hl3.out, ← Hl2.out, ← Hl1.out, HT.out]; simp only [layB_app]; simp [encs, List.append_assoc])
    go_wp2_with (refine wpList_store_box rfl 75 _ _ rfl (g + 2) (wrV A l4 c e) rfl rfl 75 (wrV none [] 0 0) HRS.out (size_RW.trans rfl) rfl (wrV_one _ _ _ _) ?_; intro w9 HB9 hk9; refine Hid.out ?_)
    refine Lib.hid ?_
    have HK9 := Lib.hid hk9
    clear hk9 x0 x1
    go_wp2_with (fail)
    refine bodyPost_ret (results_cell_row (show Try.f40.results = #[.cell 4 75] by kernel_rfl) _ _ (g + 2) 75 (wrV A l4 c e) (0, 0) _ rfl HB9.out Try.underlying75 rfl (size_RW.trans rfl)) rfl ?_
    rw [← HRE.out]
    refine ⟨A, c, rfl, HR9.out.kept HK9.out fun hl a ha => ?_, by rw [HG.out]; exact HN9.out.less (by omega), HQ.out.k.trans HK9.out fun k hlt e => ?_⟩
    · have := RQAt.off HQ.out.old HN9.out hl a ha
      omega
    · have := HQ.out.ge
      omega
theorem RPut8_any (A : Option Addr) (l : List Int) (c : Nat) (e : Int) (x : Lop) (w : World) (h : RB w A l c) (hx : x.At w) (hs : x.o.Small) (hl : l.length ≤ 800000) :
    Calls Try.prog 40 #[.agg #[.slice A l.length c, .int .i64 e], .agg x.c] w (RWPost w A l (layO l e x.o) e) := by
  unfold layO
  cases hok : okOp x.o with
  | false => exact RPut8_no A l c e x w h hx hs hok
  | true => exact RPut8_ok A l c e x w h hx hs hok hl

end Go.Proofs.Ytnlklhlnnoihiaa
