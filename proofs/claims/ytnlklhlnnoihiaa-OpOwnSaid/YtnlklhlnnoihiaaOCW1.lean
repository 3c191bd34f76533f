/- The walk of OpOwn: it is true. Conditions: the operation lies in memory. -/
import Derived.Test.YtnlklhlnnoihiaaOCW
namespace Go.Proofs.Ytnlklhlnnoihiaa
open Go Go.RowKit

/-- What lies there all the time: the operation and its bytes. -/
structure OwX (w : World) (x : Lop) (cs : Array Value) (ad : Addr) (P Q : Nat) (wN : World) : Prop where
  bx : Box wN w.heap.size 30 cs
  xa : x.At wN
  b : BsAt wN (some ad) (encOp x.o)
  k : Kept (fun _ => False) w wN
  xP : w.heap.size < P
  aP : ad.block < P
  PQ : P < Q
  xl : ∀ a, x.dA = some a → x.o.deps ≠ [] → a.block < P
  xg : ∀ a, x.gA = some a → x.o.gone ≠ [] → a.block < P
section
variable {w wN W : World} {x : Lop} {cs : Array Value} {ad : Addr} {P Q : Nat}
theorem OwX.box (h : OwX w x cs ad P Q wN) (hk : Kept (fun b => b = P ∨ b = Q) wN W) : Box W w.heap.size 30 cs := h.bx.kept hk (by have := h.xP; have := h.PQ; omega)
theorem OwX.bytes (h : OwX w x cs ad P Q wN) (hk : Kept (fun b => b = P ∨ b = Q) wN W) : BsAt W (some ad) (encOp x.o) := by
  have := h.aP
  have := h.PQ
  exact ⟨h.b.b.kept hk fun a ha => by injection ha with ha; subst ha; omega, fun e => (by cases e), fun a ha => Nat.lt_of_lt_of_le (h.b.lt a ha) hk.size⟩
theorem OwX.at (h : OwX w x cs ad P Q wN) (hk : Kept (fun b => b = P ∨ b = Q) wN W) : x.At W := by
  have hPQ := h.PQ
  refine ⟨?_, h.xa.g.kept hk fun hl a ha => by have := h.xg a ha (List.length_pos_iff.1 hl); omega⟩
  by_cases hd : x.o.deps = []
  · rw [hd]; exact DotsAt.nil
  · exact h.xa.d.kept hk fun a ha => by have := h.xl a ha hd; omega
theorem OwX.all (h : OwX w x cs ad P Q wN) (hk : Kept (fun b => b = P ∨ b = Q) wN W) : Kept (fun _ => False) w W := h.k.trans hk fun b hb e => by have := h.xP; have := h.PQ; omega
end
theorem OwA.thereQ {wN W : World} {P Q N k nb nd ng : Nat} {A : Nat → Option Addr} {c : Nat → Nat} {y : Nat → Lop} {gc : Nat → Nat} {fb fd fg : Nat → List Value} (h : OwB wN P Q N k nb nd ng A c y gc fb fd fg W) {i : Nat} (hi : i < 3) : W.there Q (i * 11) 11 := fun j hj => by
  refine ⟨?_, h.q.frozen _⟩
  rw [h.q.cell, arrO_get _ i hi j hj, Array.getElem?_eq_getElem (by rw [Lop.c_size]; exact hj)]
  rfl
theorem OwA.rangeQ {wN W : World} {P Q N k nb nd ng : Nat} {A : Nat → Option Addr} {c : Nat → Nat} {y : Nat → Lop} {gc : Nat → Nat} {fb fd fg : Nat → List Value} (h : OwA wN P Q N k nb nd ng A c y gc fb fd fg W) {i : Nat} (hi : i < k) (hk : k ≤ 3) : W.rangeAt Q (i * 11) (y i).c.toList := fun j v hj => by
  have hj' : j < 11 := by
    have := (List.getElem?_eq_some_iff.1 hj).1
    rwa [Array.length_toList, Lop.c_size] at this
  rw [h.q.cell, arrO_get _ i (by omega) j hj', if_pos hi]
  simpa using hj
theorem OwA.rangeQk {wN W : World} {P Q N k nb nd ng : Nat} {A : Nat → Option Addr} {c : Nat → Nat} {y : Nat → Lop} {z : Lop} {gc : Nat → Nat} {fb fd fg : Nat → List Value} (h : OwA wN P Q N (k + 1) nb nd ng A c (upd y k z) gc fb fd fg W) (hk : k < 3) : W.rangeAt Q (k * 11) z.c.toList := by
  have := OwA.rangeQ h (Nat.lt_succ_self k) (by omega)
  rw [upd_self] at this
  exact this
theorem run_load_q {w : World} {a : Act} (op : Oper) (x : Operand) (ho : op.op = .load 30 x) (g f : Nat) (hx : a.eval x = .pointer (some ⟨g, f, none⟩)) (y : Lop) (hr : w.rangeAt g f y.c.toList) (cs : Array Value) (hcs : y.c = cs) : (execOp a.eval op).run Try.prog w = .ok (.value (.agg cs)) w := by
  obtain ⟨d, hu, hd⟩ := und_op
  have := run_loadVar_mid (P := Try.prog) w g f 30 y.c.toList d hr hu hd (by rw [Array.length_toList]; exact size_op)
  rw [Array.toArray_toList, hcs] at this
  unfold execOp
  simp only [ho, hx, Instr.loadAt, Instr.sureAddr, Sem.run_bind, Sem.run_pure, Result.andThen_ok, this]
theorem cons_congr {α : Type} {a b : α} {l m : List α} (h : a = b) (h' : l = m) : a :: l = b :: m := by subst h h'; rfl
theorem arrR_zero : (#[.slice none 0 0, .slice none 0 0, .slice none 0 0] : Array Value) = arrR fun i => if i < 0 then Value.slice none 0 0 else .slice none 0 0 := rfl
theorem arrO_zero (y : Nat → Lop) : (#[.int .i64 0, .int .i64 0, .slice none 0 0, .int .i64 0, .int .i64 0, .int .i64 0, .int .i64 0, .int .i64 0, .string ⟨#[]⟩, .slice none 0 0, .int .i64 0, .int .i64 0, .int .i64 0, .slice none 0 0, .int .i64 0, .int .i64 0, .int .i64 0, .int .i64 0, .int .i64 0, .string ⟨#[]⟩, .slice none 0 0, .int .i64 0, .int .i64 0, .int .i64 0, .slice none 0 0, .int .i64 0, .int .i64 0, .int .i64 0, .int .i64 0, .int .i64 0, .string ⟨#[]⟩, .slice none 0 0, .int .i64 0] : Array Value) = arrO fun i => if i < 0 then y i else zeroL := by kernel_rfl
set_option maxRecDepth 100000 in
set_option maxHeartbeats 30000000 in
theorem Own8_walk (x : Lop) (w : World) (hx : x.At w) (hc : ∀ r ∈ x.o.gone, inI r.count) : Calls Try.prog 9 #[.agg x.c] w (KnownPost w) := by
  have hk0 : Kept (fun _ => False) w (w.alloc (.cells x.c 30)) := (Kept.refl _ _).alloc _
  have HK := Lib.hid hk0
  have HX := Lib.hid (hx.fresh hk0)
  have HB := Lib.hid (Box.new w 30 x.c)
  have HC := Lib.hid hc
  have HLG := Lib.hid (fun W => Long_any x W)
  have HEN := Lib.hid (fun W (h1 : x.At W) (h2 : x.o.Small) => EncS_any x W h1 h2)
  have HDE := Lib.hid (fun A c W h (hok : okOp x.o = true) (hs : x.o.Small) => DecS_enc x.o A c W h hok hs)
  have HSA := Lib.hid (fun (z : Lop) W (h0 : z.At W) (h1 : x.At W) (h2 : z.o.Small) => Same8_any z x W h0 h1 h2.dl h2.gl)
  obtain ⟨cs, hcs⟩ : ∃ cs, x.c = cs := ⟨_, rfl⟩
  have HSX := Lib.hid (show cs.size = 11 by rw [← hcs]; rfl)
  rw [hcs] at HB HK HX HLG HEN HSA ⊢
  clear hk0 hx hc hcs
  go_enter Try.func9, Try.ntmps9
  go_upto_region 1 with (fail)
  generalize w.alloc (.cells cs 30) = w0 at HK HX HB ⊢
  go_wp2_with (refine wpList_load_op rfl _ rfl w.heap.size rfl _ cs HSX.out HB.out ?_)
  refine (HLG.out w0).mono ?_
  cases hl : isLong x.o with
  | true =>
    rintro r w1 ⟨rfl, hk⟩
    have HK1 := Lib.hid (HK.out.trans hk fun _ _ e => e)
    clear hk
    go_wp2_with (fail)
    refine (Known8_any w1).mono ?_
    rintro r k1 ⟨rfl, hk⟩
    have HK2 := Lib.hid (HK1.out.trans hk fun _ _ e => e)
    clear hk
    go_wp2_with (fail)
    go_ret
    exact ⟨rfl, HK2.out⟩
  | false =>
    rintro r w1 ⟨rfl, hk⟩
    have HSM := Lib.hid (show x.o.Small from by
      have := of_decide_eq_false hl
      exact ⟨HC.out, by omega, by omega, by omega⟩)
    have HK1 := Lib.hid (HK.out.trans hk fun _ _ e => e)
    have HX1 := Lib.hid (HX.out.fresh hk)
    have HB1 := Lib.hid (HB.out.kept hk id)
    clear hk hl HK HX HB HLG
    go_wp2_with (refine wpList_load_op rfl _ rfl w.heap.size rfl _ cs HSX.out HB1.out ?_)
    refine (HEN.out w1 HX1.out HSM.out).mono ?_
    unfold EncS at HEN ⊢
    cases hok : okOp x.o with
    | false =>
      rw [encL_no hok, opE_no hok]
      rintro r w2 ⟨A, c, rfl, -, -, hk⟩
      have HK2 := Lib.hid (HK1.out.trans hk fun _ _ e => e)
      clear hk
      go_wp2_with (fail)
      refine (Known8_any w2).mono ?_
      rintro r k1 ⟨rfl, hk⟩
      have HK3 := Lib.hid (HK2.out.trans hk fun _ _ e => e)
      clear hk
      go_wp2_with (fail)
      go_ret
      exact ⟨rfl, HK3.out⟩
    | true =>
      rw [encL_ok hok, opE_ok hok] at HEN ⊢
      have HOK := Lib.hid hok
      have HDE2 := Lib.hid (fun A c W h => HDE.out A c W h hok HSM.out)
      rw [encL_ok hok] at HDE2
      rintro r w2 ⟨A, c0, rfl, hb, -, hk⟩
      have HK2 := Lib.hid (HK1.out.trans hk fun _ _ e => e)
      have HX2 := Lib.hid (HX1.out.fresh hk)
      have HB2 := Lib.hid (HB1.out.kept hk id)
      obtain ⟨ad, hA, -⟩ := hb.b 0 (encOp_pos x.o)
      subst hA
      have HA2 := Lib.hid hb
      have hbl := encOp_le x.o hok
      clear hb hk hok HK1 HX1 HB1 HDE
      go_upto_region 8 with (fail)
      rw [arrR_zero, arrO_zero fun _ => zeroL]

      have hPl : w.heap.size < w2.heap.size := HB2.out.lt
      have hka : Kept (fun _ => False) w2 ((w2.alloc (.cells (arrR fun i => if i < 0 then Value.slice none 0 0 else .slice none 0 0) 66)).alloc (.cells (arrO fun i => if i < 0 then zeroL else zeroL) 67)) := ((Kept.refl _ _).alloc _).alloc _
      have HOX := Lib.hid (show OwX w x cs ad w2.heap.size (w2.heap.size + 1) _ from ⟨HB2.out.kept hka id, HX2.out.fresh hka, HA2.out.fresh hka, HK2.out.trans hka fun _ _ e => e, hPl, HA2.out.lt ad rfl, by omega, fun a ha hd => HX2.out.d.block_lt hd a ha, fun a ha hg => HX2.out.g.block_lt hg a ha⟩)
      have HO0 := Lib.hid (show OwA ((w2.alloc (.cells (arrR fun i => if i < 0 then Value.slice none 0 0 else .slice none 0 0) 66)).alloc (.cells (arrO fun i => if i < 0 then zeroL else zeroL) 67)) w2.heap.size (w2.heap.size + 1) (w2.heap.size + 2) 0 (encOp x.o).length x.o.deps.length x.o.gone.length (fun _ => none) (fun _ => 0) (fun _ => zeroL) (fun _ => 0) (fun _ => []) (fun _ => []) (fun _ => []) ((w2.alloc (.cells (arrR fun i => if i < 0 then Value.slice none 0 0 else .slice none 0 0) 66)).alloc (.cells (arrO fun i => if i < 0 then zeroL else zeroL) 67)) from
        ⟨(Box.new w2 66 _).alloc _, (Box.new (w2.alloc _) 67 _).at_eq (show _ = w2.heap.size + 1 by simp), Fam.zero, Fam.zero, Fam.zero, fun i hi => by omega, Kept.refl _ _, by omega, by omega, by omega, by simp⟩)
      generalize (w2.alloc (.cells (arrR fun i => if i < 0 then Value.slice none 0 0 else .slice none 0 0) 66)).alloc (.cells (arrO fun i => if i < 0 then zeroL else zeroL) 67) = wN at HOX HO0 ⊢
      obtain ⟨P, hP⟩ : ∃ P, w2.heap.size = P := ⟨_, rfl⟩
      rw [hP] at HOX HO0 ⊢
      clear hka hPl hP HX2 HB2 HA2 HK2
      obtain ⟨Q, hQ⟩ : ∃ Q, P + 1 = Q := ⟨_, rfl⟩
      obtain ⟨N, hN⟩ : ∃ N, P + 2 = N := ⟨_, rfl⟩
      rw [hQ, hN] at HO0
      rw [hQ] at HOX ⊢
      clear hQ hN
      have HENX := Lib.hid (fun W (hk : Kept (fun b => b = P ∨ b = Q) wN W) => HEN.out W (HOX.out.at hk) HSM.out)
      have HDEX := Lib.hid (fun W (hk : Kept (fun b => b = P ∨ b = Q) wN W) => HDE2.out (some ad) c0 W (HOX.out.bytes hk))
      clear HEN HDE2
      obtain ⟨nb, hnb⟩ : ∃ nb, (encOp x.o).length = nb := ⟨_, rfl⟩
      rw [hnb] at HENX HDEX HO0 hbl ⊢
      have HNB := Lib.hid hnb
      clear hnb
      go_upto_block 0 with (fail)
      go_cut [4, 7] (fun v4 _ wx => v4 = .int .i64 0 ∧ ∃ A c y gc fb fd fg, OwA wN P Q N 3 nb x.o.deps.length x.o.gone.length A c y gc fb fd fg wx)
      case first =>
        as_aux_lemma =>
        go_wp2_with (fail)
        go_loopw [4, 7] (fun v4 i wr => v4 = .int .i64 0 ∧ ∃ k : Nat, i = .int .i64 k ∧ k ≤ 3 ∧ ∃ A c y gc fb fd fg, OwA wN P Q N k nb x.o.deps.length x.o.gone.length A c y gc fb fd fg wr) (fun _ i _ => 3 - (intOf i).toNat)
        case atStart => exact ⟨rfl, 0, rfl, by omega, _, _, _, _, _, _, _, HO0.out⟩
        case round =>
          obtain ⟨rfl, k, rfl, hk, A, c, y, gc, fb, fd, fg, ho⟩ := hrel
          have HO := Lib.hid ho
          clear ho HO0
          by_cases hlt : k < 3
          · have hb1 := HOX.out.box HO.out.kp
            go_wp2_with (refine wpList_load_op rfl _ rfl w.heap.size rfl _ cs HSX.out hb1 ?_)
            refine (HENX.out wr HO.out.kp).mono ?_
            rintro r w3 ⟨A1, c1, rfl, -, hro, hk3⟩
            have HOB := Lib.hid (HO.out.bytes hlt hk3 hro)
            have HP3 := Lib.hid (HO.out.fresh hk3).p
            have p0 : w3.cell? ⟨P, k, none⟩ = some (.slice none 0 0) := by rw [HP3.out.cell, arrR_get _ k hlt, if_neg (Nat.lt_irrefl k)]
            have pf := HP3.out.frozen k
            clear hk3 hro hb1 HO
            go_upto_region 12 with (fail)
            generalize w3.setCell ⟨P, k, none⟩ (.slice A1 nb c1) = w4 at HOB ⊢
            clear p0 pf HP3
            go_wp2_with (fail)
            refine (HDEX.out w4 HOB.out.kp).mono ?_
            rintro r w5 ⟨z, gz, rfl, hzo, hz, hzc, hzd, hzg, hk5⟩
            have HOB5 := Lib.hid (HOB.out.fresh hk5)
            have HZO := Lib.hid (show z.o = x.o from hzo)
            have HT := Lib.hid (OwA.thereQ HOB5.out hlt)
            have HOP := Lib.hid (HOB.out.op hlt hk5 (z := z) (by rw [HZO.out]) (by rw [HZO.out]) (by rw [hzc, HZO.out]) (by rw [← HZO.out]; exact hzd) (by rw [← HZO.out]; exact hzg))
            have hsk : Kept (fun b => b = Q) w5 (w5.setCells Q (k * 11) z.c.toList) := Kept.setMany _ _ _ (Kept.refl _ _) (.inl rfl)
            have HZA := Lib.hid (show z.At (w5.setCells Q (k * 11) z.c.toList) from ⟨DotsAt.of_own (hsk.own hzd fun j e1 e2 => own_box_ne hzd HOB5.out.q (by decide) (e1.trans (by rw [e2]))), RunsAt.of_own (hsk.own hzg fun j e1 e2 => own_box_ne hzg HOB5.out.q (by decide) (e1.trans (by rw [e2])))⟩)
            have HSZ := Lib.hid (show z.c.size = 11 from rfl)
            have HON := Lib.hid (show z.c.all (·.oneCell') = true from Opr.cells_one _ _ _ _ _)
            obtain ⟨zs, hzs⟩ : ∃ zs, z.c = zs := ⟨_, rfl⟩
            have HZS := Lib.hid hzs
            rw [hzs] at HSZ HON HOP HZA ⊢
            clear hsk hk5 hzo hz hzc hzd hzg hzs HOB HOB5
            go_wp2_with (refine wpList_store_mid rfl 30 _ _ rfl Q (k * 11) zs rfl rfl (by rw [HSZ.out]; exact HT.out) (by rw [HSZ.out]; exact size_op) HON.out ?_)
            generalize w5.setCells Q (k * 11) zs.toList = w6 at HOP HZA ⊢
            clear HT
            go_upto_region 15 with (fail)
            have hkd : Kept (fun _ => False) w6 w6.drew := (Kept.refl _ _).drew
            have HOD := Lib.hid (HOP.out.fresh hkd)
            have HZD := Lib.hid (HZA.out.fresh hkd)
            clear hkd HOP HZA
            refine wp_region_held_drew (S := fun Wz => Kept (fun _ => False) w6.drew Wz) (by kernel_rfl) (Kept.refl _ _) fun hS => ?_
            generalize w6.drew = W at HOD HZD hS ⊢
            refine held_takeTo 55 (i := 0) (v := .int .i64 0) rfl rfl (by kernel_rfl) (by kernel_rfl) (by kernel_rfl) (fun _ _ _ h => h) rfl hS (fun Wz hW => by go_simp) ?_
            simp only [List.setIfInBounds_toArray, List.set_cons_zero, List.set_cons_succ]
            refine held_takeTo 56 (i := 1) (v := .bool false) rfl rfl (by kernel_rfl) (by kernel_rfl) (by kernel_rfl) (fun _ _ _ h => h) rfl hS (fun Wz hW => by go_simp) ?_
            simp only [List.setIfInBounds_toArray, List.set_cons_zero, List.set_cons_succ]
            refine held_takeTo 57 (i := 2) (v := .bool false) rfl rfl (by kernel_rfl) (by kernel_rfl) (by kernel_rfl) (fun _ _ _ h => h) rfl hS (fun Wz hW => by go_simp) ?_
            simp only [List.setIfInBounds_toArray, List.set_cons_zero, List.set_cons_succ]
            refine held_takeG 58 (i := 3) (v := .int .i64 k) rfl rfl (by kernel_rfl) (by kernel_rfl) (by kernel_rfl) (fun _ _ _ h => h) (by rfl) hS (fun Wz hW => by go_simp) ?_
            simp only [List.setIfInBounds_toArray, List.set_cons_zero, List.set_cons_succ]
            refine held_takeG 59 (i := 4) (v := .pointer (some ⟨Q, k * 11, none⟩)) rfl rfl (by kernel_rfl) (by kernel_rfl) (by kernel_rfl) (fun _ _ _ h => h) (by rfl) hS (fun Wz hW => by go_simp) ?_
            simp only [List.setIfInBounds_toArray, List.set_cons_zero, List.set_cons_succ]
            refine held_takeG 60 (i := 5) (v := .agg zs) rfl rfl (by kernel_rfl) (by kernel_rfl) (by kernel_rfl) (fun _ _ _ h => h) (by rfl) hS (fun Wz hW => run_load_q _ _ rfl Q (k * 11) rfl z (OwA.rangeQk (HOD.out.fresh hW) hlt) zs HZS.out) ?_
            simp only [List.setIfInBounds_toArray, List.set_cons_zero, List.set_cons_succ]
            refine held_takeG 61 (i := 6) (v := .agg cs) rfl rfl (by kernel_rfl) (by kernel_rfl) (by kernel_rfl) (fun _ _ _ h => h) (by rfl) hS (fun Wz hW => run_load_op _ _ rfl w.heap.size rfl _ cs HSX.out (HOX.out.box (HOD.out.fresh hW).kp)) ?_
            simp only [List.setIfInBounds_toArray, List.set_cons_zero, List.set_cons_succ]
            refine held_one (i := 7) (by kernel_rfl) rfl fun K hK => ?_
            go_wp2_with (fail)
            have hcall := HSA.out z W HZD.out (HOX.out.at HOD.out.kp) (by rw [HZO.out]; exact HSM.out)
            rw [HZS.out] at hcall
            refine hcall.mono ?_
            clear hcall
            rintro r v1 ⟨bb, rfl, hbb, hk1⟩
            obtain rfl : bb = true := hbb.2 HZO.out
            have hS1 := hS.trans hk1 fun _ _ e => e
            clear hk1 hbb
            go_wp2_with (fail)
            refine hK.out _ _ hS1 fun _ => ?_
            clear hK K
            refine held_one (i := 8) (by kernel_rfl) rfl fun K hK => ?_
            go_wp2_with (fail)
            refine hK.out _ _ hS1 fun _ => ?_
            clear hK K
            refine held_one (i := 9) (by kernel_rfl) rfl fun K hK => ?_
            go_wp2_with (fail)
            refine hK.out _ _ hS1 fun _ => ?_
            clear hK K
            refine wpAnyH_done (by kernel_rfl) ?_ _
            have HO7 := Lib.hid (HOD.out.fresh hS1)
            go_wp2_with (fail)
            go_roundw
            case rel => exact ⟨rfl, k + 1, by go_num, by omega, _, _, _, _, _, _, _, HO7.out⟩
            case measure => simp [intOf]; omega
          · obtain rfl : k = 3 := by omega
            go_wp2_with (fail)
            go_meet
            case rel => exact ⟨rfl, _, _, _, _, _, _, _, HO.out⟩
      case rest =>
      obtain ⟨rfl, A, c, y, gc, fb, fd, fg, ho⟩ := hcut
      have HO := Lib.hid ho
      clear ho HO0
      go_upto_block 2 with (fail)
      go_cut [8] (fun _ wx => ∃ fb fd fg, OwA wN P Q N 3 nb x.o.deps.length x.o.gone.length A c y gc fb fd fg wx ∧ OvAll nb x.o.deps.length x.o.gone.length fb fd fg 3)
      case first =>
        as_aux_lemma =>
        go_wp2_with (fail)
        go_loopw [8] (fun i wr => ∃ k : Nat, i = .int .i64 k ∧ k ≤ 3 ∧ ∃ fb fd fg, OwA wN P Q N 3 nb x.o.deps.length x.o.gone.length A c y gc fb fd fg wr ∧ OvAll nb x.o.deps.length x.o.gone.length fb fd fg k) (fun i _ => 3 - (intOf i).toNat)
        case atStart => exact ⟨0, rfl, by omega, _, _, _, HO.out, OvAll.zero⟩
        case round =>
          obtain ⟨k, rfl, hk, fb2, fd2, fg2, ho, hov⟩ := hrel
          have HO2 := Lib.hid ho
          have HV2 := Lib.hid hov
          clear ho hov HO
          by_cases hlt : k < 3
          · go_upto_block 4 with (fail)
            go_cut [9] (fun _ wx => ∃ fb, OwA wN P Q N 3 nb x.o.deps.length x.o.gone.length A c y gc fb fd2 fg2 wx ∧ OvAll nb x.o.deps.length x.o.gone.length fb fd2 fg2 k ∧ OvTo (fun _ => TB k) nb (fb k))
            case first =>
              as_aux_lemma =>
              go_wp2_with (fail)
              go_loopw [9] (fun i wr => ∃ t : Nat, i = .int .i64 t ∧ t ≤ nb ∧ ∃ fb, OwA wN P Q N 3 nb x.o.deps.length x.o.gone.length A c y gc fb fd2 fg2 wr ∧ OvAll nb x.o.deps.length x.o.gone.length fb fd2 fg2 k ∧ OvTo (fun _ => TB k) t (fb k)) (fun i _ => nb - (intOf i).toNat)
              case atStart => exact ⟨0, rfl, by omega, _, HO2.out, HV2.out, OvTo.zero⟩
              case round =>
                obtain ⟨t, rfl, ht, fb3, ho, hov, hot⟩ := hrel
                have HO3 := Lib.hid ho
                have HV3 := Lib.hid hov
                have HT3 := Lib.hid hot
                clear ho hov hot HO2 HV2
                have p0 := (HO3.out.rows hlt (by omega)).1
                by_cases htn : t < nb
                · obtain ⟨g, u, hA, hc0, hf, hO⟩ := HO3.out.turnB hlt htn (TB k)
                  have hl := (HO3.out.b.own k hlt).1
                  rw [hA] at p0
                  have f0 := hf t
                  have HO4 := Lib.hid hO
                  unfold TB at HO4
                  clear hf hO hA
                  go_wp2_with (fail)
                  go_roundw
                  case rel => exact ⟨t + 1, by go_num, by omega, _, HO4.out, HV3.out.updB _, by rw [upd_self]; exact OvTo.set HT3.out (by omega) rfl⟩
                  case measure => simp [intOf]; omega
                · obtain rfl : t = nb := by omega
                  go_wp2_with (fail)
                  go_meet
                  case rel => exact ⟨_, HO3.out, HV3.out, HT3.out⟩
            case rest =>
            obtain ⟨fb3, ho, hov, hob⟩ := hcut
            have HO3 := Lib.hid ho
            have HV3 := Lib.hid hov
            have HTB := Lib.hid hob
            clear ho hov hob HO2 HV2
            go_upto_block 6 with (fail)
            go_cut [10] (fun _ wx => ∃ fd, OwA wN P Q N 3 nb x.o.deps.length x.o.gone.length A c y gc fb3 fd fg2 wx ∧ OvAll nb x.o.deps.length x.o.gone.length fb3 fd fg2 k ∧ OvTo (TD k) (x.o.deps.length * 2) (fd k))
            case first =>
              as_aux_lemma =>
              go_wp2_with (fail)
              go_loopw [10] (fun i wr => ∃ t : Nat, i = .int .i64 t ∧ t ≤ x.o.deps.length ∧ ∃ fd, OwA wN P Q N 3 nb x.o.deps.length x.o.gone.length A c y gc fb3 fd fg2 wr ∧ OvAll nb x.o.deps.length x.o.gone.length fb3 fd fg2 k ∧ OvTo (TD k) (t * 2) (fd k)) (fun i _ => x.o.deps.length - (intOf i).toNat)
              case atStart => exact ⟨0, rfl, by omega, _, HO3.out, HV3.out, by rw [Nat.zero_mul]; exact OvTo.zero⟩
              case round =>
                obtain ⟨t, rfl, ht, fd3, ho, hov, hot⟩ := hrel
                have HO4 := Lib.hid ho
                have HV4 := Lib.hid hov
                have HT4 := Lib.hid hot
                clear ho hov hot HO3 HV3
                have p0 := (HO4.out.rows hlt (by omega)).2.1
                have hdl := HSM.out.dl
                by_cases htn : t < x.o.deps.length
                · obtain ⟨g, u0, u1, hA, hc0, hc1, hf, hO⟩ := HO4.out.turnD hlt htn (.int .i64 k) (.int .i64 k)
                  have hl := (HO4.out.d.own k hlt).1
                  rw [hA] at p0
                  have f0 := hf (t * 2)
                  have f1 := hf (t * 2 + 1)
                  have HO5 := Lib.hid hO
                  clear hf hO hA
                  go_wp2_with (fail)
                  go_roundw
                  case rel =>
                    refine ⟨t + 1, by go_num, by omega, _, HO5.out, HV4.out.updD _, ?_⟩
                    rw [upd_self, show (t + 1) * 2 = t * 2 + 1 + 1 by omega]
                    exact OvTo.set (OvTo.set HT4.out (by omega) (by unfold TD; split <;> rfl)) (by rw [List.length_set]; omega) (by unfold TD; split <;> rfl)
                  case measure => simp [intOf]; omega
                · obtain rfl : t = x.o.deps.length := by omega
                  go_wp2_with (fail)
                  go_meet
                  case rel => exact ⟨_, HO4.out, HV4.out, HT4.out⟩
            case rest =>
            obtain ⟨fd3, ho, hov, hod⟩ := hcut
            have HO4 := Lib.hid ho
            have HV4 := Lib.hid hov
            have HTD := Lib.hid hod
            clear ho hov hod HO3 HV3
            go_upto_block 8 with (fail)
            go_wp2_with (fail)
            go_loopw [11] (fun i wr => ∃ t : Nat, i = .int .i64 t ∧ t ≤ x.o.gone.length ∧ ∃ fg, OwA wN P Q N 3 nb x.o.deps.length x.o.gone.length A c y gc fb3 fd3 fg wr ∧ OvAll nb x.o.deps.length x.o.gone.length fb3 fd3 fg k ∧ OvTo (TG k) (t * 3) (fg k)) (fun i _ => x.o.gone.length - (intOf i).toNat)
            case atStart => exact ⟨0, rfl, by omega, _, HO4.out, HV4.out, by rw [Nat.zero_mul]; exact OvTo.zero⟩
            case round =>
              obtain ⟨t, rfl, ht, fg3, ho, hov, hot⟩ := hrel
              have HO5 := Lib.hid ho
              have HV5 := Lib.hid hov
              have HT5 := Lib.hid hot
              clear ho hov hot HO4 HV4
              have p0 := (HO5.out.rows hlt (by omega)).2.2
              have hgl := HSM.out.gl
              have hw : IntKind.i64.wrap (100 + (k : Int)) = 100 + (k : Int) := IntWalk.i64_in _ ⟨by omega, by omega⟩
              by_cases htn : t < x.o.gone.length
              · obtain ⟨g, u0, u1, u2, hA, hc0, hc1, hc2, hf, hO⟩ := HO5.out.turnG hlt htn (.int .i64 0) (.int .i64 0) (.int .i64 (100 + (k : Int)))
                have hl := (HO5.out.g.own k hlt).1
                rw [hA] at p0
                have f0 := hf (t * 3)
                have f1 := hf (t * 3 + 1)
                have f2 := hf (t * 3 + 2)
                have HO6 := Lib.hid hO
                clear hf hO hA
                go_wp2_with (fail)
                go_roundw
                case rel =>
                  refine ⟨t + 1, by go_num, by omega, _, HO6.out, HV5.out.updG _, ?_⟩
                  rw [upd_self, show (t + 1) * 3 = t * 3 + 1 + 1 + 1 by omega]
                  exact OvTo.set (OvTo.set (OvTo.set HT5.out (by omega) (by unfold TG; rw [if_neg (by omega)])) (by rw [List.length_set]; omega) (by unfold TG; rw [if_neg (by omega)])) (by rw [List.length_set, List.length_set]; omega) (by unfold TG; rw [if_pos (by omega)]; rfl)
                case measure => simp [intOf]; omega
              · obtain rfl : t = x.o.gone.length := by omega
                go_wp2_with (fail)
                have HV6 := Lib.hid (HV5.out.next HTB.out HTD.out HT5.out)
                go_roundw
                case rel => exact ⟨k + 1, by go_num, by omega, _, _, _, HO5.out, HV6.out⟩
                case measure => simp [intOf]; omega
          · obtain rfl : k = 3 := by omega
            go_wp2_with (fail)
            go_meet
            case rel => exact ⟨_, _, _, HO2.out, HV2.out⟩
      case rest =>
      obtain ⟨fb2, fd2, fg2, ho, hov⟩ := hcut
      have HO2 := Lib.hid ho
      have HV2 := Lib.hid hov
      clear ho hov HO
      obtain ⟨h3, hg0⟩ := HO2.out.go
      obtain ⟨N3, hN3⟩ : ∃ N3, wc.heap.size = N3 := ⟨_, rfl⟩
      rw [hN3] at h3 hg0
      have HS3 := Lib.hid h3
      have HG0 := Lib.hid hg0
      clear h3 hg0 hN3 HO2
      go_upto_block 10 with (fail)
      go_cut [12] (fun _ wx => OwG wN P Q N nb x.o.deps.length x.o.gone.length N3 3 A c y fb2 fd2 fg2 wx)
      case first =>
        as_aux_lemma =>
        go_wp2_with (fail)
        go_loopw [12] (fun i wr => ∃ k : Nat, i = .int .i64 k ∧ k ≤ 3 ∧ OwG wN P Q N nb x.o.deps.length x.o.gone.length N3 k A c y fb2 fd2 fg2 wr) (fun i _ => 3 - (intOf i).toNat)
        case atStart => exact ⟨0, rfl, by omega, HG0.out⟩
        case round =>
          obtain ⟨k, rfl, hk, hg⟩ := hrel
          have HG := Lib.hid hg
          clear hg HG0
          by_cases hlt : k < 3
          · have hki : (k : Int) < 3 := by omega
            obtain ⟨p0, p1, p2⟩ := HG.out.rows HS3.out hlt
            have HRB := Lib.hid (HG.out.rb k (Nat.le_refl k) hlt)
            have HRD := Lib.hid (HG.out.rd k (Nat.le_refl k) hlt)
            have hdl := HSM.out.dl
            have hgl := HSM.out.gl
            have HB0 := Lib.hid (show Ch N N3 (A k) 5 1 (nb + 0) (.slice (A k) nb (c k)) wr from ⟨_, _, _, rfl, HRB.out, fun b hb => .inl (by rwa [own_blk] at hb)⟩)
            have HD0 := Lib.hid (show Ch N N3 (y k).dA 23 2 (x.o.deps.length + 0) (.slice (y k).dA x.o.deps.length (y k).dc) wr from ⟨_, _, _, rfl, HRD.out, fun b hb => .inl (by rwa [own_blk] at hb)⟩)
            have HG1 := Lib.hid HG.out.next
            clear HRB HRD HG
            have hwa : IntKind.i64.wrap ((k : Int) + 101) = (k : Int) + 101 := IntWalk.i64_in _ ⟨by omega, by omega⟩
            have hwb : IntKind.i64.wrap (50 + (k : Int)) = 50 + (k : Int) := IntWalk.i64_in _ ⟨by omega, by omega⟩
            have hwc : IntKind.u8.wrap ((k : Int) + 101) = (k : Int) + 101 := IntWalk.u8_in _ ⟨by omega, by omega⟩
            go_wp2_with (fail)
            go_loopw [13, 14, 15, 16] (fun vb vd vg i wr => ∃ t : Nat, i = .int .i64 t ∧ t ≤ 40 ∧ OwG wN P Q N nb x.o.deps.length x.o.gone.length N3 (k + 1) A c y fb2 fd2 fg2 wr ∧ Ch N N3 (A k) 5 1 (nb + t) vb wr ∧ Ch N N3 (y k).dA 23 2 (x.o.deps.length + t) vd wr ∧ ((t = 0 ∧ vg = .slice (y k).gA x.o.gone.length x.o.gone.length) ∨ Ch N N3 (y k).gA 32 3 (x.o.gone.length + t) vg wr)) (fun _ _ _ i _ => 40 - (intOf i).toNat)
            case atStart => exact ⟨0, rfl, by omega, HG1.out, HB0.out, HD0.out, .inl ⟨rfl, rfl⟩⟩
            case round =>
              obtain ⟨t, rfl, ht, hg, hb, hd, hr⟩ := hrel
              by_cases htl : t < 40
              · obtain ⟨Ab, cb, xb, rfl, hob, hvb⟩ := hb
                have HG2 := Lib.hid hg
                have HD2 := Lib.hid hd
                have HR2 := Lib.hid hr
                have HOB := Lib.hid hob
                have HVB := Lib.hid hvb
                have hN1 : N ≤ wr.heap.size := by have := hg.le; have := HS3.out.NN; omega
                clear hg hd hr hob hvb HG1 HB0 HD0 p0 p1 p2
                go_wp2_with (at_builtin; refine wpList_append_stay eltBytes rfl _ _ rfl N _ (nb + t) xb rfl HOB.out 1 1 rfl rfl rfl (by omega) hN1 ?_)
                intro A2 c2 w3 HO3 HK3 HGo3 HX3
                have HG3 := Lib.hid (HG2.out.push HS3.out (f := 0) (by decide) hlt HOB.out HVB.out (by show (fb2 k).length ≤ _; rw [HS3.out.lb k hlt]; omega) HK3.out (fun g j u a b c => HX3.out g j u a (fun e => by have := b e; omega) c) (by decide) (by decide))
                have HB3 := Lib.hid (show Ch N N3 (A k) 5 1 (nb + t + 1) _ w3 from Ch.next HVB.out HG2.out.le HO3.out HGo3.out)
                have HD3 := Lib.hid (HD2.out.other HOB.out (by decide) HK3.out)
                have HR3 := Lib.hid (HR2.out.imp id fun h => h.other HOB.out (by decide) HK3.out)
                obtain ⟨_, _, xd, -, hod, hvd⟩ := HD3.out
                have HOD := Lib.hid hod
                have HVD := Lib.hid hvd
                have hN3 : N ≤ w3.heap.size := by have := HG3.out.le; have := HS3.out.NN; omega
                clear hod hvd HG2 HD2 HR2 HOB HVB HO3 HK3 HGo3 HX3 HD3 hN1
                go_wp2_with (at_builtin; refine wpList_append_stay eltDots rfl _ _ rfl N _ (x.o.deps.length + t) xd rfl HOD.out 1 1 rfl rfl rfl (by omega) hN3 ?_)
                intro A4 c4 w4 HO4 HK4 HGo4 HX4
                have HG4 := Lib.hid (HG3.out.push HS3.out (f := 1) (by decide) hlt HOD.out HVD.out (by show (fd2 k).length ≤ _; rw [HS3.out.ld k hlt]; omega) HK4.out HX4.out (by decide) (by decide))
                have HD4 := Lib.hid (show Ch N N3 (y k).dA 23 2 (x.o.deps.length + t + 1) _ w4 from Ch.next HVD.out HG3.out.le HO4.out HGo4.out)
                have HB4 := Lib.hid (HB3.out.other HOD.out (by decide) HK4.out)
                have HR4 := Lib.hid (HR3.out.imp id fun h => h.other HOD.out (by decide) HK4.out)
                have hN4 : N ≤ w4.heap.size := by have := HG4.out.le; have := HS3.out.NN; omega
                clear HG3 HB3 HR3 HOD HVD HO4 HK4 HGo4 HX4 hN3
                rcases HR4.out with ⟨rfl, rfl⟩ | ⟨_, _, xg, -, hog, hvg⟩
                · have HLG := Lib.hid (HS3.out.lg k hlt)
                  have HCG := Lib.hid (show CellsAt w4 (y k).gA (fg2 k) from HG4.out.cells 2 k (by decide) hlt)
                  have HNN := Lib.hid (show (y k).gA = none → x.o.gone.length = 0 from fun e => by
                    rcases Nat.eq_zero_or_pos x.o.gone.length with h0 | h0
                    · exact h0
                    · obtain ⟨g, hA, -⟩ := HCG.out 0 _ (List.getElem?_eq_getElem (by rw [HLG.out]; omega))
                      rw [e] at hA
                      cases hA)
                  clear HR4
                  go_wp2_with (at_builtin; refine wpList_append_clip eltRuns rfl _ _ rfl (y k).gA x.o.gone.length (fg2 k) rfl HNN.out HLG.out HCG.out 1 1 (by decide) rfl rfl rfl (by omega) ?_)
                  intro A5 c5 w5 HO5 HK5
                  have HG5 := Lib.hid (HG4.out.fresh HK5.out)
                  have HB5 := Lib.hid (HB4.out.fresh HK5.out)
                  have HD5 := Lib.hid (HD4.out.fresh HK5.out)
                  have HR5 := Lib.hid (show Ch N N3 (y k).gA 32 3 (x.o.gone.length + 1) (.slice A5 (x.o.gone.length + 1) c5) w5 from ⟨_, _, _, rfl, own_base HO5.out hN4, fun b hb => .inr (Nat.le_trans HG4.out.le (HO5.out.lt b hb).1)⟩)
                  clear HG4 HB4 HD4 HO5 HK5 HCG HNN HLG hN4
                  go_wp2_with (fail)
                  go_roundw
                  case rel => exact ⟨1, by go_num, by omega, HG5.out, HB5.out, HD5.out, .inr HR5.out⟩
                  case measure => simp [intOf]
                · have HOG := Lib.hid hog
                  have HVG := Lib.hid hvg
                  clear HR4 hog hvg
                  go_wp2_with (at_builtin; refine wpList_append_stay eltRuns rfl _ _ rfl N _ (x.o.gone.length + t) xg rfl HOG.out 1 1 rfl rfl rfl (by omega) hN4 ?_)
                  intro A5 c5 w5 HO5 HK5 HGo5 HX5
                  have HG5 := Lib.hid (HG4.out.push HS3.out (f := 2) (by decide) hlt HOG.out HVG.out (by show (fg2 k).length ≤ _; rw [HS3.out.lg k hlt]; omega) HK5.out HX5.out (by decide) (by decide))
                  have HR5 := Lib.hid (show Ch N N3 (y k).gA 32 3 (x.o.gone.length + t + 1) _ w5 from Ch.next HVG.out HG4.out.le HO5.out HGo5.out)
                  have HB5 := Lib.hid (HB4.out.other HOG.out (by decide) HK5.out)
                  have HD5 := Lib.hid (HD4.out.other HOG.out (by decide) HK5.out)
                  clear HG4 HB4 HD4 HOG HVG HO5 HK5 HGo5 HX5 hN4
                  go_wp2_with (fail)
                  go_roundw
                  case rel => exact ⟨t + 1, by go_num, by omega, HG5.out, HB5.out, HD5.out, .inr HR5.out⟩
                  case measure => simp [intOf]; omega
              · have HG2 := Lib.hid hg
                clear hg hb hd hr HG1 HB0 HD0 p0 p1 p2
                go_wp2_with (fail)
                go_roundw
                case rel => exact ⟨k + 1, by go_num, by omega, HG2.out⟩
                case measure => simp [intOf]; omega
          · obtain rfl : k = 3 := by omega
            go_wp2_with (fail)
            go_meet
            case rel => exact HG.out
      case rest =>
      have HG3 := Lib.hid hcut
      clear hcut HG0
      go_upto_block 14 with (fail)
      go_cut [17] (fun _ wx => OwG wN P Q N nb x.o.deps.length x.o.gone.length N3 3 A c y fb2 fd2 fg2 wx)
      case first =>
        as_aux_lemma =>
        go_wp2_with (fail)
        go_loopw [17] (fun i wr => ∃ k : Nat, i = .int .i64 k ∧ k ≤ 3 ∧ OwG wN P Q N nb x.o.deps.length x.o.gone.length N3 3 A c y fb2 fd2 fg2 wr) (fun i _ => 3 - (intOf i).toNat)
        case atStart => exact ⟨0, rfl, by omega, HG3.out⟩
        case round =>
          obtain ⟨k, rfl, hk, hg⟩ := hrel
          have HG := Lib.hid hg
          clear hg HG3
          by_cases hlt : k < 3
          · go_upto_block 16 with (fail)
            go_cut [18] (fun _ wx => OwG wN P Q N nb x.o.deps.length x.o.gone.length N3 3 A c y fb2 fd2 fg2 wx)
            case first =>
              as_aux_lemma =>
              go_wp2_with (fail)
              go_loopw [18] (fun i wr => ∃ t : Nat, i = .int .i64 t ∧ t ≤ nb ∧ OwG wN P Q N nb x.o.deps.length x.o.gone.length N3 3 A c y fb2 fd2 fg2 wr) (fun i _ => nb - (intOf i).toNat)
              case atStart => exact ⟨0, rfl, by omega, HG.out⟩
              case round =>
                obtain ⟨t, rfl, ht, hg⟩ := hrel
                have HG2 := Lib.hid hg
                clear hg HG
                have p0 := (HG2.out.rows HS3.out hlt).1
                by_cases htn : t < nb
                · obtain ⟨g, hA, hc⟩ := HG2.out.cells 0 k (by decide) hlt t _ (HV2.out.b k hlt t htn)
                  have hA' : A k = some ⟨g, 0, none⟩ := hA
                  rw [hA'] at p0
                  unfold TB at hc
                  clear hA hA'
                  go_wp2_with (fail)
                  go_roundw
                  case rel => exact ⟨t + 1, by go_num, by omega, HG2.out⟩
                  case measure => simp [intOf]; omega
                · obtain rfl : t = nb := by omega
                  go_wp2_with (fail)
                  go_meet
                  case rel => exact HG2.out
            case rest =>
            have HG4 := Lib.hid hcut
            clear hcut HG
            go_upto_block 18 with (fail)
            go_cut [19] (fun _ wx => OwG wN P Q N nb x.o.deps.length x.o.gone.length N3 3 A c y fb2 fd2 fg2 wx)
            case first =>
              as_aux_lemma =>
              go_wp2_with (fail)
              go_loopw [19] (fun i wr => ∃ t : Nat, i = .int .i64 t ∧ t ≤ x.o.deps.length ∧ OwG wN P Q N nb x.o.deps.length x.o.gone.length N3 3 A c y fb2 fd2 fg2 wr) (fun i _ => x.o.deps.length - (intOf i).toNat)
              case atStart => exact ⟨0, rfl, by omega, HG4.out⟩
              case round =>
                obtain ⟨t, rfl, ht, hg⟩ := hrel
                have HG2 := Lib.hid hg
                clear hg HG4
                have p0 := (HG2.out.rows HS3.out hlt).2.1
                have hdl := HSM.out.dl
                by_cases htn : t < x.o.deps.length
                · obtain ⟨g, hA, hc0⟩ := HG2.out.cells 1 k (by decide) hlt (t * 2) _ (HV2.out.d k hlt (t * 2) (by omega))
                  obtain ⟨g', hA2, hc1⟩ := HG2.out.cells 1 k (by decide) hlt (t * 2 + 1) _ (HV2.out.d k hlt (t * 2 + 1) (by omega))
                  have hA' : (y k).dA = some ⟨g, 0, none⟩ := hA
                  have hA2' : (y k).dA = some ⟨g', 0, none⟩ := hA2
                  have hgg : g' = g := by rw [hA'] at hA2'; injection hA2' with e; injection e with e; exact e.symm
                  subst hgg
                  rw [hA'] at p0
                  rw [show TD k (t * 2) = .int .i64 (k : Int) by unfold TD; split <;> rfl] at hc0
                  rw [show TD k (t * 2 + 1) = .int .i64 (k : Int) by unfold TD; split <;> rfl] at hc1
                  have hq := fun W => neq_dot (k : Int) (k : Int) (k : Int) (k : Int) W
                  rw [show (!(decide ((k : Int) = k ∧ (k : Int) = k))) = false by simp] at hq
                  clear hA hA' hA2 hA2'
                  go_wp2_with (fail)
                  go_roundw
                  case rel => exact ⟨t + 1, by go_num, by omega, HG2.out⟩
                  case measure => simp [intOf]; omega
                · obtain rfl : t = x.o.deps.length := by omega
                  go_wp2_with (fail)
                  go_meet
                  case rel => exact HG2.out
            case rest =>
            have HG5 := Lib.hid hcut
            clear hcut HG4
            go_wp2_with (fail)
            go_loopw [20] (fun i wr => ∃ t : Nat, i = .int .i64 t ∧ t ≤ x.o.gone.length ∧ OwG wN P Q N nb x.o.deps.length x.o.gone.length N3 3 A c y fb2 fd2 fg2 wr) (fun i _ => x.o.gone.length - (intOf i).toNat)
            case atStart => exact ⟨0, rfl, by omega, HG5.out⟩
            case round =>
              obtain ⟨t, rfl, ht, hg⟩ := hrel
              have HG2 := Lib.hid hg
              clear hg HG5
              have p0 := (HG2.out.rows HS3.out hlt).2.2
              have hgl := HSM.out.gl
              have hw : IntKind.i64.wrap (100 + (k : Int)) = 100 + (k : Int) := IntWalk.i64_in _ ⟨by omega, by omega⟩
              by_cases htn : t < x.o.gone.length
              · obtain ⟨g, hA, hc⟩ := HG2.out.cells 2 k (by decide) hlt (t * 3 + 2) _ (HV2.out.g k hlt (t * 3 + 2) (by omega))
                have hA' : (y k).gA = some ⟨g, 0, none⟩ := hA
                rw [hA'] at p0
                rw [show TG k (t * 3 + 2) = .int .i64 (100 + (k : Int)) by unfold TG; rw [if_pos (by omega)]; rfl] at hc
                clear hA hA'
                go_wp2_with (fail)
                go_roundw
                case rel => exact ⟨t + 1, by go_num, by omega, HG2.out⟩
                case measure => simp [intOf]; omega
              · obtain rfl : t = x.o.gone.length := by omega
                go_wp2_with (fail)
                go_roundw
                case rel => exact ⟨k + 1, by go_num, by omega, HG2.out⟩
                case measure => simp [intOf]; omega
          · obtain rfl : k = 3 := by omega
            go_wp2_with (fail)
            go_meet
            case rel => exact HG.out
      case rest =>
      have HG4 := Lib.hid hcut
      clear hcut HG3
      have hb1 := HOX.out.box HG4.out.kp
      go_wp2_with (refine wpList_load_op rfl _ rfl w.heap.size rfl _ cs HSX.out hb1 ?_)
      refine (HENX.out wc HG4.out.kp).mono ?_
      rintro r w3 ⟨A1, c1, rfl, hbs, -, hk3⟩
      have HBS := Lib.hid hbs.b
      have HK3 := Lib.hid (HG4.out.kp.trans hk3 fun _ _ e => e.elim)
      clear hbs hk3 hb1 HG4
      go_wp2_with (fail)
      refine (HDEX.out w3 HK3.out).mono ?_
      rintro r w4 ⟨z, gz, rfl, hzo, hz, -, -, -, hk4⟩
      have HBS4 := Lib.hid (HBS.out.fresh hk4)
      have HK4 := Lib.hid (HK3.out.trans hk4 fun _ _ e => e.elim)
      have HZO := Lib.hid (show z.o = x.o from hzo)
      have HZA := Lib.hid hz
      have HSZ := Lib.hid (show z.c.size = 11 from rfl)
      have HON := Lib.hid (show z.c.all (·.oneCell') = true from Opr.cells_one _ _ _ _ _)
      obtain ⟨zs, hzs⟩ : ∃ zs, z.c = zs := ⟨_, rfl⟩
      have HZS := Lib.hid hzs
      rw [hzs] at HSZ HON ⊢
      clear hk4 hzo hz hzs HBS HK3
      have hka : Kept (fun _ => False) w4 (w4.alloc (.cells zeroC 30)) := (Kept.refl _ _).alloc _
      have HBX := Lib.hid (Box.new w4 30 zeroC)
      go_wp2_with (refine wpList_store_box rfl 30 _ _ rfl w4.heap.size zs rfl rfl 30 zeroC HBX.out (by rw [HSZ.out]; exact size_op) HSZ.out.symm HON.out ?_; intro w5 HV5 hk5; refine Hid.out ?_)
      refine Lib.hid ?_
      have hk45 : Kept (fun _ => False) w4 w5 := hka.trans hk5 fun k hk e => by omega
      have HBS5 := Lib.hid (HBS4.out.fresh hk45)
      have HK5 := Lib.hid (HK4.out.trans hk45 fun _ _ e => e.elim)
      have HZ5 := Lib.hid (HZA.out.fresh hk45)
      obtain ⟨M, hM⟩ : ∃ M, w4.heap.size = M := ⟨_, rfl⟩
      rw [hM] at HV5 ⊢
      clear hka hk5 hk45 HBX HBS4 HK4 HZA hM
      have hby := Bytes8_any (some ad) A1 (encOp x.o) (encOp x.o) c0 c1 w5 (HOX.out.bytes HK5.out).b HBS5.out (by rw [HNB.out]; omega)
      rw [decide_eq_true rfl, HNB.out] at hby
      have HBYT := Lib.hid hby
      clear hby
      go_wp2_with (fail)
      refine HBYT.out.mono ?_
      unfold SamePost
      rintro r w6 ⟨rfl, hk6⟩
      have HK6 := Lib.hid (HK5.out.trans hk6 fun _ _ e => e.elim)
      have HZ6 := Lib.hid (HZ5.out.fresh hk6)
      have HV6 := Lib.hid (HV5.out.kept hk6 id)
      have hb6 := HOX.out.box HK6.out
      clear hk6 HK5 HZ5 HV5 HBS5 HBYT
      go_wp2_with (first | (refine wpList_unguard rfl ?_; refine wpList_load_op rfl _ rfl M rfl _ zs HSZ.out HV6.out ?_) | (refine wpList_unguard rfl ?_; refine wpList_load_op rfl _ rfl w.heap.size rfl _ cs HSX.out hb6 ?_))
      have hcall := HSA.out z w6 HZ6.out (HOX.out.at HK6.out) (by rw [HZO.out]; exact HSM.out)
      rw [HZS.out] at hcall
      refine hcall.mono ?_
      clear hcall hb6
      rintro r w7 ⟨bb, rfl, hbb, hk7⟩
      obtain rfl : bb = true := hbb.2 HZO.out
      have HK7 := Lib.hid (HOX.out.all (HK6.out.trans hk7 fun _ _ e => e.elim))
      clear hk7 hbb HK6 HZ6 HV6
      go_wp2_with (fail)
      refine (Known8_any w7).mono ?_
      rintro r k9 ⟨rfl, hk⟩
      have HK8 := Lib.hid (HK7.out.trans hk fun _ _ e => e)
      clear hk
      go_wp2_with (fail)
      go_ret
      exact ⟨rfl, HK8.out⟩
end Go.Proofs.Ytnlklhlnnoihiaa
