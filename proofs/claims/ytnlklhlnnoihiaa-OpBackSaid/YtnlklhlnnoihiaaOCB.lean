/- A guarded operation whose guard is met. No condition. · Encode and Decode in a form that laws use; bytes of one operation are no beginning of another's. Conditions: what is handed in lies in memory. · The walk of OpBack: it is true. Conditions: both operations lie in memory. · The row's last step for a law: it returns true, and below the old heap's end nothing has turned: so each argument reads as it did. No condition. · OpBack returns true for any two operations, and leaves what was there as it was. No condition. -/
import Derived.Test.YtnlklhlnnoihiaaMO39
import Derived.Test.YtnlklhlnnoihiaaRows
import Derived.Test.YtnlklhlnnoihiaaMO1
import Derived.ProofKit
import Derived.OpenShut
import Derived.Test.YtnlklhlnnoihiaaMO12
namespace Go.Proofs.Ytnlklhlnnoihiaa
open Go Go.RowKit

theorem wpList_unguard {P : Program} {ops : Array Oper} {Q : Exit → Act → World → Prop} {a : Act} {w : World} {rest : List Oper} {o : Oper} (hw : Region.wanted o (yielded ops a.tmps) = true) (h : wpList P ops Q ({ o with guard := none } :: rest) a w) : wpList P ops Q (o :: rest) a w := by
  unfold wpList at h ⊢
  rw [if_pos hw]
  rw [if_pos (by rfl)] at h
  exact h
end Go.Proofs.Ytnlklhlnnoihiaa

namespace Go.Proofs.Ytnlklhlnnoihiaa
open Go Go.RowKit

def encL (o : Opr) : List Int := if okOp o = true then encOp o else []
theorem encL_ok {o : Opr} (h : okOp o = true) : encL o = encOp o := if_pos h
theorem encL_no {o : Opr} (h : okOp o = false) : encL o = [] := if_neg (by rw [h]; decide)
theorem opE_ok {o : Opr} (h : okOp o = true) : opE o = 0 := if_pos h
theorem opE_no {o : Opr} (h : okOp o = false) : opE o = 10 := if_neg (by rw [h]; decide)
/-- Bytes in memory. -/
structure BsAt (w : World) (A : Option Addr) (l : List Int) : Prop where
  b : BytesAt w A l
  n : A = none → l = []
  lt : ∀ a, A = some a → a.block < w.heap.size
theorem BsAt.fresh {w w' : World} {A : Option Addr} {l : List Int} (h : BsAt w A l) (hk : Kept (fun _ => False) w w') : BsAt w' A l := ⟨h.b.fresh hk, h.n, fun a ha => Nat.lt_of_lt_of_le (h.lt a ha) hk.size⟩
theorem BsAt.of_own {w : World} {base c : Nat} {A : Option Addr} {l : List Int} (h : w.ownsRow base 5 1 (.slice A l.length c) l.length (bys l)) : BsAt w A l := by
  refine ⟨BytesAt.of_own h, fun e => ?_, fun a ha => ?_⟩
  · subst e
    rcases h.2 with ⟨_, h'⟩ | ⟨g, cap, cur, h', -⟩
    · exact List.eq_nil_of_length_eq_zero h'
    · injection h' with h'; cases h'
  · subst ha
    exact (h.lt a.block rfl).2
theorem BsAt.none (w : World) : BsAt w none [] := ⟨fun k hk => absurd hk (by simp), fun _ => rfl, fun a ha => by cases ha⟩
theorem encOp_byte (o : Opr) : isByte (encOp o) := by
  unfold encOp encT
  refine isByte_app (encs_byte _) (isByte_app (encs_byte _) ?_)
  split
  · exact isByte_app (encs_byte _) (isByte_app (enc_byte _) (tb_byte _))
  split
  · exact encs_byte _
  split
  · exact encs_byte _
  · intro b hb; cases hb
def EncS (w : World) (o : Opr) (r : Ending) (w' : World) : Prop := ∃ A c, r = .returned (.tuple #[.slice A (encL o).length c, .int .i64 (opE o)]) ∧ BsAt w' A (encL o) ∧ w'.ownsRow w.heap.size 5 1 (.slice A (encL o).length c) (encL o).length (bys (encL o)) ∧ Kept (fun _ => False) w w'
theorem EncS_any (x : Lop) (w : World) (hx : x.At w) (hs : x.o.Small) : Calls Try.prog 33 #[.agg x.c] w (EncS w x.o) := by
  refine (OpEncode_any x w hx hs).mono fun r w' h => ?_
  unfold EncPost at h
  cases hok : okOp x.o with
  | true =>
    rw [if_pos hok] at h
    obtain ⟨A, c, rfl, ho, hk⟩ := h
    unfold EncS
    rw [encL_ok hok, opE_ok hok]
    exact ⟨A, c, rfl, BsAt.of_own ho, ho, hk⟩
  | false =>
    rw [if_neg (by rw [hok]; decide)] at h
    obtain ⟨rfl, hk⟩ := h
    unfold EncS
    rw [encL_no hok, opE_no hok]
    exact ⟨none, 0, rfl, BsAt.none _, World.ownsRow_nil _ _ _ _, hk⟩
def DecS (w : World) (x : Int × Opr) (r : Ending) (w' : World) : Prop := ∃ (y : Lop) (gc : Nat), r = .returned (.tuple #[.agg y.c, .int .i64 x.1]) ∧ y.o = x.2 ∧ y.At w' ∧ y.gc = y.o.gone.length ∧ w'.ownsRow w.heap.size 23 2 y.dV y.o.deps.length (dots y.o.deps) ∧ w'.ownsRow w.heap.size 32 3 (.slice y.gA y.o.gone.length gc) y.o.gone.length (runs y.o.gone) ∧ Kept (fun _ => False) w w'
theorem DecS_any (A : Option Addr) (b : List Int) (c : Nat) (w : World) (hb : BsAt w A b) (hlen : b.length ≤ 100000000) (hby : isByte b) (hsm : (takeR ⟨b, 0⟩).1 = 0 → (takeR ⟨b, 0⟩).2.1.Small) :
    Calls Try.prog 20 #[.slice A b.length c] w (DecS w (decO b)) := by
  refine (OpDecode_any A b c w hb.b hb.n hlen hby hsm).mono fun r w' h => ?_
  obtain ⟨dA, dc, gA, gc, rfl, hd, hg, hk⟩ := h
  exact ⟨⟨(decO b).2, dA, dc, gA, (decO b).2.gone.length⟩, gc, rfl, rfl, ⟨DotsAt.of_own hd, RunsAt.of_own hg⟩, rfl, hd, hg, hk⟩
theorem DecS_enc (x : Opr) (A : Option Addr) (c : Nat) (w : World) (hb : BsAt w A (encL x)) (hok : okOp x = true) (hs : x.Small) : Calls Try.prog 20 #[.slice A (encL x).length c] w (DecS w (0, x)) := by
  have h := takeR_enc hok hs []
  rw [List.append_nil] at h
  rw [encL_ok hok] at hb ⊢
  have := DecS_any A (encOp x) c w hb (Nat.le_trans (encOp_len x hok hs) (by decide)) (encOp_byte x) (fun _ => by rw [h]; exact hs)
  rwa [decO_enc hok hs] at this
theorem enc_begins {x y : Opr} (hx : okOp x = true) (hy : okOp y = true) (sx : x.Small) (sy : y.Small) {t : List Int} (h : encOp y = encOp x ++ t) : x = y := by
  have h1 := takeR_enc hx sx t
  have h2 := takeR_enc hy sy []
  rw [List.append_nil, h, h1] at h2
  injection h2 with _ h2
  injection h2 with h2 _
theorem enc_take {x y : Opr} (hx : okOp x = true) (hy : okOp y = true) (sx : x.Small) (sy : y.Small) {n : Nat} (hn : n = min (encOp x).length (encOp y).length) (h : (encOp x).take n = (encOp y).take n) : x = y := by
  rcases Nat.le_total (encOp x).length (encOp y).length with hl | hl
  · rw [Nat.min_eq_left hl] at hn
    subst hn
    rw [List.take_length] at h
    exact enc_begins hx hy sx sy (t := (encOp y).drop (encOp x).length) (by conv => lhs; rw [← List.take_append_drop (encOp x).length (encOp y), ← h])
  · rw [Nat.min_eq_right hl] at hn
    subst hn
    rw [List.take_length] at h
    exact (enc_begins hy hx sy sx (t := (encOp x).drop (encOp y).length) (by conv => lhs; rw [← List.take_append_drop (encOp y).length (encOp x), h])).symm
end Go.Proofs.Ytnlklhlnnoihiaa

namespace Go.Proofs.Ytnlklhlnnoihiaa
open Go Go.RowKit

theorem encOp_pos (o : Opr) : 0 < (encOp o).length := by
  unfold encOp encs
  have := enc_pos o.kind.toNat
  simp only [List.flatMap_cons, List.length_append]
  omega
/-- Two operations in their boxes. -/
structure BkAt (w : World) (x y : Lop) (cs ds : Array Value) (W : World) : Prop where
  bx : Box W w.heap.size 30 cs
  by_ : Box W (w.heap.size + 1) 30 ds
  x : x.At W
  y : y.At W
  k : Kept (fun _ => False) w W
theorem BkAt.fresh {w W W' : World} {x y : Lop} {cs ds : Array Value} (h : BkAt w x y cs ds W) (hk : Kept (fun _ => False) W W') : BkAt w x y cs ds W' := ⟨h.bx.kept hk id, h.by_.kept hk id, h.x.fresh hk, h.y.fresh hk, h.k.trans hk fun _ _ e => e⟩
theorem small_of {o : Opr} (h : isLong o = false) (hc : ∀ r ∈ o.gone, inI r.count) : o.Small := by
  have := of_decide_eq_false h
  exact ⟨hc, by omega, by omega, by omega⟩
set_option maxRecDepth 100000 in
set_option maxHeartbeats 3200000 in
theorem Back_walk (x y : Lop) (w : World) (hx : x.At w) (hy : y.At w) (hc : ∀ r ∈ x.o.gone, inI r.count) (hd : ∀ r ∈ y.o.gone, inI r.count) :
    Calls Try.prog 6 #[.agg x.c, .agg y.c] w (KnownPost w) := by
  have hk0 : Kept (fun _ => False) w ((w.alloc (.cells x.c 30)).alloc (.cells y.c 30)) := ((Kept.refl _ _).alloc _).alloc _
  have HZ := Lib.hid (show BkAt w x y x.c y.c ((w.alloc (.cells x.c 30)).alloc (.cells y.c 30)) from ⟨(Box.new w 30 x.c).alloc _, (Box.new (w.alloc (.cells x.c 30)) 30 y.c).at_eq (show _ = w.heap.size + 1 by simp), hx.fresh hk0, hy.fresh hk0, hk0⟩)
  have HC := Lib.hid hc
  have HD := Lib.hid hd
  have HLX := Lib.hid (fun W => Long_any x W)
  have HLY := Lib.hid (fun W => Long_any y W)
  have HEX := Lib.hid (fun W (h1 : x.At W) (h2 : x.o.Small) => EncS_any x W h1 h2)
  have HEY := Lib.hid (fun W (h1 : y.At W) (h2 : y.o.Small) => EncS_any y W h1 h2)
  have HCX := Lib.hid (fun W (h1 : x.At W) (h2 : x.o.Small) => Check_lop x W h1 h2)
  have HSA := Lib.hid (fun (z : Lop) W (h0 : z.At W) (h1 : x.At W) (h2 : z.o.Small) => Same8_any z x W h0 h1 h2.dl h2.gl)
  have HSB := Lib.hid (fun W (h0 : x.At W) (h1 : y.At W) (h2 : x.o.Small) => Same8_any x y W h0 h1 h2.dl h2.gl)
  obtain ⟨cs, hcs⟩ : ∃ cs, x.c = cs := ⟨_, rfl⟩
  obtain ⟨ds, hds⟩ : ∃ ds, y.c = ds := ⟨_, rfl⟩
  have HSX := Lib.hid (show cs.size = 11 by rw [← hcs]; rfl)
  have HSY := Lib.hid (show ds.size = 11 by rw [← hds]; rfl)
  rw [hcs] at HZ HLX HEX HCX HSA HSB ⊢
  rw [hds] at HZ HLY HEY HSB ⊢
  clear hk0 hx hy hc hd hcs hds
  go_enter Try.func6, Try.ntmps6
  go_upto_region 1 with (fail)
  generalize (w.alloc (.cells cs 30)).alloc (.cells ds 30) = w0 at HZ ⊢
  go_wp2_with (refine wpList_load_op rfl _ rfl w.heap.size rfl _ cs HSX.out HZ.out.bx ?_)
  refine (HLX.out w0).mono ?_
  cases hl : isLong x.o with
  | true =>
    rintro r w1 ⟨rfl, hk⟩
    have HK1 := Lib.hid (HZ.out.k.trans hk fun _ _ e => e)
    clear hk
    go_wp2_with (fail)
    refine (Known8_any w1).mono ?_
    rintro r k1 ⟨rfl, hk⟩
    have HK2 := Lib.hid (HK1.out.trans hk fun _ _ e => e)
    clear hk
    go_wp2_with (fail)
    go_ret
    exact ⟨rfl, HK2.out⟩
  | false =>
    rintro r w1 ⟨rfl, hk⟩
    have HXS := Lib.hid (small_of hl HC.out)
    have HZ1 := Lib.hid (HZ.out.fresh hk)
    clear hk hl HZ HLX
    go_wp2_with (refine wpList_unguard rfl ?_; refine wpList_load_op rfl _ rfl (w.heap.size + 1) rfl _ ds HSY.out HZ1.out.by_ ?_)
    refine (HLY.out w1).mono ?_
    cases hl : isLong y.o with
    | true =>
      rintro r w2 ⟨rfl, hk⟩
      have HK1 := Lib.hid (HZ1.out.k.trans hk fun _ _ e => e)
      clear hk
      go_wp2_with (fail)
      refine (Known8_any w2).mono ?_
      rintro r k1 ⟨rfl, hk⟩
      have HK2 := Lib.hid (HK1.out.trans hk fun _ _ e => e)
      clear hk
      go_wp2_with (fail)
      go_ret
      exact ⟨rfl, HK2.out⟩
    | false =>
      rintro r w2 ⟨rfl, hk⟩
      have HYS := Lib.hid (small_of hl HD.out)
      have HZ2 := Lib.hid (HZ1.out.fresh hk)
      clear hk hl HZ1 HLY
      go_wp2_with (refine wpList_load_op rfl _ rfl w.heap.size rfl _ cs HSX.out HZ2.out.bx ?_)
      refine (HEX.out w2 HZ2.out.x HXS.out).mono ?_
      unfold EncS
      cases hok : okOp x.o with
      | false =>
        have HC0 := Lib.hid (fun W h1 h2 => show Calls Try.prog _ #[.agg cs] W (IntPost W 10) by have := HCX.out W h1 h2; rwa [opE_no hok] at this)
        rw [encL_no hok, opE_no hok]
        rintro r w3 ⟨A, c, rfl, hb, -, hk⟩
        have HZ3 := Lib.hid (HZ2.out.fresh hk)
        clear hb hk hok HZ2 HEX HCX
        go_wp2_with (refine wpList_load_op rfl _ rfl w.heap.size rfl _ cs HSX.out HZ3.out.bx ?_)
        refine (HC0.out w3 HZ3.out.x HXS.out).mono ?_
        unfold IntPost
        rintro r w4 ⟨rfl, hk⟩
        have HK4 := Lib.hid (HZ3.out.k.trans hk fun _ _ e => e)
        clear hk
        go_wp2_with (fail)
        refine (Known8_any w4).mono ?_
        rintro r k1 ⟨rfl, hk⟩
        have HK5 := Lib.hid (HK4.out.trans hk fun _ _ e => e)
        clear hk
        go_wp2_with (fail)
        go_ret
        exact ⟨rfl, HK5.out⟩
      | true =>
        have HC0 := Lib.hid (fun W h1 h2 => show Calls Try.prog _ #[.agg cs] W (IntPost W 0) by have := HCX.out W h1 h2; rwa [opE_ok hok] at this)
        have HOK := Lib.hid hok
        have HDX := Lib.hid (fun A c W h => DecS_enc x.o A c W h hok HXS.out)
        rw [encL_ok hok, opE_ok hok]
        rw [encL_ok hok] at HDX
        rintro r w3 ⟨A, c, rfl, hb, ho, hk⟩
        have HZ3 := Lib.hid (HZ2.out.fresh hk)
        have HB3 := Lib.hid hb
        have hcap := (own_cap ho).1
        obtain ⟨ad, hA, -⟩ := hb.b 0 (encOp_pos x.o)
        subst hA
        clear hb hk hok ho HZ2 HEX HCX
        go_wp2_with (refine wpList_load_op rfl _ rfl w.heap.size rfl _ cs HSX.out HZ3.out.bx ?_)
        refine (HC0.out w3 HZ3.out.x HXS.out).mono ?_
        unfold IntPost
        rintro r w4 ⟨rfl, hk⟩
        have HZ4 := Lib.hid (HZ3.out.fresh hk)
        have HB4 := Lib.hid (HB3.out.fresh hk)
        clear hk HZ3 HB3 HC0
        go_wp2_with (fail)
        refine (HDX.out (some ad) c w4 HB4.out).mono ?_
        rintro r w5 ⟨z, gc, rfl, hzo, hz, -, -, -, hk⟩
        have HZ5 := Lib.hid (HZ4.out.fresh hk)
        have HB5 := Lib.hid (HB4.out.fresh hk)
        have HZO := Lib.hid hzo
        have HZL := Lib.hid hz
        have HSZ := Lib.hid (show z.c.size = 11 from rfl)
        have HON := Lib.hid (show z.c.all (·.oneCell') = true from Opr.cells_one _ _ _ _ _)
        obtain ⟨zs, hzs⟩ : ∃ zs, z.c = zs := ⟨_, rfl⟩
        have HZS := Lib.hid hzs
        rw [hzs] at HSZ HON ⊢
        clear hk hzo hz hzs HZ4 HB4 HDX
        have hka : Kept (fun _ => False) w5 (w5.alloc (.cells zeroC 30)) := (Kept.refl _ _).alloc _
        have HBN := Lib.hid (Box.new w5 30 zeroC)
        have HZA := Lib.hid (HZ5.out.bx.kept hka id)
        have HYA := Lib.hid (HZ5.out.by_.kept hka id)
        have hl0 := HZ5.out.bx.lt
        have hl1 := HZ5.out.by_.lt
        go_wp2_with (refine wpList_store_box rfl 30 _ _ rfl w5.heap.size zs rfl rfl 30 zeroC HBN.out (by rw [HSZ.out]; exact size_op) HSZ.out.symm HON.out ?_; intro w6 HB6 hk6; refine Hid.out ?_)
        refine Lib.hid ?_
        have hk56 : Kept (fun _ => False) w5 w6 := hka.trans hk6 fun k hk e => by omega
        have HZ6 := Lib.hid (HZ5.out.fresh hk56)
        have HA6 := Lib.hid (HB5.out.fresh hk56)
        have HL6 := Lib.hid (HZL.out.fresh hk56)
        obtain ⟨N, hN⟩ : ∃ N, w5.heap.size = N := ⟨_, rfl⟩
        rw [hN] at HB6 ⊢
        clear hka hk6 hk56 HBN HZA HYA hl0 hl1 HZ5 HB5 HZL hN
        go_wp2_with (first | (refine wpList_unguard rfl ?_; refine wpList_load_op rfl _ rfl N rfl _ zs HSZ.out HB6.out ?_) | (refine wpList_unguard rfl ?_; refine wpList_load_op rfl _ rfl w.heap.size rfl _ cs HSX.out HZ6.out.bx ?_))
        have hcall := HSA.out z w6 HL6.out HZ6.out.x (by rw [HZO.out]; exact HXS.out)
        rw [HZS.out] at hcall
        refine hcall.mono ?_
        clear hcall
        rintro r w7 ⟨b, rfl, hb, hk⟩
        obtain rfl : b = true := hb.2 HZO.out
        have HZ7 := Lib.hid (HZ6.out.fresh hk)
        have HA7 := Lib.hid (HA6.out.fresh hk)
        clear hb hk HZ6 HA6 HL6 HB6 HSA
        go_wp2_with (refine wpList_load_op rfl _ rfl (w.heap.size + 1) rfl _ ds HSY.out HZ7.out.by_ ?_)
        refine (HEY.out w7 HZ7.out.y HYS.out).mono ?_
        unfold EncS
        cases hok : okOp y.o with
        | false =>
          rw [encL_no hok, opE_no hok]
          rintro r w8 ⟨B, e, rfl, hb, -, hk⟩
          have HK8 := Lib.hid (HZ7.out.k.trans hk fun _ _ e => e)
          clear hb hk hok HZ7
          go_wp2_with (fail)
          refine (Known8_any w8).mono ?_
          rintro r k1 ⟨rfl, hk⟩
          have HK9 := Lib.hid (HK8.out.trans hk fun _ _ e => e)
          clear hk
          go_wp2_with (fail)
          go_ret
          exact ⟨rfl, HK9.out⟩
        | true =>
          have HOY := Lib.hid hok
          rw [encL_ok hok, opE_ok hok]
          rintro r w8 ⟨B, e, rfl, hb, ho, hk⟩
          have HZ8 := Lib.hid (HZ7.out.fresh hk)
          have HA8 := Lib.hid (HA7.out.fresh hk)
          have HB8 := Lib.hid hb
          have hcap' := (own_cap ho).1
          obtain ⟨bd, hB, -⟩ := hb.b 0 (encOp_pos y.o)
          subst hB
          have HPR := Lib.hid (fun n (hn : n = min (encOp x.o).length (encOp y.o).length) (h : (encOp x.o).take n = (encOp y.o).take n) => enc_take HOK.out hok HXS.out HYS.out hn h)
          have hlx := encOp_len x.o HOK.out HXS.out
          have hly := encOp_len y.o hok HYS.out
          clear hb hk hok ho HZ7 HA7 HEY
          obtain ⟨la, hla⟩ : ∃ la, encOp x.o = la := ⟨_, rfl⟩
          obtain ⟨lb, hlb⟩ : ∃ lb, encOp y.o = lb := ⟨_, rfl⟩
          have HEQ := Lib.hid (show x.o = y.o → la = lb from fun e => by rw [← hla, ← hlb, e])
          rw [hla] at HA8 HPR hcap hlx ⊢
          rw [hlb] at HB8 HPR hcap' hly ⊢
          clear hla hlb
          go_upto_if 67 with (fail)
          go_cut [10] (fun v wx => (∃ n : Nat, v = .int .i64 n ∧ n = min la.length lb.length) ∧ w8 = wx)
          case first =>
            by_cases hlt : lb.length < la.length
            · go_wp2
              go_meet
              case rel => exact ⟨⟨_, rfl, by omega⟩, rfl⟩
            · go_wp2
              go_meet
              case rel => exact ⟨⟨_, rfl, by omega⟩, rfl⟩
          case rest =>
          obtain ⟨⟨n, rfl, hn⟩, rfl⟩ := hcut
          have HN := Lib.hid hn
          have hn1 : n ≤ c := by omega
          have hn2 : n ≤ e := by omega
          have hn3 : n ≤ la.length := by omega
          have hn4 : n ≤ lb.length := by omega
          clear hn
          go_upto_region 17 with (fail)
          have hkd : Kept (fun _ => False) w8 w8.drew := (Kept.refl _ _).drew
          have HZ9 := Lib.hid (HZ8.out.fresh hkd)
          have HA9 := Lib.hid (HA8.out.fresh hkd)
          have HB9 := Lib.hid (HB8.out.fresh hkd)
          clear hkd HZ8 HA8 HB8
          refine wp_region_held_drew (S := fun Wz => Kept (fun _ => False) w8.drew Wz) (by kernel_rfl) (Kept.refl _ _) fun hS => ?_
          generalize w8.drew = W at HZ9 HA9 HB9 hS ⊢
          refine held_takeTo 70 (i := 0) (v := .slice (some ad) la.length c) rfl rfl (by kernel_rfl) (by kernel_rfl) (by kernel_rfl) (fun _ _ _ h => h) rfl hS (fun Wz hW => by go_simp) ?_
          simp only [List.setIfInBounds_toArray, List.set_cons_zero, List.set_cons_succ]
          refine held_takeTo 71 (i := 1) (v := .int .i64 n) rfl rfl (by kernel_rfl) (by kernel_rfl) (by kernel_rfl) (fun _ _ _ h => h) rfl hS (fun Wz hW => by go_simp) ?_
          simp only [List.setIfInBounds_toArray, List.set_cons_zero, List.set_cons_succ]
          refine held_takeTo 72 (i := 2) (v := .slice (some ad) n c) rfl rfl (by kernel_rfl) (by kernel_rfl) (by kernel_rfl) (fun _ _ _ h => h) rfl hS (fun Wz hW => by go_simp) ?_
          simp only [List.setIfInBounds_toArray, List.set_cons_zero, List.set_cons_succ]
          refine held_takeTo 73 (i := 3) (v := .slice (some bd) lb.length e) rfl rfl (by kernel_rfl) (by kernel_rfl) (by kernel_rfl) (fun _ _ _ h => h) rfl hS (fun Wz hW => by go_simp) ?_
          simp only [List.setIfInBounds_toArray, List.set_cons_zero, List.set_cons_succ]
          refine held_takeTo 74 (i := 4) (v := .int .i64 n) rfl rfl (by kernel_rfl) (by kernel_rfl) (by kernel_rfl) (fun _ _ _ h => h) rfl hS (fun Wz hW => by go_simp) ?_
          simp only [List.setIfInBounds_toArray, List.set_cons_zero, List.set_cons_succ]
          refine held_takeTo 75 (i := 5) (v := .slice (some bd) n e) rfl rfl (by kernel_rfl) (by kernel_rfl) (by kernel_rfl) (fun _ _ _ h => h) rfl hS (fun Wz hW => by go_simp) ?_
          simp only [List.setIfInBounds_toArray, List.set_cons_zero, List.set_cons_succ]
          refine held_takeTo 77 (i := 7) (v := .agg cs) rfl rfl (by kernel_rfl) (by kernel_rfl) (by kernel_rfl) (fun _ _ _ h => h) rfl hS (fun Wz hW => run_load_op _ _ rfl w.heap.size rfl _ cs HSX.out (HZ9.out.bx.kept hW id)) ?_
          simp only [List.setIfInBounds_toArray, List.set_cons_zero, List.set_cons_succ]
          refine held_takeTo 78 (i := 8) (v := .agg ds) rfl rfl (by kernel_rfl) (by kernel_rfl) (by kernel_rfl) (fun _ _ _ h => h) rfl hS (fun Wz hW => run_load_op _ _ rfl (w.heap.size + 1) rfl _ ds HSY.out (HZ9.out.by_.kept hW id)) ?_
          simp only [List.setIfInBounds_toArray, List.set_cons_zero, List.set_cons_succ]
          refine held_one (i := 6) (by kernel_rfl) rfl fun K hK => ?_
          go_wp2_with (fail)
          have hcall := Bytes8_any (some ad) (some bd) (la.take n) (lb.take n) c e W (fun k hk => by rw [List.length_take] at hk; rw [List.getElem_take]; exact HA9.out.b k (by omega)) (fun k hk => by rw [List.length_take] at hk; rw [List.getElem_take]; exact HB9.out.b k (by omega)) (by rw [List.length_take]; omega)
          rw [show (la.take n).length = n by rw [List.length_take]; omega, show (lb.take n).length = n by rw [List.length_take]; omega] at hcall
          refine hcall.mono ?_
          clear hcall
          obtain ⟨b1, hb1⟩ : ∃ b1, decide (la.take n = lb.take n) = b1 := ⟨_, rfl⟩
          rw [hb1]
          have HB1 := Lib.hid hb1
          clear hb1
          unfold SamePost
          rintro r v1 ⟨rfl, hk⟩
          have hS1 := hS.trans hk fun _ _ e => e
          clear hk
          go_wp2_with (fail)
          refine hK.out _ _ hS1 fun _ => ?_
          clear hK K
          refine held_one (i := 9) (by kernel_rfl) rfl fun K hK => ?_
          go_wp2_with (fail)
          refine (HSB.out v1 (HZ9.out.fresh hS1).x (HZ9.out.fresh hS1).y HXS.out).mono ?_
          rintro r v2 ⟨b2, rfl, hb2, hk⟩
          have hS2 := hS1.trans hk fun _ _ e => e
          obtain rfl : b2 = b1 := by rw [Bool.eq_iff_iff, hb2, ← HB1.out, decide_eq_true_eq]; exact ⟨fun e => by rw [HEQ.out e], HPR.out n HN.out⟩
          clear hk hb2
          go_wp2_with (fail)
          refine hK.out _ _ hS2 fun _ => ?_
          clear hK K
          refine held_one (i := 10) (by kernel_rfl) rfl fun K hK => ?_
          go_wp2_with (fail)
          refine hK.out _ _ hS2 fun _ => ?_
          clear hK K
          refine held_one (i := 11) (by kernel_rfl) rfl fun K hK => ?_
          go_wp2_with (fail)
          refine hK.out _ _ hS2 fun _ => ?_
          clear hK K
          refine held_one (i := 12) (by kernel_rfl) rfl fun K hK => ?_
          go_wp2_with (fail)
          refine (Known8_any v2).mono ?_
          rintro r v3 ⟨rfl, hk⟩
          have hS3 := hS2.trans hk fun _ _ e => e
          clear hk
          go_wp2_with (fail)
          refine hK.out _ _ hS3 fun _ => ?_
          clear hK K
          refine held_one (i := 13) (by kernel_rfl) rfl fun K hK => ?_
          go_wp2_with (fail)
          refine hK.out _ _ hS3 fun _ => ?_
          clear hK K
          refine held_one (i := 14) (by kernel_rfl) rfl fun K hK => ?_
          go_wp2_with (fail)
          refine hK.out _ _ hS3 fun _ => ?_
          clear hK K
          refine wpAnyH_done (by kernel_rfl) ?_ _
          go_wp2_with (fail)
          go_ret
          exact ⟨rfl, (HZ9.out.fresh hS3).k⟩
end Go.Proofs.Ytnlklhlnnoihiaa

namespace Go.Proofs.Ytnlklhlnnoihiaa
open Go.ChangeShapes Go.WideShapes Go.ChangeAt Go.RowKit

theorem own : ownKnob Try.prog.godebug = none := by kernel_rfl
theorem laidOut : laidOutB Try.prog = true := by kernel_rfl

section
variable {H : Type} {enc : TypeId × Value → H} {P : Program}
theorem trodAll_below (hl : laidOutB P = true) {W W' : World} (hb : Below W.heap.size W W') : ∀ (ts : List TypeId) (vs : List Value) (ds : List (DataW H)) (ps : List MemPlace),
    (∀ t ∈ ts, P.readableRec t = true ∧ t < P.types.size) → DataW.TrodAll enc P W 0 (fun _ => true) true ts vs ds ps → (∀ x ∈ ps, x.block < W.heap.size) →
    DataW.TrodAll enc P W' 0 (fun b => decide (b < W.heap.size)) true ts vs ds ps
  | [], vs, ds, ps, _, h, _ => by cases vs <;> cases ds <;> simp_all [DataW.TrodAll]
  | t :: ts, vs, ds, ps, hall, h, hlt => by
    obtain ⟨v, vs', d, ds', p, q, rfl, rfl, rfl, h0, h1⟩ := trodAll_cons h
    have ht := hall t (by simp)
    exact trodAll_cons_mk (Below.trod hl ht.1 ht.2 h0 hb fun x hx => hlt x (by simp [hx])) (trodAll_below hl hb ts vs' ds' q (fun t ht => hall t (by simp [ht])) h1 fun x hx => hlt x (by simp [hx]))

theorem law_post {f : Func} {s : ChangeSpec} {W W' : World} {args : Array Value} {ds gs : List (DataW H)} {before : List MemPlace} {tb : TypeId}
    (hW : DataW.Whole enc P f.params.toList s.vars false W args.toList ds gs before) (hvars : s.vars = []) (hl : laidOutB P = true) (hall : f.params.toList.all (fun t => P.readableRec t && decide (t < P.types.size)) = true)
    (hrt : f.resultTypes = #[tb]) (htb : P.underlying tb = some .bool) (hsp : s.fn H ds = { results := [.lit (.bool true)], args := ds }) (hb : Below W.heap.size W W') : s.post enc P f false true false false W args (.bool true) W' := by
  have hlt : ∀ p ∈ before, p.block < W.heap.size := fun p hp => hW.lt p hp
  have hW' := hW
  obtain ⟨p, q, hA, hV, rfl, _, _⟩ := hW
  rw [hvars] at hV
  obtain ⟨rfl, rfl⟩ := trodVars_none hV
  have hall' : ∀ t ∈ f.params.toList, P.readableRec t = true ∧ t < P.types.size := fun t ht => by
    have := List.all_eq_true.1 hall t ht
    simpa using this
  refine ⟨ds, [], p ++ [], [], p, [], hW', ?_, ?_, ?_, hb.frame _, fun h => by cases h⟩
  · rw [List.append_nil, hsp, hrt]
    exact trodAll_cons_mk (shut_bool htb true) trodAll_mk0
  · rw [List.append_nil, hsp]
    exact trodAll_below hl hb _ _ _ _ hall' hA fun x hx => hlt x (by simp [hx])
  · rw [List.append_nil, hsp, hvars]
    rfl
end
end Go.Proofs.Ytnlklhlnnoihiaa

namespace Go.Proofs.Ytnlklhlnnoihiaa.opBack
open Go.ChangeShapes Go.WideShapes Go.ChangeAt Go.RowKit
open Go.ChangeMaps (open_string)

set_option maxRecDepth 100000 in
theorem lifted (os : Os) (started : os.Started) (H : Type) (enc : TypeId × Value → H) :
    ReturnsInHanded {} Try.checked os 6 .any (Rows.opBackSpec.pre6 enc Try.prog Try.f6 Rows.opBackRow.domain false) (Rows.opBackSpec.post enc Try.prog Try.f6 false true false false) := by
  refine returnsInHanded_of_change (C := Try.checked) own started (by kernel_rfl) Try.func6
    (ChangeSpec.witness6 (enc := enc) (C := Try.checked) false ⟨#[], #[.agg #[.int .i64 0, .int .i64 0, .slice none 0 0, .int .i64 0, .int .i64 0, .int .i64 0, .int .i64 0, .int .i64 0, .string ⟨#[]⟩, .slice none 0 0, .int .i64 0], .agg #[.int .i64 0, .int .i64 0, .slice none 0 0, .int .i64 0, .int .i64 0, .int .i64 0, .int .i64 0, .int .i64 0, .string ⟨#[]⟩, .slice none 0 0, .int .i64 0]], []⟩ 8 (by kernel_rfl) (by kernel_rfl) (by kernel_rfl) (by kernel_rfl)) ?_
  intro W base args ds gs before hval0 hW _ _
  have hval : ∀ (j : Nat) t v, Try.f6.params[j]? = some t → args[j]? = some v → Value.okWide Try.prog W .any base t v := hval0
  have hW' := hW
  obtain ⟨p, q, hA0, hV, rfl, hfz, hnd⟩ := hW
  have hA : DataW.TrodAll enc Try.prog W 0 (fun _ => true) true Try.f6.params.toList args.toList ds p := hA0
  rw [Try.params6] at hA hval
  obtain ⟨v0, vs0, d0, ds0, p0, q0, hargs, rfl, rfl, h0, r0⟩ := trodAll_cons hA
  obtain ⟨v1, vs1, d1, ds1, p1, q1, rfl, rfl, rfl, h1, r1⟩ := trodAll_cons r0
  obtain ⟨rfl, rfl, rfl⟩ := trodAll_nil r1
  obtain rfl : args = #[v0, v1] := by cases args; simp_all
  obtain ⟨x, rfl, ha0⟩ := open_op (hval 0 30 v0 rfl rfl) h0
  obtain ⟨y, rfl, ha1⟩ := open_op (hval 1 30 v1 rfl rfl) h1
  refine (Back_walk x y W ha0.at_ ha1.at_ ha0.counts ha1.counts).mono fun e W' ⟨he, hk⟩ => ?_
  subst he
  exact ⟨_, rfl, law_post hW' rfl laidOut (by kernel_rfl) rfl Try.underlying4 rfl (hk.below (Nat.le_refl _) fun _ h => h.elim)⟩

theorem proved : Rows.OpBackSaid :=
  OpenClaim.holds_of_wide 6 Try.f6 rfl rfl rfl rfl rfl rfl rfl ⟨rfl, rfl, rfl, rfl, rfl⟩ rfl rfl rfl rfl rfl (by kernel_rfl) Try.func6 (by kernel_rfl)
    (of_decide_eq_true (by kernel_rfl)) (by unfold Func.isWrapper; first | (rw [if_pos (by decide +kernel)]; kernel_rfl) | (rw [if_neg (by decide +kernel)]; exact ⟨rfl, rfl⟩))
    (fun os started H enc _ => lifted os started H enc)
#print axioms proved
end Go.Proofs.Ytnlklhlnnoihiaa.opBack
