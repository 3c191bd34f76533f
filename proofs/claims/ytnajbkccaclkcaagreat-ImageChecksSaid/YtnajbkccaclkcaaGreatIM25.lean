/- The walks of the kinds' latest, op.Last and hearsayref8.Last. Conditions: the operation lies in memory; nothing is longer than a million. · image.log walked. Condition: the image lies in memory; nothing is longer than a million. · The row's last step for a law: it returns true, and below the old heap's end nothing has turned: so each argument reads as it did. No condition. -/
import Derived.Test.YtnajbkccaclkcaaGreatIM22
import Derived.Test.YtnajbkccaclkcaaGreatIM8
import Derived.Test.YtnajbkccaclkcaaGreatIM24
import Derived.Test.YtnajbkccaclkcaaGreatIM23
import Derived.Test.YtnajbkccaclkcaaGreatIM13
import Derived.Test.YtnajbkccaclkcaaGreatRows
import Derived.Test.YtnajbkccaclkcaaGreatIM0
import Derived.ProofKit
import Derived.OpenShut
namespace Go.Proofs.YtnajbkccaclkcaaGreat
open Go Go.RowKit

def maxG (t : Int) (l : List Rn) : Int := l.foldl (fun t r => max t (r.id.time + r.count - 1)) t
/-- The latest time that stands in an operation. -/
def lastO (o : Opr) : Int := if okOp o = true then (if o.kind = 1 then o.id.time + cnt o.text - 1 else maxG 0 o.gone) else 0
theorem maxG_snoc (l : List Rn) (k : Nat) (h : k < l.length) : maxG 0 (l.take (k + 1)) = max (maxG 0 (l.take k)) (l[k].id.time + l[k].count - 1) := by
  unfold maxG
  rw [List.take_succ_eq_append_getElem h, List.foldl_append]
  rfl
theorem held_takeG {P : Program} {ops : Array Oper} {md : Region.Mode} {Q : Exit → Act → World → Prop} {S : World → Prop} {i : Nat} {oi : Oper} {v : Value} {fuel : Nat} {listed : Array Bool} {a : Act} {w : World} (t : Tmp) (hi : ops[i]? = some oi) (hd : oi.dst = some t)
    (hs : Region.noSelect ops = true) (hf : Region.free md ops listed i = true) (hr : (Region.ready md ops listed).contains i = true)
    (hQ : ∀ c a w, Q (.panic c) (a.put (some t) v) w → Q (.panic c) a w) (hg : Region.wanted oi (yielded ops a.tmps) = true) (hS : S w) (hy : ∀ w, S w → (execOp a.eval oi).run P w = .ok (.value v) w)
    (h : wpAnyH P md ops Q S fuel (listed.setIfInBounds i true) { a with tmps := a.tmps.setIfInBounds t v } w) : wpAnyH P md ops Q S (fuel + 1) listed a w :=
  wpAnyH_take hi hs hf hr (by rw [hd]; exact hQ) (.inl ⟨hg, hy⟩) hS (by rw [hd]; exact h)
theorem maxG_bd (l : List Rn) (h : ∀ r ∈ l, okRn r = true) : ∀ k, k ≤ l.length → 0 ≤ maxG 0 (l.take k) ∧ maxG 0 (l.take k) ≤ 2147483647 := by
  intro k
  induction k with
  | zero => intro _; simp [maxG]
  | succ k ih =>
    intro hk
    obtain ⟨h1, h2⟩ := ih (by omega)
    have hr := h l[k] (List.getElem_mem (by omega))
    rw [okRn_iff, okId_iff] at hr
    rw [maxG_snoc l k (by omega)]
    omega
set_option maxRecDepth 100000 in
set_option maxHeartbeats 1600000 in
theorem latestI_any (it is rt rs : Int) (text : ByteArray) (w : World) (ht : text.size ≤ 1000000) (h1 : 0 ≤ it) (h2 : it ≤ 2147483647) (hc : cnt text ≤ 1024) (hc0 : 0 < cnt text) :
    Calls Tryz.prog 138 #[.agg #[.int .i64 it, .int .i64 is, .int .i64 rt, .int .i64 rs, .string text]] w (IntPost w (it + cnt text - 1)) := by
  have HB := Lib.hid (Box.new w 158 #[.int .i64 it, .int .i64 is, .int .i64 rt, .int .i64 rs, .string text])
  have HK := Lib.hid ((Kept.refl (fun _ => False) w).alloc (.cells #[.int .i64 it, .int .i64 is, .int .i64 rt, .int .i64 rs, .string text] 158))
  have HC := Lib.hid (fun W => Count_any text W (by omega))
  obtain ⟨n, hn⟩ : ∃ n, cnt text = n := ⟨_, rfl⟩
  rw [hn] at HC hc hc0 ⊢
  have hw1 : IntKind.i64.wrap (it + (n : Int)) = it + (n : Int) := IntWalk.i64_in _ ⟨by omega, by omega⟩
  have hw2 : IntKind.i64.wrap (it + (n : Int) - 1) = it + (n : Int) - 1 := IntWalk.i64_in _ ⟨by omega, by omega⟩
  clear hn
  go_enter Tryz.func138, Tryz.ntmps138
  go_upto_region 1 with (fail)
  have HB1 := Lib.hid (HB.out.kept (Kept.refl (fun _ => False) _).drew id)
  have HK1 := Lib.hid (HK.out.trans (Kept.refl (fun _ => False) _).drew fun _ _ e => e)
  clear HB HK
  refine wp_region_held_drew (S := fun Wz => Kept (fun _ => False) (w.alloc (.cells #[.int .i64 it, .int .i64 is, .int .i64 rt, .int .i64 rs, .string text] 158)).drew Wz) (by kernel_rfl) (Kept.refl _ _) fun hS => ?_
  generalize (w.alloc (.cells #[.int .i64 it, .int .i64 is, .int .i64 rt, .int .i64 rs, .string text] 158)).drew = w1 at HB1 HK1 hS ⊢
  refine held_takeTo 3 (i := 0) (v := .pointer (some ⟨w.heap.size, 0, none⟩)) rfl rfl (by kernel_rfl) (by kernel_rfl) (by kernel_rfl) (fun _ _ _ h => h) rfl hS (fun Wz hW => by go_simp) ?_
  simp only [List.setIfInBounds_toArray, List.set_cons_zero, List.set_cons_succ]
  refine held_takeTo 4 (i := 1) (v := .pointer (some ⟨w.heap.size, 0, none⟩)) rfl rfl (by kernel_rfl) (by kernel_rfl) (by kernel_rfl) (fun _ _ _ h => h) rfl hS (fun Wz hW => by go_simp) ?_
  simp only [List.setIfInBounds_toArray, List.set_cons_zero, List.set_cons_succ]
  refine held_takeTo 5 (i := 2) (v := .int .i64 it) rfl rfl (by kernel_rfl) (by kernel_rfl) (by kernel_rfl) (fun _ _ _ h => h) rfl hS (fun Wz hW => by (have h0 : Wz.cell? ⟨w.heap.size, 0, none⟩ = some (.int .i64 it) := (by simpa using (HB1.out.kept hW id).cell 0); go_simp)) ?_
  simp only [List.setIfInBounds_toArray, List.set_cons_zero, List.set_cons_succ]
  refine held_takeTo 6 (i := 3) (v := .pointer (some ⟨w.heap.size, 4, none⟩)) rfl rfl (by kernel_rfl) (by kernel_rfl) (by kernel_rfl) (fun _ _ _ h => h) rfl hS (fun Wz hW => by go_simp) ?_
  simp only [List.setIfInBounds_toArray, List.set_cons_zero, List.set_cons_succ]
  refine held_takeTo 7 (i := 4) (v := .string text) rfl rfl (by kernel_rfl) (by kernel_rfl) (by kernel_rfl) (fun _ _ _ h => h) rfl hS (fun Wz hW => by (have h0 : Wz.cell? ⟨w.heap.size, 4, none⟩ = some (.string text) := (by simpa using (HB1.out.kept hW id).cell 4); go_simp)) ?_
  simp only [List.setIfInBounds_toArray, List.set_cons_zero, List.set_cons_succ]
  refine held_one (i := 5) (by kernel_rfl) rfl fun K hK => ?_
  go_wp2_with (fail)
  refine (HC.out w1).mono ?_
  unfold IntPost
  rintro e w3 ⟨rfl, hk3⟩
  go_wp2_with (fail)
  refine hK.out _ _ hk3 fun _ => ?_
  clear hK K
  refine held_one (i := 6) (by kernel_rfl) rfl fun K hK => ?_
  go_wp2_with (fail)
  refine hK.out _ _ hk3 fun _ => ?_
  clear hK K
  refine held_one (i := 7) (by kernel_rfl) rfl fun K hK => ?_
  go_wp2_with (fail)
  refine hK.out _ _ hk3 fun _ => ?_
  clear hK K
  refine held_one (i := 8) (by kernel_rfl) rfl fun K hK => ?_
  go_wp2_with (fail)
  refine hK.out _ _ hk3 fun _ => ?_
  clear hK K
  refine wpAnyH_done (by kernel_rfl) ?_ _
  have HK3 := Lib.hid (HK1.out.trans hk3 fun _ _ e => e)
  clear hS hk3
  go_wp2_with (fail)
  go_ret
  exact ⟨rfl, HK3.out⟩
set_option maxRecDepth 100000 in
set_option maxHeartbeats 1600000 in
theorem latestR_any (A : Option Addr) (gone : List Rn) (c : Nat) (w : World) (hr : RunsAt w A gone) (hk : ∀ r ∈ gone, okRn r = true) (hl : gone.length ≤ 1024) :
    Calls Tryz.prog 149 #[.agg #[.slice A gone.length c]] w (IntPost w (maxG 0 gone)) := by
  have hk0 : Kept (fun _ => False) w (w.alloc (.cells #[.slice A gone.length c] 160)) := (Kept.refl _ _).alloc _
  have HK := Lib.hid hk0
  have HR := Lib.hid (hr.fresh hk0)
  have HB := Lib.hid (Box.new w 160 #[.slice A gone.length c])
  have HOKR := Lib.hid hk
  clear hr hk hk0
  go_enter Tryz.func149, Tryz.ntmps149
  go_upto_region 1 with (fail)
  generalize w.alloc (.cells #[.slice A gone.length c] 160) = w0 at HK HR HB ⊢
  have b0 : w0.cell? ⟨w.heap.size, 0, none⟩ = some (.slice A gone.length c) := by simpa using HB.out.cell 0
  go_wp2_with (fail)
  go_loopw [9, 3] (fun i t wr => ∃ k : Nat, i = .int .i64 k ∧ t = .int .i64 (maxG 0 (gone.take k)) ∧ k ≤ gone.length ∧ Kept (fun _ => False) w0 wr) (fun i _ _ => gone.length - (intOf i).toNat)
  case atStart => exact ⟨0, rfl, rfl, Nat.zero_le _, Kept.refl _ _⟩
  case round =>
    obtain ⟨k, rfl, rfl, hk, hkk⟩ := hrel
    have HKK := Lib.hid hkk
    clear b0
    by_cases hlt : k < gone.length
    · obtain ⟨ad, rfl, x0, x1, x2⟩ := (HR.out.fresh hkk) k hlt
      have hsn := maxG_snoc gone k hlt
      have hok := HOKR.out gone[k] (List.getElem_mem hlt)
      obtain ⟨hb0, hb1⟩ := maxG_bd gone HOKR.out k (by omega)
      generalize gone[k] = q at x0 x1 x2 hsn hok
      obtain ⟨⟨t, s⟩, n⟩ := q
      simp only at x0 x1 x2 hsn
      rw [okRn_iff, okId_iff] at hok
      simp only at hok
      have HSN := Lib.hid hsn
      generalize maxG 0 (gone.take k) = mx at hb0 hb1 HSN ⊢
      have hw1 : IntKind.i64.wrap (t + n) = t + n := IntWalk.i64_in _ ⟨by omega, by omega⟩
      have hw2 : IntKind.i64.wrap (t + n - 1) = t + n - 1 := IntWalk.i64_in _ ⟨by omega, by omega⟩
      have HK2 := Lib.hid (hkk.trans ((Kept.refl (fun _ => False) wr).alloc (.cells #[.int .i64 t, .int .i64 s, .int .i64 n] 68)) fun _ _ e => e)
      clear hsn hkk HKK
      go_wp2_with (fail)
      go_roundw
      case rel => exact ⟨k + 1, by go_num, by rw [HSN.out]; try rfl, by omega, HK2.out⟩
      case measure => simp [intOf]; omega
    · obtain rfl : k = gone.length := by omega
      rw [List.take_length]
      clear hkk
      have HK2 := Lib.hid (HK.out.trans HKK.out fun _ _ e => e)
      clear HKK HK
      go_wp2_with (fail)
      go_ret
      exact ⟨rfl, HK2.out⟩
set_option maxRecDepth 100000 in
theorem latestJ_any (s : Int) (w : World) : Calls Tryz.prog 155 #[.agg #[.int .i64 s]] w (IntPost w 0) := by
  have HK := Lib.hid ((Kept.refl (fun _ => False) w).alloc (.cells #[.int .i64 s] 162))
  go_enter Tryz.func155, Tryz.ntmps155
  go_wp2_with (fail)
  go_ret
  exact ⟨rfl, HK.out⟩
set_option maxRecDepth 100000 in
theorem latestL_any (w : World) : Calls Tryz.prog 159 #[.agg #[]] w (IntPost w 0) := by
  have HK := Lib.hid ((Kept.refl (fun _ => False) w).alloc (.cells #[] 164))
  go_enter Tryz.func159, Tryz.ntmps159
  go_wp2_with (fail)
  go_ret
  exact ⟨rfl, HK.out⟩
set_option maxRecDepth 100000 in
set_option maxHeartbeats 1600000 in
theorem Last_no (x : Lop) (w : World) (hx : x.At w) (hs : x.o.Small) (hok : okOp x.o = false) : Calls Tryz.prog 61 #[.agg x.c] w (IntPost w 0) := by
  have hk0 : Kept (fun _ => False) w (w.alloc (.cells x.c 64)) := (Kept.refl _ _).alloc _
  have HK0 := Lib.hid hk0
  have HC := Lib.hid (fun W (hW : x.At W) => OpCheck_any x.o x.dA x.gA x.dc x.gc W (hW.opr hs))
  have HXC := Lib.hid (show x.o.cells x.dA x.dc x.gA x.gc = x.c from rfl)
  have HE := Lib.hid (show opE x.o = 10 by unfold opE; rw [hok]; rfl)
  have HB := Lib.hid (Box.new w 64 x.c)
  have HX := Lib.hid (hx.fresh hk0)
  obtain ⟨cs, hcs⟩ : ∃ cs, x.c = cs := ⟨_, rfl⟩
  have HSZ := Lib.hid (show cs.size = 11 by rw [← hcs]; rfl)
  rw [hcs] at HXC HB HX HK0 ⊢
  clear hx hs hok hk0 hcs
  go_enter Tryz.func61, Tryz.ntmps61
  go_upto_region 1 with (fail)
  generalize w.alloc (.cells cs 64) = w0 at HK0 HB HX ⊢
  go_wp2_with (refine wpList_load_op rfl _ rfl w.heap.size rfl _ cs HSZ.out HB.out ?_)
  have hcall := HC.out w0 HX.out
  rw [HXC.out, HE.out] at hcall
  refine hcall.mono ?_
  unfold IntPost
  rintro r1 w1 ⟨rfl, hk1⟩
  have HK1 := Lib.hid (HK0.out.trans hk1 fun _ _ e => e)
  clear hk1 hcall
  go_wp2_with (fail)
  go_ret
  exact ⟨rfl, HK1.out⟩
set_option maxRecDepth 100000 in
set_option maxHeartbeats 1600000 in
theorem Last_kind (x : Lop) (w : World) (T : TypeId) (v : Value) (K : Nat) (r : Value) (n : Int) (hx : x.At w) (hs : x.o.Small) (hok : okOp x.o = true)
    (HOF : Hid (∀ W, Calls Tryz.prog 77 #[.agg x.c] W (OfPost W (.iface T v))))
    (hm : ∀ W : World, (method 307 T v "hearsay/op.latest").run Tryz.prog W = .ok (K, r) W) (hcf : ∀ (W : World) (a : Array Value), (callFunc K a).run Tryz.prog W = .ok (.enter K a) W)
    (HP : Hid (∀ W : World, x.At W → Calls Tryz.prog K #[r] W (IntPost W n))) : Calls Tryz.prog 61 #[.agg x.c] w (IntPost w n) := by
  have hk0 : Kept (fun _ => False) w (w.alloc (.cells x.c 64)) := (Kept.refl _ _).alloc _
  have HK0 := Lib.hid hk0
  have HC := Lib.hid (fun W (hW : x.At W) => OpCheck_any x.o x.dA x.gA x.dc x.gc W (hW.opr hs))
  have HXC := Lib.hid (show x.o.cells x.dA x.dc x.gA x.gc = x.c from rfl)
  have HE := Lib.hid (show opE x.o = 0 by unfold opE; rw [hok]; rfl)
  have HB := Lib.hid (Box.new w 64 x.c)
  have HX := Lib.hid (hx.fresh hk0)
  obtain ⟨cs, hcs⟩ : ∃ cs, x.c = cs := ⟨_, rfl⟩
  have HSZ := Lib.hid (show cs.size = 11 by rw [← hcs]; rfl)
  rw [hcs] at HXC HB HX HK0 HOF ⊢
  clear hx hs hok hk0 hcs
  go_enter Tryz.func61, Tryz.ntmps61
  go_upto_region 1 with (fail)
  generalize w.alloc (.cells cs 64) = w0 at HK0 HB HX ⊢
  go_wp2_with (refine wpList_load_op rfl _ rfl w.heap.size rfl _ cs HSZ.out HB.out ?_)
  have hcall := HC.out w0 HX.out
  rw [HXC.out, HE.out] at hcall
  refine hcall.mono ?_
  unfold IntPost
  rintro r1 w1 ⟨rfl, hk1⟩
  have HK1 := Lib.hid (HK0.out.trans hk1 fun _ _ e => e)
  have HB1 := Lib.hid (HB.out.kept hk1 id)
  have HX1 := Lib.hid (HX.out.fresh hk1)
  clear hk1 hcall HC HXC HE HK0 HB HX
  go_wp2_with (refine wpList_load_op rfl _ rfl w.heap.size rfl _ cs HSZ.out HB1.out ?_)
  refine (HOF.out w1).mono ?_
  unfold OfPost
  rintro r2 w2 ⟨rfl, hk2⟩
  have HK2 := Lib.hid (HK1.out.trans hk2 fun _ _ e => e)
  have hcall := HP.out w2 (HX1.out.fresh hk2)
  clear hk2 HK1 HB1 HX1
  go_wp2_with (fail)
  refine hcall.mono ?_
  unfold IntPost
  rintro r3 w3 ⟨rfl, hk3⟩
  have HK3 := Lib.hid (HK2.out.trans hk3 fun _ _ e => e)
  clear hk3 hcall
  go_wp2_with (fail)
  go_ret
  exact ⟨rfl, HK3.out⟩
theorem OpLast_any (x : Lop) (w : World) (hx : x.At w) (hs : x.o.Small) : Calls Tryz.prog 61 #[.agg x.c] w (IntPost w (lastO x.o)) := by
  unfold lastO
  cases hok : okOp x.o with
  | false => exact Last_no x w hx hs hok
  | true =>
    rw [if_pos rfl]
    have hf := okOp_f hok
    have hof := fun W => opof_any x.o x.dA x.gA x.dc x.gc W
    unfold ofV at hof
    rcases hf.kd with ⟨k1, hgo, hsi, hc0, hc1, hb, his, hid, hti, href, hlt⟩ | ⟨k2, hid, href, htx, hsi, hg0, hg1, hck⟩ | ⟨k3, hgo, hid, href, htx, hs1, hs2⟩ | ⟨k4, hgo, hid, href, htx, hsi⟩
    · simp only [if_pos k1] at hof
      rw [if_pos k1]
      rw [okId_iff] at hid
      exact Last_kind x w _ _ 138 (.agg #[.int .i64 x.o.id.time, .int .i64 x.o.id.site, .int .i64 x.o.ref.time, .int .i64 x.o.ref.site, .string x.o.text]) _ hx hs hok (Lib.hid hof) (fun _ => by kernel_rfl) (fun _ _ => by kernel_rfl) (Lib.hid fun W _ => latestI_any _ _ _ _ x.o.text W hs.tl (by omega) (by omega) hc1 hc0)
    · simp only [k2, if_true, if_neg (show ¬ (2 : Int) = 1 by decide)] at hof
      rw [if_neg (by rw [k2]; decide)]
      exact Last_kind x w _ _ 149 (.agg #[.slice x.gA x.o.gone.length x.gc]) _ hx hs hok (Lib.hid hof) (fun _ => by kernel_rfl) (fun _ _ => by kernel_rfl) (Lib.hid fun W hxW => latestR_any x.gA x.o.gone x.gc W hxW.g (chkR_all _ _ hck) hg1)
    · simp only [k3, if_true, if_neg (show ¬ (3 : Int) = 1 by decide), if_neg (show ¬ (3 : Int) = 2 by decide)] at hof
      rw [if_neg (by rw [k3]; decide), hgo]
      exact Last_kind x w _ _ 155 (.agg #[.int .i64 x.o.site]) _ hx hs hok (Lib.hid hof) (fun _ => by kernel_rfl) (fun _ _ => by kernel_rfl) (Lib.hid fun W _ => latestJ_any x.o.site W)
    · simp only [k4, if_true, if_neg (show ¬ (4 : Int) = 1 by decide), if_neg (show ¬ (4 : Int) = 2 by decide), if_neg (show ¬ (4 : Int) = 3 by decide)] at hof
      rw [if_neg (by rw [k4]; decide), hgo]
      exact Last_kind x w _ _ 159 (.agg #[]) _ hx hs hok (Lib.hid hof) (fun _ => by kernel_rfl) (fun _ _ => by kernel_rfl) (Lib.hid fun W _ => latestL_any W)

set_option maxRecDepth 100000 in
set_option maxHeartbeats 3200000 in
theorem RLast_any (x : Lop) (w : World) (hx : x.At w) (hs : x.o.Small) : Calls Tryz.prog 68 #[.agg x.c] w (IntPost w (lastO x.o)) := by
  have hk0 : Kept (fun _ => False) w (w.alloc (.cells x.c 64)) := (Kept.refl _ _).alloc _
  have HK0 := Lib.hid hk0
  have HC := Lib.hid (fun W (hW : x.At W) => RefCheck_any x.o x.dA x.gA x.dc x.gc W (hW.opr hs))
  have HXC := Lib.hid (show x.o.cells x.dA x.dc x.gA x.gc = x.c from rfl)
  have HB := Lib.hid (Box.new w 64 x.c)
  have HX := Lib.hid (hx.fresh hk0)
  have hdl := hs.gl
  have HCN := Lib.hid (fun W => RCount_any x.o.text W hs.tl)
  obtain ⟨cs, hcs⟩ : ∃ cs, x.c = cs := ⟨_, rfl⟩
  have HSZ := Lib.hid (show cs.size = 11 by rw [← hcs]; rfl)
  have HC3 := Lib.hid (show cs[3]? = some (.int .i64 x.o.kind) by rw [← hcs]; rfl)
  have HC4 := Lib.hid (show cs[4]? = some (.int .i64 x.o.id.time) by rw [← hcs]; rfl)
  have HC8 := Lib.hid (show cs[8]? = some (.string x.o.text) by rw [← hcs]; rfl)
  have HC9 := Lib.hid (show cs[9]? = some (.slice x.gA x.o.gone.length x.gc) by rw [← hcs]; rfl)
  rw [hcs] at HXC HB HX HK0 ⊢
  obtain ⟨res, hres⟩ : ∃ res, lastO x.o = res := ⟨_, rfl⟩
  have HRES := Lib.hid hres
  rw [hres]
  cases hok : okOp x.o with
  | false =>
    have HE := Lib.hid (show opE x.o = 10 by unfold opE; rw [hok]; rfl)
    have HR0 := Lib.hid (show (0 : Int) = res by rw [← hres]; unfold lastO; rw [hok]; rfl)
    clear hx hs hok hk0 hcs hres
    go_enter Tryz.func68, Tryz.ntmps68
    go_upto_region 1 with (fail)
    generalize w.alloc (.cells cs 64) = w0 at HK0 HB HX ⊢
    go_wp2_with (refine wpList_load_op rfl _ rfl w.heap.size rfl _ cs HSZ.out HB.out ?_)
    have hcall := HC.out w0 HX.out
    rw [HXC.out, HE.out] at hcall
    refine hcall.mono ?_
    unfold IntPost
    rintro r1 w1 ⟨rfl, hk1⟩
    have HK1 := Lib.hid (HK0.out.trans hk1 fun _ _ e => e)
    clear hk1 hcall
    go_wp2_with (fail)
    go_ret
    rw [← HR0.out]
    exact ⟨rfl, HK1.out⟩
  | true =>
    have HE := Lib.hid (show opE x.o = 0 by unfold opE; rw [hok]; rfl)
    have hf := okOp_f hok
    have hr : (if x.o.kind = 1 then x.o.id.time + cnt x.o.text - 1 else maxG 0 x.o.gone) = res := by rw [← hres]; unfold lastO; rw [hok, if_pos rfl]
    clear hx hs hok hk0 hcs hres
    go_enter Tryz.func68, Tryz.ntmps68
    go_upto_region 1 with (fail)
    generalize w.alloc (.cells cs 64) = w0 at HK0 HB HX ⊢
    go_wp2_with (refine wpList_load_op rfl _ rfl w.heap.size rfl _ cs HSZ.out HB.out ?_)
    have hcall := HC.out w0 HX.out
    rw [HXC.out, HE.out] at hcall
    refine hcall.mono ?_
    unfold IntPost
    rintro r1 w1 ⟨rfl, hk1⟩
    have HK1 := Lib.hid (HK0.out.trans hk1 fun _ _ e => e)
    have HB1 := Lib.hid (HB.out.kept hk1 id)
    have HX1 := Lib.hid (HX.out.fresh hk1)
    clear hk1 hcall HC HXC HE HK0 HB HX
    have b3 : w1.cell? ⟨w.heap.size, 3, none⟩ = some (.int .i64 x.o.kind) := (HB1.out.cell 3).trans HC3.out
    by_cases k1 : x.o.kind = 1
    · rw [if_pos k1] at hr
      obtain ⟨hid, hc0, hc1, hti⟩ : okId x.o.id = true ∧ 0 < cnt x.o.text ∧ cnt x.o.text ≤ 1024 ∧ (cnt x.o.text : Int) - 1 ≤ 2147483647 - x.o.id.time := by
        rcases hf.kd with ⟨-, -, -, hc0, hc1, -, -, hid, hti, -⟩ | ⟨k, -⟩ | ⟨k, -⟩ | ⟨k, -⟩
        · exact ⟨hid, hc0, hc1, hti⟩
        all_goals (rw [k1] at k; exact absurd k (by decide))
      rw [okId_iff] at hid
      rw [k1] at b3
      have HR := Lib.hid hr
      generalize cnt x.o.text = n at HCN HR hc0 hc1 hti
      obtain ⟨it, hit⟩ : ∃ it, x.o.id.time = it := ⟨_, rfl⟩
      rw [hit] at hid hti HR HC4
      have hw1 : IntKind.i64.wrap (it + (n : Int)) = it + (n : Int) := IntWalk.i64_in _ ⟨by omega, by omega⟩
      have hw2 : IntKind.i64.wrap (it + (n : Int) - 1) = it + (n : Int) - 1 := IntWalk.i64_in _ ⟨by omega, by omega⟩
      clear hr hf hit k1
      go_upto_region 4 with (fail)
      have HB2 := Lib.hid (HB1.out.kept (Kept.refl (fun _ => False) _).drew id)
      have HK2 := Lib.hid (HK1.out.trans (Kept.refl (fun _ => False) _).drew fun _ _ e => e)
      clear HB1 HK1 HX1 b3
      refine wp_region_held_drew (S := fun Wz => Kept (fun _ => False) w1.drew Wz) (by kernel_rfl) (Kept.refl _ _) fun hS => ?_
      generalize w1.drew = w2 at HB2 HK2 hS ⊢
      refine held_takeTo 12 (i := 0) (v := .pointer (some ⟨w.heap.size, 4, none⟩)) rfl rfl (by kernel_rfl) (by kernel_rfl) (by kernel_rfl) (fun _ _ _ h => h) rfl hS (fun Wz hW => by go_simp) ?_
      simp only [List.setIfInBounds_toArray, List.set_cons_zero, List.set_cons_succ]
      refine held_takeTo 13 (i := 1) (v := .pointer (some ⟨w.heap.size, 4, none⟩)) rfl rfl (by kernel_rfl) (by kernel_rfl) (by kernel_rfl) (fun _ _ _ h => h) rfl hS (fun Wz hW => by go_simp) ?_
      simp only [List.setIfInBounds_toArray, List.set_cons_zero, List.set_cons_succ]
      refine held_takeTo 14 (i := 2) (v := .int .i64 it) rfl rfl (by kernel_rfl) (by kernel_rfl) (by kernel_rfl) (fun _ _ _ h => h) rfl hS (fun Wz hW => by (have h0 : Wz.cell? ⟨w.heap.size, 4, none⟩ = some (.int .i64 it) := ((HB2.out.kept hW id).cell 4).trans HC4.out; go_simp)) ?_
      simp only [List.setIfInBounds_toArray, List.set_cons_zero, List.set_cons_succ]
      refine held_takeTo 15 (i := 3) (v := .pointer (some ⟨w.heap.size, 8, none⟩)) rfl rfl (by kernel_rfl) (by kernel_rfl) (by kernel_rfl) (fun _ _ _ h => h) rfl hS (fun Wz hW => by go_simp) ?_
      simp only [List.setIfInBounds_toArray, List.set_cons_zero, List.set_cons_succ]
      refine held_takeTo 16 (i := 4) (v := .string x.o.text) rfl rfl (by kernel_rfl) (by kernel_rfl) (by kernel_rfl) (fun _ _ _ h => h) rfl hS (fun Wz hW => by (have h0 : Wz.cell? ⟨w.heap.size, 8, none⟩ = some (.string x.o.text) := ((HB2.out.kept hW id).cell 8).trans HC8.out; go_simp)) ?_
      simp only [List.setIfInBounds_toArray, List.set_cons_zero, List.set_cons_succ]
      refine held_one (i := 5) (by kernel_rfl) rfl fun K hK => ?_
      go_wp2_with (fail)
      refine (HCN.out w2).mono ?_
      unfold IntPost
      rintro e w3 ⟨rfl, hk3⟩
      go_wp2_with (fail)
      refine hK.out _ _ hk3 fun _ => ?_
      clear hK K
      refine held_one (i := 6) (by kernel_rfl) rfl fun K hK => ?_
      go_wp2_with (fail)
      refine hK.out _ _ hk3 fun _ => ?_
      clear hK K
      refine held_one (i := 7) (by kernel_rfl) rfl fun K hK => ?_
      go_wp2_with (fail)
      refine hK.out _ _ hk3 fun _ => ?_
      clear hK K
      refine held_one (i := 8) (by kernel_rfl) rfl fun K hK => ?_
      go_wp2_with (fail)
      refine hK.out _ _ hk3 fun _ => ?_
      clear hK K
      refine wpAnyH_done (by kernel_rfl) ?_ _
      have HK3 := Lib.hid (HK2.out.trans hk3 fun _ _ e => e)
      clear hS hk3
      go_wp2_with (fail)
      go_ret
      rw [← HR.out]
      exact ⟨rfl, HK3.out⟩
    · rw [if_neg k1] at hr
      have HR := Lib.hid hr
      have hokr : ∀ r ∈ x.o.gone, okRn r = true := by
        rcases hf.kd with ⟨k, -⟩ | ⟨-, -, -, -, -, -, -, hck⟩ | ⟨-, hgo, -⟩ | ⟨-, hgo, -⟩
        · exact absurd k k1
        · exact chkR_all _ _ hck
        · rw [hgo]; exact fun r hr => absurd hr (by simp)
        · rw [hgo]; exact fun r hr => absurd hr (by simp)
      have HOKR := Lib.hid hokr
      have hne : (x.o.kind == 1) = false := beq_eq_false_iff_ne.2 k1
      have HG := Lib.hid HX1.out.g
      have b9 : w1.cell? ⟨w.heap.size, 9, none⟩ = some (.slice x.gA x.o.gone.length x.gc) := (HB1.out.cell 9).trans HC9.out
      clear hr hf hokr
      go_wp2_with (fail)
      go_loopw [3, 4] (fun t i wr => ∃ k : Nat, i = .int .i64 k ∧ t = .int .i64 (maxG 0 (x.o.gone.take k)) ∧ k ≤ x.o.gone.length ∧ Kept (fun _ => False) w1 wr) (fun _ i _ => x.o.gone.length - (intOf i).toNat)
      case atStart => exact ⟨0, rfl, rfl, Nat.zero_le _, Kept.refl _ _⟩
      case round =>
        obtain ⟨k, rfl, rfl, hk, hkk⟩ := hrel
        have HKK := Lib.hid hkk
        clear b3 b9
        have b9 : wr.cell? ⟨w.heap.size, 9, none⟩ = some (.slice x.gA x.o.gone.length x.gc) := ((HB1.out.kept hkk id).cell 9).trans HC9.out
        by_cases hlt : k < x.o.gone.length
        · obtain ⟨ad, hA, x0, x1, x2⟩ := (HG.out.fresh hkk) k hlt
          rw [hA] at b9
          have hsn := maxG_snoc x.o.gone k hlt
          have hokk := HOKR.out x.o.gone[k] (List.getElem_mem hlt)
          obtain ⟨hb0, hb1⟩ := maxG_bd x.o.gone HOKR.out k (by omega)
          generalize x.o.gone[k] = q at x0 x1 x2 hsn hokk
          obtain ⟨⟨t, s⟩, n⟩ := q
          simp only at x0 x1 x2 hsn
          rw [okRn_iff, okId_iff] at hokk
          simp only at hokk
          have HSN := Lib.hid hsn
          generalize maxG 0 (x.o.gone.take k) = mx at hb0 hb1 HSN ⊢
          have hw1 : IntKind.i64.wrap (t + n) = t + n := IntWalk.i64_in _ ⟨by omega, by omega⟩
          have hw2 : IntKind.i64.wrap (t + n - 1) = t + n - 1 := IntWalk.i64_in _ ⟨by omega, by omega⟩
          have hk0 : (0 : Int) ≤ (k : Int) := by omega
          have hk1' : (k : Int) < (x.o.gone.length : Int) := by omega
          have hk2 : ¬ ((x.o.gone.length : Int) ≤ (k : Int)) := by omega
          clear hsn hkk hA
          go_upto_region 9 with (fail)
          go_quiet (fail)
          have HK2 := Lib.hid (HKK.out.trans ((Kept.refl (fun _ => False) wr).drewN nq) fun _ _ e => e)
          by_cases hgt : mx < t + n - 1
          · have HM := Lib.hid (show max mx (t + n - 1) = t + n - 1 by omega)
            go_wp2_with (fail)
            go_roundw
            case rel => exact ⟨k + 1, by go_num, by rw [HSN.out, HM.out], by omega, HK2.out⟩
            case measure => simp [intOf]; omega
          · have HM := Lib.hid (show max mx (t + n - 1) = mx by omega)
            go_wp2_with (fail)
            go_roundw
            case rel => exact ⟨k + 1, by go_num, by rw [HSN.out, HM.out], by omega, HK2.out⟩
            case measure => simp [intOf]; omega
        · obtain rfl : k = x.o.gone.length := by omega
          rw [List.take_length]
          clear hkk
          have HK2 := Lib.hid (HK1.out.trans HKK.out fun _ _ e => e)
          clear HKK HK1
          go_wp2_with (fail)
          go_ret
          rw [← HR.out]
          exact ⟨rfl, HK2.out⟩
end Go.Proofs.YtnajbkccaclkcaaGreat

namespace Go.Proofs.YtnajbkccaclkcaaGreat
open Go Go.RowKit

theorem when_yes (e : Int) (w : World) : Calls Tryz.prog 46 #[.bool true, .int .i64 e] w fun r w' => r = .returned (.int .i64 e) ∧ w' = w := when_any true e w
theorem when_no (e : Int) (w : World) : Calls Tryz.prog 46 #[.bool false, .int .i64 e] w fun r w' => r = .returned (.int .i64 0) ∧ w' = w := when_any false e w
/-- Why an operation does not come next behind a vector. -/
def stepE (clock : Int) (v : List Dt) (o : Opr) : Int :=
  firstE [opE o, if (!coversR (says v) (says o.deps) || decide (addE v o.dot ≠ 0)) = true then 9 else 0, if decide (clock < lastO o) = true then 9 else 0]
def endE (v mv : List Dt) : Int := if (!coversR (says v) (says mv) || !coversR (says mv) (says v)) = true then 9 else 0
/-- Why a log is none. -/
def logFrom (clock : Int) (mv : List Dt) : List Dt → List Lop → Int
  | v, [] => endE v mv
  | v, x :: l => if stepE clock v x.o = 0 then logFrom clock mv (addV v x.o.dot) l else stepE clock v x.o
theorem logFrom_nil (clock : Int) (mv v : List Dt) : logFrom clock mv v [] = endE v mv := rfl
theorem logFrom_cons (clock : Int) (mv v : List Dt) (x : Lop) (l : List Lop) : logFrom clock mv v (x :: l) = if stepE clock v x.o = 0 then logFrom clock mv (addV v x.o.dot) l else stepE clock v x.o := rfl
theorem addV_len (l : List Dt) (d : Dt) : (addV l d).length ≤ 17 := by
  unfold addV
  split
  · exact vecTo_len _ _
  · simp
theorem setRow_new (W : World) (old cs : Array Value) (T : TypeId) : (W.alloc (.cells old T)).setRow W.heap.size cs = W.alloc (.cells cs T) := by
  unfold World.setRow World.alloc
  congr 1
  refine Array.ext_getElem? fun i => ?_
  rw [Array.getElem?_modify, Array.getElem?_push, Array.getElem?_push]
  by_cases h : i = W.heap.size
  · subst h; simp
  · have h' : ¬ W.heap.size = i := fun e => h e.symm
    simp [h, h']
theorem wpList_store_newbox {ops : Array Oper} {rest : List Oper} {o : Oper} {a : Act} {w : World} {Q : Exit → Act → World → Prop} {T : TypeId} {s : Nat} (hT : (Tryz.prog.info? T).map (·.size) = some s) (hgd : o.guard = none) (x y : Operand) (ho : o.op = .store T x y) (W0 : World) (cs : Array Value) (hx : a.eval x = .pointer (some ⟨W0.heap.size, 0, none⟩)) (hy : a.eval y = .agg cs) (old : Array Value) (hw : w = W0.alloc (.cells old T))
    (hs : cs.size = s) (hold : old.size = s) (h1 : cs.all (·.oneCell') = true) (h : wpList Tryz.prog ops Q rest (a.put o.dst undef) (W0.alloc (.cells cs T))) : wpList Tryz.prog ops Q (o :: rest) a w := by
  subst hw
  refine wpList_store_row hgd _ x y ho W0.heap.size cs hx hy T old (Box.new W0 _ old) (by rw [hs]; exact hT) (by rw [hs, hold]) h1 ?_
  rw [setRow_new]
  exact h

set_option maxRecDepth 100000 in
set_option maxHeartbeats 4000000 in
theorem log_any (m : Im) (w : World) (h : m.At w) (hs : m.Small) : Calls Tryz.prog 28 #[.agg m.c] w (IntPost w (logFrom m.clock m.v m.b m.log)) := by
  obtain ⟨v, vA, vc, b, bA, bc, clock, log, lA, lc, nodes, nA, nc, joined, jA, jc, left, eA, ec, epoch⟩ := m
  have hb := Box.new w 28 (Im.c ⟨v, vA, vc, b, bA, bc, clock, log, lA, lc, nodes, nA, nc, joined, jA, jc, left, eA, ec, epoch⟩)
  have hk := (Kept.refl (fun _ => False) w).alloc (.cells (Im.c ⟨v, vA, vc, b, bA, bc, clock, log, lA, lc, nodes, nA, nc, joined, jA, jc, left, eA, ec, epoch⟩) 28)
  unfold Im.c at hb hk ⊢
  have hl1 : v.length ≤ 4611686018427387904 := by have := hs.v; simp only at this; omega
  have hl2 : b.length ≤ 4611686018427387904 := by have := hs.b; simp only at this; omega
  have hl3 : log.length ≤ 1000000 := hs.log
  obtain ⟨w1, hw1⟩ : ∃ w1, w.alloc (.cells #[.slice vA v.length vc, .slice bA b.length bc, .int .i64 clock, .slice lA log.length lc, .slice nA nodes.length nc, .slice jA joined.length jc, .slice eA left.length ec, .int .i64 epoch] 28) = w1 := ⟨_, rfl⟩
  rw [hw1] at hb hk
  obtain ⟨g, hg⟩ : ∃ g, w.heap.size = g := ⟨_, rfl⟩
  rw [hg] at hb
  have hv := h.v.fresh hk
  have hvb := h.b.fresh hk
  have hlo := h.log.fresh hk
  have hop : ∀ x ∈ log, x.At w1 := fun x hx => (h.ops x hx).fresh hk
  have hsm : ∀ x ∈ log, x.o.Small := hs.ops
  simp only at hv hvb hlo ⊢
  have z0 : w1.cell? ⟨g, 0, none⟩ = some (.slice vA v.length vc) := by simpa using hb.cell 0
  have z1 : w1.cell? ⟨g, 1, none⟩ = some (.slice bA b.length bc) := by simpa using hb.cell 1
  have z2 : w1.cell? ⟨g, 2, none⟩ = some (.int .i64 clock) := by simpa using hb.cell 2
  have z3 : w1.cell? ⟨g, 3, none⟩ = some (.slice lA log.length lc) := by simpa using hb.cell 3
  obtain ⟨N, hN⟩ : ∃ N, log.length = N := ⟨_, rfl⟩
  rw [hN] at z3 hl3
  have HN := Lib.hid hN
  have HV := Lib.hid hv
  have HLO := Lib.hid hlo
  have HOP := Lib.hid hop
  have HSM := Lib.hid hsm
  have HK := Lib.hid hk
  have HW := Lib.hid hw1
  have HG := Lib.hid hg
  have HL1 := Lib.hid hl1
  have HB0 := Lib.hid hvb
  have HL2 := Lib.hid hl2
  rw [hN] at hw1 ⊢
  have HW := Lib.hid hw1
  clear hk hw1 hg hb hv hvb h hs hl1 hl2 hlo hop hsm hN
  go_enter Tryz.func28, Tryz.ntmps28
  go_upto_region 1 with (fail)
  rw [HW.out, HG.out]
  have Z0 := Lib.hid z0
  have Z2 := Lib.hid z2
  go_wp2_with (fail)
  clear z0 z1 z2 z3
  go_loopw [3, 14] (fun sv i wr => ∃ (k : Nat) (u : List Dt) (A : Option Addr) (c : Nat), sv = .slice A u.length c ∧ i = .int .i64 k ∧ k ≤ N ∧ u.length ≤ 4611686018427387904 ∧ DotsAt wr A u ∧ Kept (fun _ => False) w1 wr ∧ logFrom clock v b log = logFrom clock v u (log.drop k)) (fun _ i _ => N - (intOf i).toNat)
  case atStart => exact ⟨0, b, bA, bc, rfl, rfl, Nat.zero_le _, HL2.out, HB0.out, Kept.refl _ _, rfl⟩
  case round =>
    obtain ⟨k, u, A, c, rfl, rfl, hk, hul, hdu, hkw, hf⟩ := hrel
    have HF := Lib.hid hf
    have HU := Lib.hid hdu
    have HUL := Lib.hid hul
    have HKW := Lib.hid hkw
    clear hf hdu hul hkw
    by_cases hlt : k < N
    · as_aux_lemma =>
      have hin : (k : Int) < (N : Int) := by omega
      have hkl : k < log.length := by rw [HN.out]; exact hlt
      obtain ⟨bb, ff, hlA, hc⟩ := HLO.out.some_ (by rw [lops_len]; omega)
      subst hlA
      have hr := lop_range (w := wr) (fun j x hj => HKW.out.cellF (hc j x hj)) k hkl
      have hd := List.drop_eq_getElem_cons hkl
      have hx1 := HOP.out _ (List.getElem_mem hkl)
      have hx2 := HSM.out _ (List.getElem_mem hkl)
      obtain ⟨x, hx⟩ : ∃ x, log[k] = x := ⟨_, rfl⟩
      rw [hx] at hr hd hx1 hx2
      have HD := Lib.hid (HF.out.trans (congrArg (logFrom clock v u) hd))
      have HR := Lib.hid hr
      obtain ⟨o, dA, dc, gA, gc⟩ := x
      obtain ⟨⟨ds, dq⟩, deps, kind, ⟨it, is⟩, ⟨rt, rs⟩, text, gone, site⟩ := o
      have HX1 := Lib.hid hx1
      have HX2 := Lib.hid hx2
      clear hr hd hx hc hx1 hx2 HF
      go_upto_region 5 with (first | refine wpList_load_lopM rfl _ rfl bb (ff + k * 11) rfl _ HR.out (Opr.cells ⟨⟨ds, dq⟩, deps, kind, ⟨it, is⟩, ⟨rt, rs⟩, text, gone, site⟩ dA dc gA gc) rfl ?_ | (refine wpList_store_newbox size_op rfl _ _ rfl wr _ rfl rfl opZ rfl rfl rfl (Opr.cells_one _ _ _ _ _) ?_; refine Hid.out ?_))
      refine Lib.hid ?_
      have HBO := Lib.hid (Box.new wr 64 (Opr.cells ⟨⟨ds, dq⟩, deps, kind, ⟨it, is⟩, ⟨rt, rs⟩, text, gone, site⟩ dA dc gA gc))
      have HKO := Lib.hid ((Kept.refl (fun _ => False) wr).alloc (.cells (Opr.cells ⟨⟨ds, dq⟩, deps, kind, ⟨it, is⟩, ⟨rt, rs⟩, text, gone, site⟩ dA dc gA gc) 64))
      generalize wr.alloc (.cells (Opr.cells ⟨⟨ds, dq⟩, deps, kind, ⟨it, is⟩, ⟨rt, rs⟩, text, gone, site⟩ dA dc gA gc) 64) = w2 at HBO HKO ⊢
      obtain ⟨D, hD⟩ : ∃ D, wr.heap.size = D := ⟨_, rfl⟩
      rw [hD] at HBO ⊢
      have y0 : w2.cell? ⟨D, 0, none⟩ = some (.int .i64 ds) := (HBO.out.cell 0).trans rfl
      have y1 : w2.cell? ⟨D, 1, none⟩ = some (.int .i64 dq) := (HBO.out.cell 1).trans rfl
      have y2 : w2.cell? ⟨D, 2, none⟩ = some (.slice dA deps.length dc) := (HBO.out.cell 2).trans rfl
      have Y2 := Lib.hid y2
      have aD := Tryz.isAgg59
      have zD := Tryz.sizeOf59
      have HA := Lib.hid (Add_any A u c ⟨ds, dq⟩ w2 (HU.out.fresh HKO.out) HUL.out)
      clear hD HR
      go_wp2_with (fail)
      refine HA.out.mono ?_
      unfold AddPost
      rintro r w3 ⟨A', c', rfl, ho3, hk3⟩
      have HK3 := Lib.hid ((HKW.out.trans HKO.out fun _ _ e => e).trans hk3 fun _ _ e => e)
      have HU3 := Lib.hid (DotsAt.of_own ho3)
      have HUP := Lib.hid (HU.out.fresh (HKO.out.trans hk3 fun _ _ e => e))
      have HB3 := Lib.hid (HBO.out.kept hk3 id)
      have z2 := HK3.out.cellF Z2.out
      have y2' := hk3.cellF y2
      have HL3 := Lib.hid (addV_len u ⟨ds, dq⟩)
      obtain ⟨u', hu'⟩ : ∃ u', addV u ⟨ds, dq⟩ = u' := ⟨_, rfl⟩
      obtain ⟨fe, hfe⟩ : ∃ fe, addE u ⟨ds, dq⟩ = fe := ⟨_, rfl⟩
      rw [hu'] at HU3 HL3 ⊢
      rw [hfe]
      have HUU := Lib.hid hu'
      have HFE := Lib.hid hfe
      have HX3 := Lib.hid (HX1.out.fresh HK3.out)
      have HC1 := Lib.hid (fun W (hW : Kept (fun _ => False) w3 W) => OpCheck_any _ dA gA dc gc W ((HX3.out.fresh hW).opr HX2.out))
      have HC2 := Lib.hid (fun W (hW : Kept (fun _ => False) w3 W) => OpLast_any _ W (HX3.out.fresh hW) HX2.out)
      have HC3 := Lib.hid (fun W (hW : Kept (fun _ => False) w3 W) => Covers_any A dA u deps c dc W (HUP.out.fresh hW) ((HX3.out.fresh hW).d) HUL.out (by have := HX2.out.dl; simp only at this; omega))
      have HY := Lib.hid (fun W => when_yes 9 W)
      have HNO := Lib.hid (fun W => when_no 9 W)
      simp only [Lop.c] at HC2
      have HST := Lib.hid (rfl : stepE clock u ⟨⟨ds, dq⟩, deps, kind, ⟨it, is⟩, ⟨rt, rs⟩, text, gone, site⟩ = stepE clock u ⟨⟨ds, dq⟩, deps, kind, ⟨it, is⟩, ⟨rt, rs⟩, text, gone, site⟩)
      obtain ⟨se, hse⟩ : ∃ se, stepE clock u ⟨⟨ds, dq⟩, deps, kind, ⟨it, is⟩, ⟨rt, rs⟩, text, gone, site⟩ = se := ⟨_, rfl⟩
      have HSE := Lib.hid hse
      unfold stepE at hse
      simp only at hse
      rw [hfe] at hse
      obtain ⟨e1, he1⟩ : ∃ e1, opE ⟨⟨ds, dq⟩, deps, kind, ⟨it, is⟩, ⟨rt, rs⟩, text, gone, site⟩ = e1 := ⟨_, rfl⟩
      obtain ⟨lo, hlo⟩ : ∃ lo, lastO ⟨⟨ds, dq⟩, deps, kind, ⟨it, is⟩, ⟨rt, rs⟩, text, gone, site⟩ = lo := ⟨_, rfl⟩
      obtain ⟨cv, hcv⟩ : ∃ cv, coversR (says u) (says deps) = cv := ⟨_, rfl⟩
      rw [he1] at HC1 hse
      rw [hlo] at HC2 hse
      rw [hcv] at HC3 hse
      have HSS := Lib.hid hse
      clear ho3 hk3 hu' hfe hse he1 hlo hcv y0 y1 y2 HA HST
      go_upto_region 6 with (fail)
      go_cut [8] (fun ve wx => ve = .int .i64 se ∧ Kept (fun _ => False) w3 wx)
      case first =>
        have hcase : (cv = false) ∨ (cv = true ∧ ¬ fe = 0 ∧ (fe == 0) = false ∧ (fe != 0) = true) ∨ (cv = true ∧ fe = 0) := by
          cases cv with
          | false => exact .inl rfl
          | true =>
            by_cases h0 : fe = 0
            · exact .inr (.inr ⟨rfl, h0⟩)
            · exact .inr (.inl ⟨rfl, h0, by simp [h0], by simp [h0]⟩)
        have hcase2 : lo > clock ∨ ¬ lo > clock := by omega
        have HB4 := HB3.out
        rcases hcase with rfl | ⟨rfl, g1, g2, g3⟩ | ⟨rfl, rfl⟩
        · rcases hcase2 with g4 | g4
          · as_aux_lemma =>
            have hfin : firstE [e1, 9, 9] = se := by
              have := HSS.out
              simpa [show clock < lo from g4] using this
            refine wp_region_class_tail (C := fun w' => Kept (fun _ => False) w3 w') 18 (by kernel_rfl) (by kernel_rfl) (Kept.refl _ _).drew ?_
            simp only [List.take_succ_cons, List.take_zero, List.drop_succ_cons, List.drop_zero]
            iterate 18
              first | go_big_quiet_skip | (go_big_quiet_want; first | (go_big_quiet_op; go_big_quiet_on) | (apply Exists.intro; refine ⟨fun w' hS => ?_, ?_⟩; (first | (unfold Oper.quietAt; rw [run_load_op _ _ rfl D rfl 64 _ rfl (HB4.kept hS id)]; exact ⟨rfl, rfl⟩) | (have d2 := hS.cellF y2'; have d3 := hS.cellF z2; go_simp; first | rfl | exact ⟨rfl, rfl⟩ | ((with_reducible refine (HY.out _).mono ?_); rintro e w2 ⟨rfl, rfl⟩; exact ⟨rfl, hS⟩) | ((with_reducible refine (HNO.out _).mono ?_); rintro e w2 ⟨rfl, rfl⟩; exact ⟨rfl, hS⟩) | ((with_reducible refine (HC1.out _ hS).mono ?_); unfold IntPost; rintro e w2 ⟨rfl, hk⟩; exact ⟨rfl, hS.trans hk fun _ _ e => e⟩) | ((with_reducible refine (HC2.out _ hS).mono ?_); unfold IntPost; rintro e w2 ⟨rfl, hk⟩; exact ⟨rfl, hS.trans hk fun _ _ e => e⟩) | ((with_reducible refine (HC3.out _ hS).mono ?_); unfold BoolPost; rintro e w2 ⟨rfl, hk⟩; exact ⟨rfl, hS.trans hk fun _ _ e => e⟩))); (try simp only [Act.put, List.setIfInBounds_toArray, List.set_cons_zero, List.set_cons_succ]); go_big_quiet_on))
            refine wpQuiet_nil ?_
            intro w5 hS
            have HS := Lib.hid hS
            have HFIN := Lib.hid hfin
            clear hS z2 y2' HB4 hfin
            go_wp2_with (fail)
            refine (first_any (some ⟨w5.heap.size, 0, none⟩) [e1, 9, 9] 3 _ (CellsAt.of_box (Box.new w5 _ _) rfl) (by simp)).mono ?_
            rintro r w6 ⟨rfl, rfl⟩
            rw [HFIN.out]
            go_wp2_with (fail)
            go_meet
            case rel => exact ⟨rfl, HS.out.alloc _⟩
          · as_aux_lemma =>
            have hfin : firstE [e1, 9, 0] = se := by
              have := HSS.out
              simpa [show ¬ clock < lo from g4] using this
            refine wp_region_class_tail (C := fun w' => Kept (fun _ => False) w3 w') 18 (by kernel_rfl) (by kernel_rfl) (Kept.refl _ _).drew ?_
            simp only [List.take_succ_cons, List.take_zero, List.drop_succ_cons, List.drop_zero]
            iterate 18
              first | go_big_quiet_skip | (go_big_quiet_want; first | (go_big_quiet_op; go_big_quiet_on) | (apply Exists.intro; refine ⟨fun w' hS => ?_, ?_⟩; (first | (unfold Oper.quietAt; rw [run_load_op _ _ rfl D rfl 64 _ rfl (HB4.kept hS id)]; exact ⟨rfl, rfl⟩) | (have d2 := hS.cellF y2'; have d3 := hS.cellF z2; go_simp; first | rfl | exact ⟨rfl, rfl⟩ | ((with_reducible refine (HY.out _).mono ?_); rintro e w2 ⟨rfl, rfl⟩; exact ⟨rfl, hS⟩) | ((with_reducible refine (HNO.out _).mono ?_); rintro e w2 ⟨rfl, rfl⟩; exact ⟨rfl, hS⟩) | ((with_reducible refine (HC1.out _ hS).mono ?_); unfold IntPost; rintro e w2 ⟨rfl, hk⟩; exact ⟨rfl, hS.trans hk fun _ _ e => e⟩) | ((with_reducible refine (HC2.out _ hS).mono ?_); unfold IntPost; rintro e w2 ⟨rfl, hk⟩; exact ⟨rfl, hS.trans hk fun _ _ e => e⟩) | ((with_reducible refine (HC3.out _ hS).mono ?_); unfold BoolPost; rintro e w2 ⟨rfl, hk⟩; exact ⟨rfl, hS.trans hk fun _ _ e => e⟩))); (try simp only [Act.put, List.setIfInBounds_toArray, List.set_cons_zero, List.set_cons_succ]); go_big_quiet_on))
            refine wpQuiet_nil ?_
            intro w5 hS
            have HS := Lib.hid hS
            have HFIN := Lib.hid hfin
            clear hS z2 y2' HB4 hfin
            go_wp2_with (fail)
            refine (first_any (some ⟨w5.heap.size, 0, none⟩) [e1, 9, 0] 3 _ (CellsAt.of_box (Box.new w5 _ _) rfl) (by simp)).mono ?_
            rintro r w6 ⟨rfl, rfl⟩
            rw [HFIN.out]
            go_wp2_with (fail)
            go_meet
            case rel => exact ⟨rfl, HS.out.alloc _⟩
        · rcases hcase2 with g4 | g4
          · as_aux_lemma =>
            have hfin : firstE [e1, 9, 9] = se := by
              have := HSS.out
              simpa [g1, show clock < lo from g4] using this
            refine wp_region_class_tail (C := fun w' => Kept (fun _ => False) w3 w') 18 (by kernel_rfl) (by kernel_rfl) (Kept.refl _ _).drew ?_
            simp only [List.take_succ_cons, List.take_zero, List.drop_succ_cons, List.drop_zero]
            iterate 18
              first | go_big_quiet_skip | (go_big_quiet_want; first | (go_big_quiet_op; go_big_quiet_on) | (apply Exists.intro; refine ⟨fun w' hS => ?_, ?_⟩; (first | (unfold Oper.quietAt; rw [run_load_op _ _ rfl D rfl 64 _ rfl (HB4.kept hS id)]; exact ⟨rfl, rfl⟩) | (have d2 := hS.cellF y2'; have d3 := hS.cellF z2; go_simp; first | rfl | exact ⟨rfl, rfl⟩ | ((with_reducible refine (HY.out _).mono ?_); rintro e w2 ⟨rfl, rfl⟩; exact ⟨rfl, hS⟩) | ((with_reducible refine (HNO.out _).mono ?_); rintro e w2 ⟨rfl, rfl⟩; exact ⟨rfl, hS⟩) | ((with_reducible refine (HC1.out _ hS).mono ?_); unfold IntPost; rintro e w2 ⟨rfl, hk⟩; exact ⟨rfl, hS.trans hk fun _ _ e => e⟩) | ((with_reducible refine (HC2.out _ hS).mono ?_); unfold IntPost; rintro e w2 ⟨rfl, hk⟩; exact ⟨rfl, hS.trans hk fun _ _ e => e⟩) | ((with_reducible refine (HC3.out _ hS).mono ?_); unfold BoolPost; rintro e w2 ⟨rfl, hk⟩; exact ⟨rfl, hS.trans hk fun _ _ e => e⟩))); (try simp only [Act.put, List.setIfInBounds_toArray, List.set_cons_zero, List.set_cons_succ]); go_big_quiet_on))
            refine wpQuiet_nil ?_
            intro w5 hS
            have HS := Lib.hid hS
            have HFIN := Lib.hid hfin
            clear hS z2 y2' HB4 hfin
            go_wp2_with (fail)
            refine (first_any (some ⟨w5.heap.size, 0, none⟩) [e1, 9, 9] 3 _ (CellsAt.of_box (Box.new w5 _ _) rfl) (by simp)).mono ?_
            rintro r w6 ⟨rfl, rfl⟩
            rw [HFIN.out]
            go_wp2_with (fail)
            go_meet
            case rel => exact ⟨rfl, HS.out.alloc _⟩
          · as_aux_lemma =>
            have hfin : firstE [e1, 9, 0] = se := by
              have := HSS.out
              simpa [g1, show ¬ clock < lo from g4] using this
            refine wp_region_class_tail (C := fun w' => Kept (fun _ => False) w3 w') 18 (by kernel_rfl) (by kernel_rfl) (Kept.refl _ _).drew ?_
            simp only [List.take_succ_cons, List.take_zero, List.drop_succ_cons, List.drop_zero]
            iterate 18
              first | go_big_quiet_skip | (go_big_quiet_want; first | (go_big_quiet_op; go_big_quiet_on) | (apply Exists.intro; refine ⟨fun w' hS => ?_, ?_⟩; (first | (unfold Oper.quietAt; rw [run_load_op _ _ rfl D rfl 64 _ rfl (HB4.kept hS id)]; exact ⟨rfl, rfl⟩) | (have d2 := hS.cellF y2'; have d3 := hS.cellF z2; go_simp; first | rfl | exact ⟨rfl, rfl⟩ | ((with_reducible refine (HY.out _).mono ?_); rintro e w2 ⟨rfl, rfl⟩; exact ⟨rfl, hS⟩) | ((with_reducible refine (HNO.out _).mono ?_); rintro e w2 ⟨rfl, rfl⟩; exact ⟨rfl, hS⟩) | ((with_reducible refine (HC1.out _ hS).mono ?_); unfold IntPost; rintro e w2 ⟨rfl, hk⟩; exact ⟨rfl, hS.trans hk fun _ _ e => e⟩) | ((with_reducible refine (HC2.out _ hS).mono ?_); unfold IntPost; rintro e w2 ⟨rfl, hk⟩; exact ⟨rfl, hS.trans hk fun _ _ e => e⟩) | ((with_reducible refine (HC3.out _ hS).mono ?_); unfold BoolPost; rintro e w2 ⟨rfl, hk⟩; exact ⟨rfl, hS.trans hk fun _ _ e => e⟩))); (try simp only [Act.put, List.setIfInBounds_toArray, List.set_cons_zero, List.set_cons_succ]); go_big_quiet_on))
            refine wpQuiet_nil ?_
            intro w5 hS
            have HS := Lib.hid hS
            have HFIN := Lib.hid hfin
            clear hS z2 y2' HB4 hfin
            go_wp2_with (fail)
            refine (first_any (some ⟨w5.heap.size, 0, none⟩) [e1, 9, 0] 3 _ (CellsAt.of_box (Box.new w5 _ _) rfl) (by simp)).mono ?_
            rintro r w6 ⟨rfl, rfl⟩
            rw [HFIN.out]
            go_wp2_with (fail)
            go_meet
            case rel => exact ⟨rfl, HS.out.alloc _⟩
        · rcases hcase2 with g4 | g4
          · as_aux_lemma =>
            have hfin : firstE [e1, 0, 9] = se := by
              have := HSS.out
              simpa [show clock < lo from g4] using this
            refine wp_region_class_tail (C := fun w' => Kept (fun _ => False) w3 w') 18 (by kernel_rfl) (by kernel_rfl) (Kept.refl _ _).drew ?_
            simp only [List.take_succ_cons, List.take_zero, List.drop_succ_cons, List.drop_zero]
            iterate 18
              first | go_big_quiet_skip | (go_big_quiet_want; first | (go_big_quiet_op; go_big_quiet_on) | (apply Exists.intro; refine ⟨fun w' hS => ?_, ?_⟩; (first | (unfold Oper.quietAt; rw [run_load_op _ _ rfl D rfl 64 _ rfl (HB4.kept hS id)]; exact ⟨rfl, rfl⟩) | (have d2 := hS.cellF y2'; have d3 := hS.cellF z2; go_simp; first | rfl | exact ⟨rfl, rfl⟩ | ((with_reducible refine (HY.out _).mono ?_); rintro e w2 ⟨rfl, rfl⟩; exact ⟨rfl, hS⟩) | ((with_reducible refine (HNO.out _).mono ?_); rintro e w2 ⟨rfl, rfl⟩; exact ⟨rfl, hS⟩) | ((with_reducible refine (HC1.out _ hS).mono ?_); unfold IntPost; rintro e w2 ⟨rfl, hk⟩; exact ⟨rfl, hS.trans hk fun _ _ e => e⟩) | ((with_reducible refine (HC2.out _ hS).mono ?_); unfold IntPost; rintro e w2 ⟨rfl, hk⟩; exact ⟨rfl, hS.trans hk fun _ _ e => e⟩) | ((with_reducible refine (HC3.out _ hS).mono ?_); unfold BoolPost; rintro e w2 ⟨rfl, hk⟩; exact ⟨rfl, hS.trans hk fun _ _ e => e⟩))); (try simp only [Act.put, List.setIfInBounds_toArray, List.set_cons_zero, List.set_cons_succ]); go_big_quiet_on))
            refine wpQuiet_nil ?_
            intro w5 hS
            have HS := Lib.hid hS
            have HFIN := Lib.hid hfin
            clear hS z2 y2' HB4 hfin
            go_wp2_with (fail)
            refine (first_any (some ⟨w5.heap.size, 0, none⟩) [e1, 0, 9] 3 _ (CellsAt.of_box (Box.new w5 _ _) rfl) (by simp)).mono ?_
            rintro r w6 ⟨rfl, rfl⟩
            rw [HFIN.out]
            go_wp2_with (fail)
            go_meet
            case rel => exact ⟨rfl, HS.out.alloc _⟩
          · as_aux_lemma =>
            have hfin : firstE [e1, 0, 0] = se := by
              have := HSS.out
              simpa [show ¬ clock < lo from g4] using this
            refine wp_region_class_tail (C := fun w' => Kept (fun _ => False) w3 w') 18 (by kernel_rfl) (by kernel_rfl) (Kept.refl _ _).drew ?_
            simp only [List.take_succ_cons, List.take_zero, List.drop_succ_cons, List.drop_zero]
            iterate 18
              first | go_big_quiet_skip | (go_big_quiet_want; first | (go_big_quiet_op; go_big_quiet_on) | (apply Exists.intro; refine ⟨fun w' hS => ?_, ?_⟩; (first | (unfold Oper.quietAt; rw [run_load_op _ _ rfl D rfl 64 _ rfl (HB4.kept hS id)]; exact ⟨rfl, rfl⟩) | (have d2 := hS.cellF y2'; have d3 := hS.cellF z2; go_simp; first | rfl | exact ⟨rfl, rfl⟩ | ((with_reducible refine (HY.out _).mono ?_); rintro e w2 ⟨rfl, rfl⟩; exact ⟨rfl, hS⟩) | ((with_reducible refine (HNO.out _).mono ?_); rintro e w2 ⟨rfl, rfl⟩; exact ⟨rfl, hS⟩) | ((with_reducible refine (HC1.out _ hS).mono ?_); unfold IntPost; rintro e w2 ⟨rfl, hk⟩; exact ⟨rfl, hS.trans hk fun _ _ e => e⟩) | ((with_reducible refine (HC2.out _ hS).mono ?_); unfold IntPost; rintro e w2 ⟨rfl, hk⟩; exact ⟨rfl, hS.trans hk fun _ _ e => e⟩) | ((with_reducible refine (HC3.out _ hS).mono ?_); unfold BoolPost; rintro e w2 ⟨rfl, hk⟩; exact ⟨rfl, hS.trans hk fun _ _ e => e⟩))); (try simp only [Act.put, List.setIfInBounds_toArray, List.set_cons_zero, List.set_cons_succ]); go_big_quiet_on))
            refine wpQuiet_nil ?_
            intro w5 hS
            have HS := Lib.hid hS
            have HFIN := Lib.hid hfin
            clear hS z2 y2' HB4 hfin
            go_wp2_with (fail)
            refine (first_any (some ⟨w5.heap.size, 0, none⟩) [e1, 0, 0] 3 _ (CellsAt.of_box (Box.new w5 _ _) rfl) (by simp)).mono ?_
            rintro r w6 ⟨rfl, rfl⟩
            rw [HFIN.out]
            go_wp2_with (fail)
            go_meet
            case rel => exact ⟨rfl, HS.out.alloc _⟩
      case rest =>
        obtain ⟨rfl, hkc⟩ := hcut
        have HKC := Lib.hid (HK3.out.trans hkc fun _ _ e => e)
        have HUC := Lib.hid (HU3.out.fresh hkc)
        clear hkc z2 y2'
        by_cases h0 : se = 0
        · have hd := HD.out
          rw [logFrom_cons] at hd
          simp only at hd
          rw [HSE.out, if_pos h0, HUU.out] at hd
          have HD2 := Lib.hid hd
          subst h0
          clear hd
          go_wp2_with (fail)
          go_roundw
          case rel => exact ⟨k + 1, u', A', c', rfl, by go_num, by omega, by have := HL3.out; omega, HUC.out, HKC.out, HD2.out⟩
          case measure => simp [intOf]; omega
        · have hd := HD.out
          rw [logFrom_cons] at hd
          simp only at hd
          rw [HSE.out, if_neg h0] at hd
          have HD2 := Lib.hid hd
          have b1 : (se != 0) = true := by simp [h0]
          have b2 : (se == 0) = false := by simp [h0]
          clear hd h0
          go_wp2_with (fail)
          go_ret
          exact ⟨ret_int HD2.out.symm, HK.out.trans HKC.out fun _ _ e => e⟩
    · as_aux_lemma =>
      have hin : ¬ (k : Int) < (N : Int) := by omega
      have hf := HF.out
      rw [List.drop_eq_nil_of_le (by rw [HN.out]; omega)] at hf
      rw [logFrom_nil] at hf
      unfold endE at hf
      have HF2 := Lib.hid hf
      have z0 := HKW.out.cellF Z0.out
      have H1 := Lib.hid (fun W (hW : Kept (fun _ => False) wr W) => Covers_any A vA u v c vc W (HU.out.fresh hW) ((HV.out.fresh HKW.out).fresh hW) HUL.out HL1.out)
      have H2 := Lib.hid (fun W (hW : Kept (fun _ => False) wr W) => Covers_any vA A v u vc c W ((HV.out.fresh HKW.out).fresh hW) (HU.out.fresh hW) HL1.out HUL.out)
      obtain ⟨c1, hc1⟩ : ∃ c1, coversR (says u) (says v) = c1 := ⟨_, rfl⟩
      obtain ⟨c2, hc2⟩ : ∃ c2, coversR (says v) (says u) = c2 := ⟨_, rfl⟩
      rw [hc1] at H1 HF2
      rw [hc2] at H2 HF2
      clear hf hc1 hc2 HF
      go_wp2_with (fail)
      refine (H1.out _ (Kept.refl _ _)).mono ?_
      unfold BoolPost
      rintro r w3 ⟨rfl, hk3⟩
      have HK3 := Lib.hid hk3
      have z0' := hk3.cellF z0
      clear hk3
      cases c1 with
      | false =>
        go_wp2_with (fail)
        refine (when_yes 9 _).mono ?_
        rintro r w4 ⟨rfl, rfl⟩
        go_wp2_with (fail)
        go_ret
        exact ⟨ret_int HF2.out.symm, (HK.out.trans HKW.out fun _ _ e => e).trans HK3.out fun _ _ e => e⟩
      | true =>
        go_wp2_with (fail)
        refine (H2.out _ HK3.out).mono ?_
        unfold BoolPost
        rintro r w4 ⟨rfl, hk4⟩
        have HK4 := Lib.hid (HK3.out.trans hk4 fun _ _ e => e)
        clear hk4
        cases c2 with
        | false =>
          go_wp2_with (fail)
          refine (when_yes 9 _).mono ?_
          rintro r w5 ⟨rfl, rfl⟩
          go_wp2_with (fail)
          go_ret
          exact ⟨ret_int HF2.out.symm, (HK.out.trans HKW.out fun _ _ e => e).trans HK4.out fun _ _ e => e⟩
        | true =>
          go_wp2_with (fail)
          refine (when_no 9 _).mono ?_
          rintro r w5 ⟨rfl, rfl⟩
          go_wp2_with (fail)
          go_ret
          exact ⟨ret_int HF2.out.symm, (HK.out.trans HKW.out fun _ _ e => e).trans HK4.out fun _ _ e => e⟩
end Go.Proofs.YtnajbkccaclkcaaGreat

namespace Go.Proofs.YtnajbkccaclkcaaGreat
open Go.ChangeShapes Go.WideShapes Go.ChangeAt Go.RowKit

theorem own : ownKnob Tryz.prog.godebug = none := by kernel_rfl
theorem laidOut : laidOutB Tryz.prog = true := by kernel_rfl

section
variable {H : Type} {enc : TypeId × Value → H} {P : Program}
theorem trodAll_below (hl : laidOutB P = true) {W W' : World} (hb : Below W.heap.size W W') : ∀ (ts : List TypeId) (vs : List Value) (ds : List (DataW H)) (ps : List MemPlace),
    (∀ t ∈ ts, P.readableRec t = true ∧ t < P.types.size) → DataW.TrodAll enc P W 0 (fun _ => true) true ts vs ds ps → (∀ x ∈ ps, x.block < W.heap.size) →
    DataW.TrodAll enc P W' 0 (fun b => decide (b < W.heap.size)) true ts vs ds ps
  | [], vs, ds, ps, _, h, _ => by cases vs <;> cases ds <;> simp_all [DataW.TrodAll]
  | t :: ts, vs, ds, ps, hall, h, hlt => by
    obtain ⟨v, vs', d, ds', p, q, rfl, rfl, rfl, h0, h1⟩ := trodAll_cons h
    have ht := hall t (by simp)
    exact trodAll_cons_mk (Below.trod hl ht.1 ht.2 h0 hb fun x hx => hlt x (by simp [hx])) (trodAll_below hl hb ts vs' ds' q (fun t ht => hall t (by simp [ht])) h1 fun x hx => hlt x (by simp [hx]))

theorem law_post {f : Func} {s : ChangeSpec} {W W' : World} {args : Array Value} {ds gs : List (DataW H)} {before : List MemPlace} {tb : TypeId}
    (hW : DataW.Whole enc P f.params.toList s.vars false W args.toList ds gs before) (hvars : s.vars = []) (hl : laidOutB P = true) (hall : f.params.toList.all (fun t => P.readableRec t && decide (t < P.types.size)) = true)
    (hrt : f.resultTypes = #[tb]) (htb : P.underlying tb = some .bool) (hsp : s.fn H ds = { results := [.lit (.bool true)], args := ds }) (hb : Below W.heap.size W W') : s.post enc P f false true false false W args (.bool true) W' := by
  have hlt : ∀ p ∈ before, p.block < W.heap.size := fun p hp => hW.lt p hp
  have hW' := hW
  obtain ⟨p, q, hA, hV, rfl, _, _⟩ := hW
  rw [hvars] at hV
  obtain ⟨rfl, rfl⟩ := trodVars_none hV
  have hall' : ∀ t ∈ f.params.toList, P.readableRec t = true ∧ t < P.types.size := fun t ht => by
    have := List.all_eq_true.1 hall t ht
    simpa using this
  refine ⟨ds, [], p ++ [], [], p, [], hW', ?_, ?_, ?_, hb.frame _, fun h => by cases h⟩
  · rw [List.append_nil, hsp, hrt]
    exact trodAll_cons_mk (shut_bool htb true) trodAll_mk0
  · rw [List.append_nil, hsp]
    exact trodAll_below hl hb _ _ _ _ hall' hA fun x hx => hlt x (by simp [hx])
  · rw [List.append_nil, hsp, hvars]
    rfl
end
end Go.Proofs.YtnajbkccaclkcaaGreat
