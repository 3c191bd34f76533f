/- The walk of FrontOrder: it is true. Conditions: the script, the turns and the vector lie in memory. -/
import Derived.Test.YthlejmpeigfdgaaFOrQ
namespace Go.Proofs.Ythlejmpeigfdgaa
open Go Go.RowKit

theorem info_stf : (Try.prog.info? 34).map (fun i => (i.zero, i.size, i.bytes)) = some (some (.agg #[.int .i64 0, .int .i64 0, .slice none 0 0, .slice none 0 0]), 4, 64) := by kernel_rfl
theorem eltStfs : Elt Try.prog 22 34 4 64 := .of Try.underlying22 info_stf rfl (by decide) (by decide)
theorem Stf.cs_one' (x : Stf) : x.cs.toList.all (·.oneCell') = true := rfl
/-- The cells of steps. -/
def stfs (l : List Stf) : List Value := l.flatMap fun x => x.cs.toList
theorem built_stf (x : Stf) : Try.prog.builtSlice 34 1 [(0, .agg x.cs)] = some x.cs := by
  obtain ⟨i, z, hi, hz, hsz, hby, hzs⟩ := eltStfs.info
  obtain ⟨i', hi', hz', _⟩ := info_parts info_stf
  obtain rfl : i = i' := by rw [hi] at hi'; injection hi'
  obtain rfl := Option.some.inj (hz.symm.trans hz')
  unfold Program.builtSlice
  simp only [hi, hz, hsz]
  rw [if_neg (by decide)]
  kernel_rfl
theorem wpList_one_stf {ops : Array Oper} {rest : List Oper} {o : Oper} {a : Act} {w : World} {Q : Exit → Act → World → Prop} (hg : o.guard = none) (x0 : Operand)
    (ho : o.op = .buildSlice 22 1 #[(0, x0)]) (x : Stf) (h0 : a.eval x0 = .agg x.cs)
    (h : wpList Try.prog ops Q rest (a.put o.dst (.slice (some ⟨w.heap.size, 0, none⟩) 1 1)) (w.alloc (.cells x.cs 34))) :
    wpList Try.prog ops Q (o :: rest) a w := by
  refine Great.wpList_buildSliceTo hg _ 34 1 _ ho _ rfl _ rfl Try.underlying22 _ ?_ h
  have e : (#[(0, x0)].map fun ((i, x) : Nat × Operand) => (i, a.eval x)).toList = [(0, a.eval x0)] := by simp
  rw [e, h0]
  exact built_stf ..
theorem stfs_app (l : List Stf) (x : Stf) : stfs (l ++ [x]) = stfs l ++ x.cs.toList := by simp [stfs]
theorem stfs_get (l : List Stf) : ∀ (k : Nat) (h : k < l.length) (j : Nat), j < 4 → (stfs l)[k * 4 + j]? = l[k].cs.toList[j]? := by
  induction l with
  | nil => intro k h; simp at h
  | cons x l ih =>
    intro k h j hj
    have e : stfs (x :: l) = x.cs.toList ++ stfs l := rfl
    have hx : x.cs.toList.length = 4 := rfl
    rw [e]
    cases k with
    | zero => rw [Nat.zero_mul, Nat.zero_add, List.getElem?_append_left (by omega)]; rfl
    | succ k =>
      rw [show (k + 1) * 4 + j = 4 + (k * 4 + j) by omega, List.getElem?_append_right (by omega), hx, Nat.add_sub_cancel_left]
      exact ih k (by simpa using h) j hj
/-- What a row of steps holds at a place. -/
theorem stf_cells {w : World} {LA : Option Addr} {lc : Nat} {xs : List Stf} (h : w.ownsRow 0 34 4 (.slice LA xs.length lc) xs.length (stfs xs)) {j : Nat} (hj : j < xs.length) :
    ∃ g, LA = some ⟨g, 0, none⟩ ∧ w.cell? ⟨g, j * 4 + 1, none⟩ = some (.int .i64 xs[j].site) ∧ w.cell? ⟨g, j * 4 + 2, none⟩ = some (.slice xs[j].vA xs[j].v.length xs[j].vc) := by
  obtain ⟨g, hA, -, hc, -⟩ := own_cells h (by omega)
  exact ⟨g, hA, hc _ _ (stfs_get xs j hj 1 (by omega)), hc _ _ (stfs_get xs j hj 2 (by omega))⟩
theorem stf_at {w : World} {ad : Addr} {lc : Nat} {xs : List Stf} (h : w.ownsRow 0 34 4 (.slice (some ad) xs.length lc) xs.length (stfs xs)) {j : Nat} (hj : j < xs.length) :
    w.cell? ⟨(ad.add (j * 4)).block, (ad.add (j * 4)).off + 1, none⟩ = some (.int .i64 xs[j].site) ∧ w.cell? ⟨(ad.add (j * 4)).block, (ad.add (j * 4)).off + 2, none⟩ = some (.slice xs[j].vA xs[j].v.length xs[j].vc) := by
  obtain ⟨g, hA, h1, h2⟩ := stf_cells h hj
  injection hA with hA
  subst hA
  rw [add_none]
  exact ⟨h1, h2⟩
def heardOf (l : List Stf) : List Stf := l.filter fun x => decide (x.kind = 1)
theorem heardOf_yes {l : List Stf} {k : Nat} (h : k < l.length) (hk : l[k].kind = 1) : heardOf (l.take (k + 1)) = heardOf (l.take k) ++ [l[k]] := by
  unfold heardOf
  rw [List.take_succ_eq_append_getElem h, List.filter_append]
  simp [hk]
theorem heardOf_no {l : List Stf} {k : Nat} (h : k < l.length) (hk : ¬ l[k].kind = 1) : heardOf (l.take (k + 1)) = heardOf (l.take k) := by
  unfold heardOf
  rw [List.take_succ_eq_append_getElem h, List.filter_append]
  simp [hk]
theorem heardOf_mem {l : List Stf} {x : Stf} (h : x ∈ heardOf l) : x ∈ l := (List.mem_filter.1 h).1
theorem heardOf_len (l : List Stf) : (heardOf l).length ≤ l.length := List.length_filter_le _ _
theorem back_step {xs : List Stf} {m : Nat} (h : m < xs.length) : (xs.drop m).reverse = (xs.drop (m + 1)).reverse ++ [xs[m]] := by
  rw [List.drop_eq_getElem_cons h, List.reverse_cons]
/-- The list of the steps heard, beside a Front. -/
def Lob (LA : Option Addr) (lc : Nat) (xs : List Stf) : (Nat → Prop) → World → Prop := Own1 34 4 (.slice LA xs.length lc) xs.length (stfs xs)
theorem Lob.ob (LA : Option Addr) (lc : Nat) (xs : List Stf) : Ob (Lob LA lc xs) := Own1.ob ..
def FL (q : Nat) (s : List Fp) (N : Nat) (LA : Option Addr) (lc : Nat) (xs : List Stf) : (Nat → Prop) → World → Prop := Pair (Fob q s N) (Lob LA lc xs)
theorem FL.ob (q : Nat) (s : List Fp) (N : Nat) (LA : Option Addr) (lc : Nat) (xs : List Stf) : Ob (FL q s N LA lc xs) := Pair.ob (Fob.ob ..) (Lob.ob ..)
theorem FL.row {q : Nat} {s : List Fp} {N : Nat} {LA : Option Addr} {lc : Nat} {xs : List Stf} {G : Nat → Prop} {W : World} (h : FL q s N LA lc xs G W) : W.ownsRow 0 34 4 (.slice LA xs.length lc) xs.length (stfs xs) := (Pair.snd (Lob.ob ..) h).1
theorem FL.start {q : Nat} {s : List Fp} {N : Nat} {G : Nat → Prop} {W : World} (h : Fob q s N G W) : FL q s N none 0 [] G W :=
  Pair.make (Fa := G) (Fb := fun _ => False) (Fob.ob ..) (Lob.ob ..) h ⟨World.ownsRow_nil _ _ _ _, fun k e => by cases e⟩ (fun _ _ _ e => e) (fun k e => e) (fun k e => e.elim)
theorem FL.hear {p q Na N lc : Nat} {sa s : List Fp} {LA : Option Addr} {xs : List Stf} {G : Nat → Prop} {W : World} {m : Int} (h : Pair (Fob p sa Na) (FL q s N LA lc xs) G W) (hG : ∀ k, W.heap.size ≤ k → G k) (hN : N < 900000) (hm : (Lit.int .i64 m).wf = true) (A : Option Addr) (v : List Dt) (c : Nat) (hv : ∀ W', Kept G W W' → DotsAt W' A v) (hl : v.length ≤ 1000000) :
    Calls Try.prog 17 #[.pointer (some ⟨q, 0, none⟩), .int .i64 m, .slice A v.length c] W fun r W' => r = .returned (.int .i64 (hearE m v)) ∧ Pair (Fob p sa Na) (FL q (Go.Proofs.Ythlejmpeigfdgaa.hear s m v) (N + 1) LA lc xs) G W' ∧ Kept G W W' := by
  obtain ⟨H, h1, h2, h3, h4⟩ := h.right (Fob.ob _ _ _) (FL.ob ..) hG
  refine (Pair.hearL (Lob.ob ..) h1 h2 hN hm A v c (fun W' hk => hv W' (hk.more fun k _ e => h3 k e)) hl).mono ?_
  rintro r W' ⟨h5, h6, h7⟩
  exact ⟨h5, h4 _ _ (FL.ob ..) h6 h7⟩
set_option maxRecDepth 100000 in
set_option maxHeartbeats 25600000 in
theorem Order_walk (A B C : Option Addr) (c d e : Nat) (l : List Stf) (ts : List Int) (own : List Dt) (w : World) (h : ScfAt w A l) (hB : IntsAt w B ts) (hC : DotsAt w C own) (hw : ∀ m ∈ ts, (Lit.int .i64 m).wf = true) (hl : l.length ≤ 4611686018427387904) (hm : ts.length ≤ 4611686018427387904) (ho : own.length ≤ 4611686018427387904) :
    Calls Try.prog 7 #[.slice A l.length c, .slice B ts.length d, .slice C own.length e] w (KnownPost w) := by
  have HSC := Lib.hid h
  have HTS := Lib.hid hB
  have HOW := Lib.hid hC
  have HWF := Lib.hid hw
  clear h hB hC hw
  go_enter Try.func7, Try.ntmps7
  go_wp2_with (fail)
  refine (Much14_any A l c w HSC.out.steps hl).mono ?_
  rintro r w1 ⟨rfl, hk⟩
  have HA1 := Lib.hid hk
  clear hk
  obtain ⟨bm, hbm⟩ : ∃ bm, muchF l = bm := ⟨_, rfl⟩
  rw [hbm]
  have HBM := Lib.hid hbm
  clear hbm
  cases bm with
  | true =>
    as_aux_lemma =>
    go_wp2_with (fail)
    refine (Known14_any w1).mono ?_
    rintro r wk ⟨rfl, hk⟩
    have HK := Lib.hid (HA1.out.trans hk fun _ _ e => e)
    clear hk
    go_wp2_with (fail)
    go_ret
    exact ⟨rfl, HK.out⟩
  | false =>
  obtain ⟨hok, hll⟩ := HSC.out.ok HBM.out
  have HOK := Lib.hid hok
  clear hok HBM hl
  by_cases hlt : 200 < ts.length
  · as_aux_lemma =>
    have hlt' : (200 : Int) < (ts.length : Int) := by omega
    go_wp2_with (fail)
    refine (Known14_any w1).mono ?_
    rintro r wk ⟨rfl, hk⟩
    have HK := Lib.hid (HA1.out.trans hk fun _ _ e => e)
    clear hk
    go_wp2_with (fail)
    go_ret
    exact ⟨rfl, HK.out⟩
  have hlt' : ¬ (200 : Int) < (ts.length : Int) := by omega
  by_cases hlo : 20000 < own.length
  · as_aux_lemma =>
    have hlo' : (20000 : Int) < (own.length : Int) := by omega
    go_wp2_with (fail)
    refine (Known14_any w1).mono ?_
    rintro r wk ⟨rfl, hk⟩
    have HK := Lib.hid (HA1.out.trans hk fun _ _ e => e)
    clear hk
    go_wp2_with (fail)
    go_ret
    exact ⟨rfl, HK.out⟩
  have hlo' : ¬ (20000 : Int) < (own.length : Int) := by omega
  go_wp2_with (fail)
  refine (Fob.new w1 w1.heap.size (Nat.le_refl _)).mono ?_
  rintro r w2 ⟨rfl, hn, hk⟩
  have HN2 := Lib.hid ((Fob.ob _ _ _).cut hn)
  have HA2 := Lib.hid (HA1.out.trans hk fun _ _ e => e)
  have HWP := Lib.hid HA1.out.size
  have HPS := Lib.hid hk.size
  clear hn hk HA1
  obtain ⟨p, hp⟩ : ∃ p, w1.heap.size = p := ⟨_, rfl⟩
  rw [hp] at HN2 HWP HPS ⊢
  clear hp
  go_wp2_with (fail)
  refine (Fob.new w2 w2.heap.size (Nat.le_refl _)).mono ?_
  rintro r w3 ⟨rfl, hn, hk⟩
  have HP := Lib.hid (show Pair (Fob p [] 0) (FL w2.heap.size [] 0 none 0 []) (fun k => p ≤ k) w3 from Pair.make (Fob.ob _ _ _) (FL.ob ..) ((Fob.ob _ _ _).fresh HN2.out hk) (FL.start hn) (fun k e1 e2 e3 => by omega) (fun k e => e.1) (fun k e => Nat.le_trans HPS.out e))
  have HA3 := Lib.hid (HA2.out.trans hk fun _ _ e => e)
  have HPS := Lib.hid (Nat.le_trans HPS.out hk.size)
  clear hn hk HA2 HN2
  obtain ⟨q, hq⟩ : ∃ q, w2.heap.size = q := ⟨_, rfl⟩
  rw [hq] at HP ⊢
  clear hq
  go_wp2_with (fail)
  go_loopw [9, 10] (fun v9 i wr => ∃ (k : Nat) (xs : List Stf) (LA : Option Addr) (lc : Nat), v9 = .slice LA xs.length lc ∧ i = .int .i64 k ∧ k ≤ l.length ∧ xs = heardOf (l.take k) ∧ Pair (Fob p (hears [] xs) k) (FL q [] 0 LA lc xs) (fun k => p ≤ k) wr ∧ Kept (fun k => p ≤ k) w3 wr) (fun _ i _ => l.length - (intOf i).toNat)
  case atStart => exact ⟨0, [], none, 0, rfl, rfl, Nat.zero_le _, rfl, HP.out, Kept.refl _ _⟩
  case round =>
    obtain ⟨k, xs, LA, lc, rfl, rfl, hk, hxs, hn, hkk⟩ := hrel
    have HXS := Lib.hid hxs
    have HPR := Lib.hid hn
    have HK := Lib.hid hkk
    have HA := Lib.hid (HA3.out.trans hkk fun j hj e => by have := HWP.out; omega)
    have HPW := Lib.hid (Nat.le_trans HPS.out hkk.size)
    have hxl : xs.length ≤ k := by rw [hxs]; exact Nat.le_trans (heardOf_len _) (by rw [List.length_take]; omega)
    clear hn hkk HP hxs
    by_cases hlt9 : k < l.length
    · as_aux_lemma =>
      have hi0 : (0 : Int) ≤ (k : Int) := by omega
      have hin : (k : Int) < (l.length : Int) := by omega
      obtain ⟨ad, rfl, x0, x1⟩ := HSC.out.steps.fresh HA.out k hlt9
      obtain ⟨y, hy⟩ : ∃ y, l[k] = y := ⟨_, rfl⟩
      have HOX := Lib.hid (show StfOk w y by rw [← hy]; exact HOK.out l[k] (List.getElem_mem hlt9))
      have HYES := Lib.hid (fun h => heardOf_yes (l := l) hlt9 h)
      have HNO := Lib.hid (fun h => heardOf_no (l := l) hlt9 h)
      rw [hy] at x0 x1 HYES HNO
      have HX0 := Lib.hid x0
      have HX1 := Lib.hid x1
      have HFW := Lib.hid (show ∀ Wz, Kept (fun k => p ≤ k) wr Wz → Kept (fun _ => False) w Wz from fun Wz hk => HA.out.trans hk fun j hj e => by have := HWP.out; omega)
      have HXW := Lib.hid (show w.rangeAt (ad.add (k * 4)).block (ad.add (k * 4)).off l[k].cs.toList by obtain ⟨ad', e', _, h1⟩ := HSC.out.steps k hlt9; injection e' with e'; subst e'; exact h1)
      rw [hy] at HXW
      have z0 : wr.cell? ⟨(ad.add (k * 4)).block, (ad.add (k * 4)).off + 0, none⟩ = some (.int .i64 y.kind) := x1 0 _ rfl
      rw [Nat.add_zero] at z0
      have z00 := HX0.out
      clear x0 x1 hy
      by_cases hkd : y.kind = 1
      · as_aux_lemma =>
        have e1 : (y.kind == 1) = true := beq_iff_eq.2 hkd
        have HST := Lib.hid (HYES.out hkd)
        clear HYES HNO hkd
        go_upto_region 12 with (fail)
        refine wp_region_held_drew (S := fun Wz => Kept (fun k => p ≤ k) wr Wz) (by kernel_rfl) (Kept.refl _ wr).drew fun hS => ?_
        have HPD := Lib.hid ((Pair.ob (Fob.ob _ _ _) (FL.ob ..)).fresh HPR.out (Kept.refl (fun _ => False) wr).drew)
        have HWD := Lib.hid (show p ≤ wr.drew.heap.size from HPW.out)
        clear z0 z00
        generalize wr.drew = W at hS HPD HWD ⊢
        refine held_takeTo 52 (i := 0) (v := .pointer (some ⟨p, 0, none⟩)) rfl rfl (by kernel_rfl) (by kernel_rfl) (by kernel_rfl) (fun _ _ _ h => h) rfl hS (fun Wz hW => by go_simp) ?_
        simp only [List.setIfInBounds_toArray, List.set_cons_zero, List.set_cons_succ]
        refine held_takeTo 53 (i := 1) (v := .slice (some ad) l.length c) rfl rfl (by kernel_rfl) (by kernel_rfl) (by kernel_rfl) (fun _ _ _ h => h) rfl hS (fun Wz hW => by go_simp) ?_
        simp only [List.setIfInBounds_toArray, List.set_cons_zero, List.set_cons_succ]
        refine held_takeTo 54 (i := 2) (v := .int .i64 (k : Int)) rfl rfl (by kernel_rfl) (by kernel_rfl) (by kernel_rfl) (fun _ _ _ h => h) rfl hS (fun Wz hW => by go_simp) ?_
        simp only [List.setIfInBounds_toArray, List.set_cons_zero, List.set_cons_succ]
        refine held_takeTo 55 (i := 3) (v := .pointer (some (ad.add (k * 4)))) rfl rfl (by kernel_rfl) (by kernel_rfl) (by kernel_rfl) (fun _ _ _ h => h) rfl hS (fun Wz hW => by go_simp) ?_
        simp only [List.setIfInBounds_toArray, List.set_cons_zero, List.set_cons_succ]
        refine held_takeTo 56 (i := 4) (v := .pointer (some ⟨(ad.add (k * 4)).block, (ad.add (k * 4)).off + 1, none⟩)) rfl rfl (by kernel_rfl) (by kernel_rfl) (by kernel_rfl) (fun _ _ _ h => h) rfl hS (fun Wz hW => by go_simp) ?_
        simp only [List.setIfInBounds_toArray, List.set_cons_zero, List.set_cons_succ]
        refine held_takeTo 57 (i := 5) (v := .int .i64 y.site) rfl rfl (by kernel_rfl) (by kernel_rfl) (by kernel_rfl) (fun _ _ _ h => h) rfl hS (fun Wz hW => by (have hc : Wz.cell? ⟨(ad.add (k * 4)).block, (ad.add (k * 4)).off + 1, none⟩ = some (.int .i64 y.site) := Kept.cellF (HFW.out Wz hW) (HXW.out 1 _ rfl); go_simp)) ?_
        simp only [List.setIfInBounds_toArray, List.set_cons_zero, List.set_cons_succ]
        refine held_takeTo 58 (i := 6) (v := .slice (some ad) l.length c) rfl rfl (by kernel_rfl) (by kernel_rfl) (by kernel_rfl) (fun _ _ _ h => h) rfl hS (fun Wz hW => by go_simp) ?_
        simp only [List.setIfInBounds_toArray, List.set_cons_zero, List.set_cons_succ]
        refine held_takeTo 59 (i := 7) (v := .int .i64 (k : Int)) rfl rfl (by kernel_rfl) (by kernel_rfl) (by kernel_rfl) (fun _ _ _ h => h) rfl hS (fun Wz hW => by go_simp) ?_
        simp only [List.setIfInBounds_toArray, List.set_cons_zero, List.set_cons_succ]
        refine held_takeTo 60 (i := 8) (v := .pointer (some (ad.add (k * 4)))) rfl rfl (by kernel_rfl) (by kernel_rfl) (by kernel_rfl) (fun _ _ _ h => h) rfl hS (fun Wz hW => by go_simp) ?_
        simp only [List.setIfInBounds_toArray, List.set_cons_zero, List.set_cons_succ]
        refine held_takeTo 61 (i := 9) (v := .pointer (some ⟨(ad.add (k * 4)).block, (ad.add (k * 4)).off + 2, none⟩)) rfl rfl (by kernel_rfl) (by kernel_rfl) (by kernel_rfl) (fun _ _ _ h => h) rfl hS (fun Wz hW => by go_simp) ?_
        simp only [List.setIfInBounds_toArray, List.set_cons_zero, List.set_cons_succ]
        refine held_takeTo 62 (i := 10) (v := .slice y.vA y.v.length y.vc) rfl rfl (by kernel_rfl) (by kernel_rfl) (by kernel_rfl) (fun _ _ _ h => h) rfl hS (fun Wz hW => by (have hc : Wz.cell? ⟨(ad.add (k * 4)).block, (ad.add (k * 4)).off + 2, none⟩ = some (.slice y.vA y.v.length y.vc) := Kept.cellF (HFW.out Wz hW) (HXW.out 2 _ rfl); go_simp)) ?_
        simp only [List.setIfInBounds_toArray, List.set_cons_zero, List.set_cons_succ]
        refine held_one (i := 11) (by kernel_rfl) rfl fun K hK => ?_
        obtain ⟨H, h1, h2, h3, h4⟩ := HPD.out.left (FL.ob ..) (Fob.ob _ _ _) (fun j e => Nat.le_trans HWD.out e)
        have hop := h1.hear (m := y.site) h2 (by omega) HOX.out.site y.vA y.v y.vc (fun W' hk => HOX.out.v.fresh (HFW.out W' (hS.trans (hk.more fun k _ e => h3 k e) fun _ _ e => e))) (by have := HOX.out.vl; omega)
        have HH4 := Lib.hid h4
        clear h1 h2 h3 h4
        go_wp2_with (fail)
        refine hop.mono ?_
        clear hop
        rintro r W1 ⟨rfl, hn, hkk⟩
        obtain ⟨hp, hkk⟩ := HH4.out _ _ (Fob.ob _ _ _) hn hkk
        have HP5 := Lib.hid hp
        have hS1 : Kept (fun k => p ≤ k) wr W1 := hS.trans hkk fun _ _ e => e
        clear hn hp hkk HH4 HPD HWD HPR hS
        go_wp2_with (fail)
        refine hK.out _ _ hS1 fun _ => ?_
        clear hK K
        refine wpAnyH_done (by kernel_rfl) ?_ _
        rw [← hears_snoc] at HP5
        have HX01 := Lib.hid (show W1.cell? (ad.add (k * 4)) = some (.int .i64 y.kind) by
          have h1 := Kept.cellF (HFW.out W1 hS1) (HXW.out 0 _ rfl)
          rw [Nat.add_zero] at h1
          exact (cell_spot HX0.out) ▸ h1)
        have HX11 := Lib.hid (show W1.rangeAt (ad.add (k * 4)).block (ad.add (k * 4)).off y.cs.toList from fun j v hj => Kept.cellF (HFW.out W1 hS1) (HXW.out j v hj))
        have HK5 := Lib.hid (HK.out.trans hS1 fun _ _ e => e)
        have HWD1 := Lib.hid (Nat.le_trans HPW.out hS1.size)
        have HBL := Lib.hid (HP5.out.snd (FL.ob ..))
        clear hS1
        go_wp2_with (first | refine load_stf rfl _ rfl _ rfl y HX01.out HX11.out ?_ | refine wpList_one_stf rfl _ rfl y rfl ?_ | (at_builtin; refine Hid.out ?_))
        refine Lib.hid ?_
        refine wpList_append_new eltStfs rfl _ _ rfl 0 _ xs.length (stfs xs) rfl HBL.out.row 1 1 rfl rfl y.cs_one' (by omega) (Nat.zero_le _) ?_
        intro LA2 lc2 W2 HO2 HK2 HG2
        have hrow : W2.ownsRow 0 34 4 (.slice LA2 (xs ++ [y]).length lc2) (xs ++ [y]).length (stfs (xs ++ [y])) := by
          rw [stfs_app, List.length_append]
          exact HO2.out
        obtain ⟨H, h1, h2, h3, h4⟩ := HP5.out.right (Fob.ob _ _ _) (FL.ob ..) (fun j e => Nat.le_trans HWD1.out e)
        obtain ⟨H2, g1, g2, g3, g4⟩ := Pair.right (Fob.ob _ _ _) h1 (Lob.ob ..) h2
        obtain ⟨hq, hkq⟩ := g4 (Lob LA2 lc2 (xs ++ [y])) W2 (Lob.ob ..) ⟨hrow, fun k e => (HG2.out k (by rw [List.length_append] at e; exact e)).elim (g1.2 k) (g2 k)⟩ (HK2.out.more fun k _ e => g1.2 k e)
        obtain ⟨hr, hkr⟩ := h4 (FL q [] 0 LA2 lc2 (xs ++ [y])) W2 (FL.ob ..) hq hkq
        have HPF := Lib.hid hr
        have HKF := Lib.hid (HK5.out.trans hkr fun _ _ e => e)
        have hxl2 : (xs ++ [y]).length = xs.length + 1 := by rw [List.length_append]; rfl
        clear hrow h1 h2 h3 h4 g1 g2 g3 g4 hq hkq hr hkr HO2 HK2 HG2 HBL HP5 HK5 HX01 HX11
        go_wp2_with (fail)
        go_roundw
        case rel => exact ⟨k + 1, xs ++ [y], LA2, lc2, by rw [hxl2], by go_num, by omega, by rw [HST.out, HXS.out], HPF.out, HKF.out⟩
        case measure => simp [intOf]; omega
      · as_aux_lemma =>
        have e1 : (y.kind == 1) = false := beq_eq_false_iff_ne.mpr hkd
        have HST := Lib.hid (HNO.out hkd)
        clear HYES HNO hkd
        go_wp2_with (fail)
        go_roundw
        case rel => exact ⟨k + 1, xs, LA, lc, rfl, by go_num, by omega, by rw [HST.out, HXS.out], HPR.out.fst_mono (Fob.widen (by omega)), HK.out⟩
        case measure => simp [intOf]; omega
    obtain rfl : k = l.length := by omega
    rw [List.take_length] at HXS
    have HOKX := Lib.hid (show ∀ y ∈ xs, StfOk w y from fun y hy => HOK.out y (heardOf_mem (by rw [← HXS.out]; exact hy)))
    obtain ⟨w4, rfl⟩ : ∃ w4 : World, w4 = wr := ⟨_, rfl⟩
    obtain ⟨L, hL⟩ : ∃ L, l.length = L := ⟨_, rfl⟩
    rw [hL] at HPR hxl
    have hL2 : L ≤ 200 := by omega
    clear hk hlt9
    obtain ⟨sa, hsa⟩ : ∃ sa, hears [] xs = sa := ⟨_, rfl⟩
    rw [hsa] at HPR
    have HSA := Lib.hid hsa
    clear hsa HSC HOK HXS hll HK HA3 HPS hL
    have hxp : xs.length ≤ 200 := by omega
    have htp : ts.length ≤ 200 := by omega
    clear hxl hlt hlt'
    go_wp2_with (fail)
    go_loopw [11, 12] (fun i v12 wr => ∃ (k : Nat) (ys : List Stf), i = .int .i64 k ∧ k ≤ ts.length ∧ (∀ y ∈ ys, y ∈ xs) ∧ Pair (Fob p sa L) (FL q (hears [] ys) k LA lc xs) (fun k => p ≤ k) wr ∧ Kept (fun k => p ≤ k) w4 wr) (fun i _ _ => ts.length - (intOf i).toNat)
    case atStart => exact ⟨0, [], rfl, Nat.zero_le _, fun y e => by simp at e, HPR.out, Kept.refl _ _⟩
    case round =>
      obtain ⟨k, ys, rfl, hk, hys, hn, hkk⟩ := hrel
      have HYS := Lib.hid hys
      have HPB := Lib.hid hn
      have HK := Lib.hid hkk
      have HA2 := Lib.hid (HA.out.trans hkk fun j hj e => by have := HWP.out; omega)
      have HPW2 := Lib.hid (Nat.le_trans HPW.out hkk.size)
      clear HA HPW
      obtain ⟨HA, HPW⟩ : Hid (Kept (fun _ => False) w wr) ∧ Hid (p ≤ wr.heap.size) := ⟨HA2, HPW2⟩
      clear hn hkk hys HPR HA2 HPW2
      obtain ⟨bb, hbb⟩ : ∃ bb : Bool, (decide (k < ts.length) && decide (0 < xs.length)) = bb := ⟨_, rfl⟩
      have HBB := Lib.hid hbb
      clear hbb
      have hk0 : (0 : Int) ≤ (k : Int) := by omega
      go_upto_region 15 with (fail)
      go_cut [79] (fun v wx => v = .bool bb ∧ wr = wx)
      case first =>
        as_aux_lemma =>
        by_cases h1 : k < ts.length
        · have i1 : decide ((k : Int) < (ts.length : Int)) = true := decide_eq_true (by omega)
          by_cases h2 : 0 < xs.length
          · obtain rfl : true = bb := by rw [← HBB.out, decide_eq_true h1, decide_eq_true h2]; rfl
            have i2 : decide ((0 : Int) < (xs.length : Int)) = true := decide_eq_true (by omega)
            go_wp2_with (fail)
            go_meet
            case rel => exact ⟨rfl, rfl⟩
          · obtain rfl : false = bb := by rw [← HBB.out, decide_eq_false h2, Bool.and_false]
            have i2 : decide ((0 : Int) < (xs.length : Int)) = false := decide_eq_false (by omega)
            go_wp2_with (fail)
            go_meet
            case rel => exact ⟨rfl, rfl⟩
        · obtain rfl : false = bb := by rw [← HBB.out, decide_eq_false h1]; rfl
          have i1 : decide ((k : Int) < (ts.length : Int)) = false := decide_eq_false (by omega)
          go_wp2_with (fail)
          go_meet
          case rel => exact ⟨rfl, rfl⟩
      case rest =>
      obtain ⟨rfl, rfl⟩ := hcut
      cases bb with
      | true =>
        as_aux_lemma =>
        obtain ⟨h1, h2⟩ : k < ts.length ∧ 0 < xs.length := by have := HBB.out; simpa using this
        have i1 : (k : Int) < (ts.length : Int) := by omega
        obtain ⟨at_, hAt, t0⟩ := HTS.out.fresh HA.out k h1
        subst hAt
        obtain ⟨u, hu⟩ : ∃ u, ts[k] = u := ⟨_, rfl⟩
        have huw := HWF.out _ (List.getElem_mem h1)
        rw [hu] at t0 huw
        have hl1 : ¬ (xs.length : Int) = 0 := by omega
        have hr1 := Int.tmod_lt_of_pos u (show (0 : Int) < (xs.length : Int) by omega)
        have hr2 := Int.lt_tmod_of_pos u (show (0 : Int) < (xs.length : Int) by omega)
        obtain ⟨rm, hrm⟩ : ∃ rm, u.tmod (xs.length : Int) = rm := ⟨_, rfl⟩
        rw [hrm] at hr1 hr2
        clear hu
        go_upto_if 90 with (fail)
        clear hrm t0
        go_cut [12] (fun v wx => (∃ j : Nat, v = .int .i64 j ∧ j < xs.length) ∧ wr = wx)
        case first =>
          as_aux_lemma =>
          by_cases hneg : rm < 0
          · obtain ⟨j, hj⟩ : ∃ j : Nat, rm + (xs.length : Int) = j := ⟨(rm + xs.length).toNat, by omega⟩
            have hw : IntKind.i64.wrap (rm + (xs.length : Int)) = (j : Int) := by rw [hj]; exact IntWalk.i64_in _ ⟨by omega, by omega⟩
            go_wp2_with (fail)
            go_meet
            case rel => exact ⟨⟨j, rfl, by omega⟩, rfl⟩
          · obtain ⟨j, rfl⟩ : ∃ j : Nat, rm = j := ⟨rm.toNat, by omega⟩
            go_wp2_with (fail)
            go_meet
            case rel => exact ⟨⟨j, rfl, by omega⟩, rfl⟩
        case rest =>
        obtain ⟨⟨j, rfl, hj⟩, rfl⟩ := hcut
        have hj0 : (0 : Int) ≤ (j : Int) := by omega
        have hjn : (j : Int) < (xs.length : Int) := by omega
        clear hr1 hr2 huw
        obtain ⟨ad, rfl⟩ : ∃ ad, LA = some ad := by
          obtain ⟨g, hA, -⟩ := stf_cells (HPB.out.snd (FL.ob ..)).row hj
          exact ⟨_, hA⟩
        obtain ⟨y, hy⟩ : ∃ y, xs[j] = y := ⟨_, rfl⟩
        have HY := Lib.hid hy
        have hx := stf_at (HPB.out.snd (FL.ob ..)).row hj
        rw [hy] at hx
        have HX0 := Lib.hid hx.1
        have HX1 := Lib.hid hx.2
        have HOX := Lib.hid (show StfOk w y by rw [← hy]; exact HOKX.out _ (List.getElem_mem hj))
        have HMY := Lib.hid (show y ∈ xs by rw [← hy]; exact List.getElem_mem hj)
        have HFW := Lib.hid (show ∀ Wz, Kept (fun k => p ≤ k) wr Wz → Kept (fun _ => False) w Wz from fun Wz hk => HA.out.trans hk fun j hj e => by have := HWP.out; omega)
        have z0 := HX0.out
        have z1 := HX1.out
        clear hx hy
        go_upto_region 20 with (fail)
        refine wp_region_held_drew (S := fun Wz => Wz.cell? ⟨(ad.add (j * 4)).block, (ad.add (j * 4)).off + 1, none⟩ = some (.int .i64 y.site) ∧ Wz.cell? ⟨(ad.add (j * 4)).block, (ad.add (j * 4)).off + 2, none⟩ = some (.slice y.vA y.v.length y.vc)) (by kernel_rfl) ⟨HX0.out, HX1.out⟩ fun hS => ?_
        have HPD := Lib.hid ((Pair.ob (Fob.ob _ _ _) (FL.ob ..)).fresh HPB.out (Kept.refl (fun _ => False) wr).drew)
        have HWD := Lib.hid (show p ≤ wr.drew.heap.size from HPW.out)
        have HKD := Lib.hid (Kept.refl (fun k => p ≤ k) wr).drew
        clear HPB HX0 HX1
        generalize wr.drew = W at hS HPD HWD HKD ⊢
        refine held_takeTo 95 (i := 0) (v := .pointer (some ⟨q, 0, none⟩)) rfl rfl (by kernel_rfl) (by kernel_rfl) (by kernel_rfl) (fun _ _ _ h => h) rfl hS (fun Wz hW => by go_simp) ?_
        simp only [List.setIfInBounds_toArray, List.set_cons_zero, List.set_cons_succ]
        refine held_takeTo 96 (i := 1) (v := .slice (some ad) xs.length lc) rfl rfl (by kernel_rfl) (by kernel_rfl) (by kernel_rfl) (fun _ _ _ h => h) rfl hS (fun Wz hW => by go_simp) ?_
        simp only [List.setIfInBounds_toArray, List.set_cons_zero, List.set_cons_succ]
        refine held_takeTo 97 (i := 2) (v := .int .i64 (j : Int)) rfl rfl (by kernel_rfl) (by kernel_rfl) (by kernel_rfl) (fun _ _ _ h => h) rfl hS (fun Wz hW => by go_simp) ?_
        simp only [List.setIfInBounds_toArray, List.set_cons_zero, List.set_cons_succ]
        refine held_takeTo 98 (i := 3) (v := .pointer (some (ad.add (j * 4)))) rfl rfl (by kernel_rfl) (by kernel_rfl) (by kernel_rfl) (fun _ _ _ h => h) rfl hS (fun Wz hW => by go_simp) ?_
        simp only [List.setIfInBounds_toArray, List.set_cons_zero, List.set_cons_succ]
        refine held_takeTo 99 (i := 4) (v := .pointer (some ⟨(ad.add (j * 4)).block, (ad.add (j * 4)).off + 1, none⟩)) rfl rfl (by kernel_rfl) (by kernel_rfl) (by kernel_rfl) (fun _ _ _ h => h) rfl hS (fun Wz hW => by go_simp) ?_
        simp only [List.setIfInBounds_toArray, List.set_cons_zero, List.set_cons_succ]
        refine held_takeTo 100 (i := 5) (v := .int .i64 y.site) rfl rfl (by kernel_rfl) (by kernel_rfl) (by kernel_rfl) (fun _ _ _ h => h) rfl hS (fun Wz hW => by (have hc : Wz.cell? ⟨(ad.add (j * 4)).block, (ad.add (j * 4)).off + 1, none⟩ = some (.int .i64 y.site) := hW.1; go_simp)) ?_
        simp only [List.setIfInBounds_toArray, List.set_cons_zero, List.set_cons_succ]
        refine held_takeTo 101 (i := 6) (v := .slice (some ad) xs.length lc) rfl rfl (by kernel_rfl) (by kernel_rfl) (by kernel_rfl) (fun _ _ _ h => h) rfl hS (fun Wz hW => by go_simp) ?_
        simp only [List.setIfInBounds_toArray, List.set_cons_zero, List.set_cons_succ]
        refine held_takeTo 102 (i := 7) (v := .int .i64 (j : Int)) rfl rfl (by kernel_rfl) (by kernel_rfl) (by kernel_rfl) (fun _ _ _ h => h) rfl hS (fun Wz hW => by go_simp) ?_
        simp only [List.setIfInBounds_toArray, List.set_cons_zero, List.set_cons_succ]
        refine held_takeTo 103 (i := 8) (v := .pointer (some (ad.add (j * 4)))) rfl rfl (by kernel_rfl) (by kernel_rfl) (by kernel_rfl) (fun _ _ _ h => h) rfl hS (fun Wz hW => by go_simp) ?_
        simp only [List.setIfInBounds_toArray, List.set_cons_zero, List.set_cons_succ]
        refine held_takeTo 104 (i := 9) (v := .pointer (some ⟨(ad.add (j * 4)).block, (ad.add (j * 4)).off + 2, none⟩)) rfl rfl (by kernel_rfl) (by kernel_rfl) (by kernel_rfl) (fun _ _ _ h => h) rfl hS (fun Wz hW => by go_simp) ?_
        simp only [List.setIfInBounds_toArray, List.set_cons_zero, List.set_cons_succ]
        refine held_takeTo 105 (i := 10) (v := .slice y.vA y.v.length y.vc) rfl rfl (by kernel_rfl) (by kernel_rfl) (by kernel_rfl) (fun _ _ _ h => h) rfl hS (fun Wz hW => by (have hc : Wz.cell? ⟨(ad.add (j * 4)).block, (ad.add (j * 4)).off + 2, none⟩ = some (.slice y.vA y.v.length y.vc) := hW.2; go_simp)) ?_
        simp only [List.setIfInBounds_toArray, List.set_cons_zero, List.set_cons_succ]
        refine held_one (i := 11) (by kernel_rfl) rfl fun K hK => ?_
        have hop := FL.hear HPD.out (m := y.site) (fun j e => Nat.le_trans HWD.out e) (by omega) HOX.out.site y.vA y.v y.vc (fun W' hk => HOX.out.v.fresh (HFW.out W' (HKD.out.trans hk fun _ _ e => e))) (by have := HOX.out.vl; omega)
        go_wp2_with (fail)
        refine hop.mono ?_
        clear hop
        rintro r W1 ⟨rfl, hn, hkk⟩
        have HP5 := Lib.hid hn
        have HK5 := Lib.hid (HKD.out.trans hkk fun _ _ e => e)
        have hS1 : W1.cell? ⟨(ad.add (j * 4)).block, (ad.add (j * 4)).off + 1, none⟩ = some (.int .i64 y.site) ∧ W1.cell? ⟨(ad.add (j * 4)).block, (ad.add (j * 4)).off + 2, none⟩ = some (.slice y.vA y.v.length y.vc) := by
          have h := stf_at (HP5.out.snd (FL.ob ..)).row hj
          rw [HY.out] at h
          exact h
        clear hn hkk HPD HWD HKD hS
        go_wp2_with (fail)
        refine hK.out _ _ hS1 fun _ => ?_
        clear hK K
        refine wpAnyH_done (by kernel_rfl) ?_ _
        clear hS1
        rw [← hears_snoc] at HP5
        go_wp2_with (fail)
        go_roundw
        case rel => exact ⟨k + 1, ys ++ [y], by go_num, by omega, fun z hz => (List.mem_append.1 hz).elim (HYS.out z) fun e => by rw [List.mem_singleton.1 e]; exact HMY.out, HP5.out, HK.out.trans HK5.out fun _ _ e => e⟩
        case measure => simp [intOf]; omega
      | false =>
        clear HBB
        obtain ⟨w5, rfl⟩ : ∃ w5 : World, w5 = wr := ⟨_, rfl⟩
        obtain ⟨M, hM⟩ : ∃ M : Nat, M = k := ⟨_, rfl⟩
        rw [← hM] at HPB
        have hM2 : M ≤ 200 := by omega
        clear hM hk hk0 HK HTS HWF htp
        have hlw : IntKind.i64.wrap ((xs.length : Int) - 1) = (xs.length : Int) - 1 := IntWalk.i64_in _ ⟨by omega, by omega⟩
        obtain ⟨z0, hz0⟩ : ∃ z0 : Int, (xs.length : Int) - 1 = z0 := ⟨_, rfl⟩
        have HZ0 := Lib.hid hz0
        rw [hz0] at hlw
        clear hz0
        go_wp2_with (fail)
        go_loopw [13] (fun i wr => ∃ (z : Int) (m : Nat) (ys' : List Stf), i = .int .i64 z ∧ z = (m : Int) - 1 ∧ m ≤ xs.length ∧ (∀ y ∈ ys', y ∈ xs) ∧ (∀ y ∈ xs.drop m, y ∈ ys') ∧ Pair (Fob p sa L) (FL q (hears [] ys') (M + (xs.length - m)) LA lc xs) (fun k => p ≤ k) wr ∧ Kept (fun k => p ≤ k) w5 wr) (fun i _ => (intOf i + 1).toNat)
        case atStart => exact ⟨z0, xs.length, ys, by rw [HZ0.out], HZ0.out.symm, Nat.le_refl _, HYS.out, fun y e => by simp at e, by rw [Nat.sub_self]; exact HPB.out, Kept.refl _ _⟩
        case round =>
          obtain ⟨z, m, ys', rfl, hz, hm', hys, hys', hn, hkk⟩ := hrel
          have HA3 := Lib.hid (HA.out.trans hkk fun j hj e => by have := HWP.out; omega)
          have HPW3 := Lib.hid (Nat.le_trans HPW.out hkk.size)
          clear HYS HA HPB HPW hlw HZ0
          obtain ⟨HA, HPW⟩ : Hid (Kept (fun _ => False) w wr) ∧ Hid (p ≤ wr.heap.size) := ⟨HA3, HPW3⟩
          have HYS := Lib.hid hys
          have HYD := Lib.hid hys'
          have HPB := Lib.hid hn
          have HK := Lib.hid hkk
          clear hn hkk hys hys' HA3 HPW3
          by_cases hz1 : 0 ≤ z
          · as_aux_lemma =>
            obtain ⟨j, rfl⟩ : ∃ j : Nat, z = j := ⟨z.toNat, by omega⟩
            obtain rfl : m = j + 1 := by omega
            have hj : j < xs.length := hm'
            have hjn : (j : Int) < (xs.length : Int) := by omega
            have hnb : M + (xs.length - (j + 1)) + 1 = M + (xs.length - j) := by omega
            have HNB := Lib.hid hnb
            clear hz hnb
            obtain ⟨ad, rfl⟩ : ∃ ad, LA = some ad := by
              obtain ⟨g, hA, -⟩ := stf_cells (HPB.out.snd (FL.ob ..)).row hj
              exact ⟨_, hA⟩
            obtain ⟨y, hy⟩ : ∃ y, xs[j] = y := ⟨_, rfl⟩
            have HY := Lib.hid hy
            have hx := stf_at (HPB.out.snd (FL.ob ..)).row hj
            rw [hy] at hx
            have HX0 := Lib.hid hx.1
            have HX1 := Lib.hid hx.2
            have HOX := Lib.hid (show StfOk w y by rw [← hy]; exact HOKX.out _ (List.getElem_mem hj))
            have HMY := Lib.hid (show y ∈ xs by rw [← hy]; exact List.getElem_mem hj)
            have HFW := Lib.hid (show ∀ Wz, Kept (fun k => p ≤ k) wr Wz → Kept (fun _ => False) w Wz from fun Wz hk => HA.out.trans hk fun j hj e => by have := HWP.out; omega)
            have z0 := HX0.out
            have z1 := HX1.out
            clear hx hy
            go_upto_region 24 with (fail)
            refine wp_region_held_drew (S := fun Wz => Wz.cell? ⟨(ad.add (j * 4)).block, (ad.add (j * 4)).off + 1, none⟩ = some (.int .i64 y.site) ∧ Wz.cell? ⟨(ad.add (j * 4)).block, (ad.add (j * 4)).off + 2, none⟩ = some (.slice y.vA y.v.length y.vc)) (by kernel_rfl) ⟨HX0.out, HX1.out⟩ fun hS => ?_
            have HPD := Lib.hid ((Pair.ob (Fob.ob _ _ _) (FL.ob ..)).fresh HPB.out (Kept.refl (fun _ => False) wr).drew)
            have HWD := Lib.hid (show p ≤ wr.drew.heap.size from HPW.out)
            have HKD := Lib.hid (Kept.refl (fun k => p ≤ k) wr).drew
            clear HPB HX0 HX1
            generalize wr.drew = W at hS HPD HWD HKD ⊢
            refine held_takeTo 114 (i := 0) (v := .pointer (some ⟨q, 0, none⟩)) rfl rfl (by kernel_rfl) (by kernel_rfl) (by kernel_rfl) (fun _ _ _ h => h) rfl hS (fun Wz hW => by go_simp) ?_
            simp only [List.setIfInBounds_toArray, List.set_cons_zero, List.set_cons_succ]
            refine held_takeTo 115 (i := 1) (v := .slice (some ad) xs.length lc) rfl rfl (by kernel_rfl) (by kernel_rfl) (by kernel_rfl) (fun _ _ _ h => h) rfl hS (fun Wz hW => by go_simp) ?_
            simp only [List.setIfInBounds_toArray, List.set_cons_zero, List.set_cons_succ]
            refine held_takeTo 116 (i := 2) (v := .int .i64 (j : Int)) rfl rfl (by kernel_rfl) (by kernel_rfl) (by kernel_rfl) (fun _ _ _ h => h) rfl hS (fun Wz hW => by go_simp) ?_
            simp only [List.setIfInBounds_toArray, List.set_cons_zero, List.set_cons_succ]
            refine held_takeTo 117 (i := 3) (v := .pointer (some (ad.add (j * 4)))) rfl rfl (by kernel_rfl) (by kernel_rfl) (by kernel_rfl) (fun _ _ _ h => h) rfl hS (fun Wz hW => by go_simp) ?_
            simp only [List.setIfInBounds_toArray, List.set_cons_zero, List.set_cons_succ]
            refine held_takeTo 118 (i := 4) (v := .pointer (some ⟨(ad.add (j * 4)).block, (ad.add (j * 4)).off + 1, none⟩)) rfl rfl (by kernel_rfl) (by kernel_rfl) (by kernel_rfl) (fun _ _ _ h => h) rfl hS (fun Wz hW => by go_simp) ?_
            simp only [List.setIfInBounds_toArray, List.set_cons_zero, List.set_cons_succ]
            refine held_takeTo 119 (i := 5) (v := .int .i64 y.site) rfl rfl (by kernel_rfl) (by kernel_rfl) (by kernel_rfl) (fun _ _ _ h => h) rfl hS (fun Wz hW => by (have hc : Wz.cell? ⟨(ad.add (j * 4)).block, (ad.add (j * 4)).off + 1, none⟩ = some (.int .i64 y.site) := hW.1; go_simp)) ?_
            simp only [List.setIfInBounds_toArray, List.set_cons_zero, List.set_cons_succ]
            refine held_takeTo 120 (i := 6) (v := .slice (some ad) xs.length lc) rfl rfl (by kernel_rfl) (by kernel_rfl) (by kernel_rfl) (fun _ _ _ h => h) rfl hS (fun Wz hW => by go_simp) ?_
            simp only [List.setIfInBounds_toArray, List.set_cons_zero, List.set_cons_succ]
            refine held_takeTo 121 (i := 7) (v := .int .i64 (j : Int)) rfl rfl (by kernel_rfl) (by kernel_rfl) (by kernel_rfl) (fun _ _ _ h => h) rfl hS (fun Wz hW => by go_simp) ?_
            simp only [List.setIfInBounds_toArray, List.set_cons_zero, List.set_cons_succ]
            refine held_takeTo 122 (i := 8) (v := .pointer (some (ad.add (j * 4)))) rfl rfl (by kernel_rfl) (by kernel_rfl) (by kernel_rfl) (fun _ _ _ h => h) rfl hS (fun Wz hW => by go_simp) ?_
            simp only [List.setIfInBounds_toArray, List.set_cons_zero, List.set_cons_succ]
            refine held_takeTo 123 (i := 9) (v := .pointer (some ⟨(ad.add (j * 4)).block, (ad.add (j * 4)).off + 2, none⟩)) rfl rfl (by kernel_rfl) (by kernel_rfl) (by kernel_rfl) (fun _ _ _ h => h) rfl hS (fun Wz hW => by go_simp) ?_
            simp only [List.setIfInBounds_toArray, List.set_cons_zero, List.set_cons_succ]
            refine held_takeTo 124 (i := 10) (v := .slice y.vA y.v.length y.vc) rfl rfl (by kernel_rfl) (by kernel_rfl) (by kernel_rfl) (fun _ _ _ h => h) rfl hS (fun Wz hW => by (have hc : Wz.cell? ⟨(ad.add (j * 4)).block, (ad.add (j * 4)).off + 2, none⟩ = some (.slice y.vA y.v.length y.vc) := hW.2; go_simp)) ?_
            simp only [List.setIfInBounds_toArray, List.set_cons_zero, List.set_cons_succ]
            refine held_one (i := 11) (by kernel_rfl) rfl fun K hK => ?_
            have hop := FL.hear HPD.out (m := y.site) (fun j e => Nat.le_trans HWD.out e) (by omega) HOX.out.site y.vA y.v y.vc (fun W' hk => HOX.out.v.fresh (HFW.out W' (HKD.out.trans hk fun _ _ e => e))) (by have := HOX.out.vl; omega)
            go_wp2_with (fail)
            refine hop.mono ?_
            clear hop
            rintro r W1 ⟨rfl, hn, hkk⟩
            have HP5 := Lib.hid hn
            have HK5 := Lib.hid (HKD.out.trans hkk fun _ _ e => e)
            have hS1 : W1.cell? ⟨(ad.add (j * 4)).block, (ad.add (j * 4)).off + 1, none⟩ = some (.int .i64 y.site) ∧ W1.cell? ⟨(ad.add (j * 4)).block, (ad.add (j * 4)).off + 2, none⟩ = some (.slice y.vA y.v.length y.vc) := by
              have h := stf_at (HP5.out.snd (FL.ob ..)).row hj
              rw [HY.out] at h
              exact h
            clear hn hkk HPD HWD HKD hS
            go_wp2_with (fail)
            refine hK.out _ _ hS1 fun _ => ?_
            clear hK K
            refine wpAnyH_done (by kernel_rfl) ?_ _
            clear hS1
            rw [← hears_snoc, HNB.out] at HP5
            go_wp2_with (fail)
            go_roundw
            case rel =>
              refine ⟨(j : Int) - 1, j, ys' ++ [y], by go_num, rfl, by omega, fun z hz => (List.mem_append.1 hz).elim (HYS.out z) fun e => by rw [List.mem_singleton.1 e]; exact HMY.out, fun z hz => ?_, HP5.out, HK.out.trans HK5.out fun _ _ e => e⟩
              rw [List.drop_eq_getElem_cons hj, HY.out] at hz
              rcases List.mem_cons.1 hz with e | e
              · exact List.mem_append.2 (.inr (by rw [e]; simp))
              · exact List.mem_append.2 (.inl (HYD.out z e))
            case measure => simp [intOf]
          obtain rfl : m = 0 := by omega
          obtain ⟨w6, rfl⟩ : ∃ w6 : World, w6 = wr := ⟨_, rfl⟩
          have HTE := Lib.hid (fun m => order_tells (xs := xs) (ys := ys') (fun y hy => HYD.out y (by rw [List.drop_zero]; exact hy)) HYS.out own m)
          rw [HSA.out] at HTE
          have HPC := Lib.hid (show Pair (Fob p sa L) (Pair (Fob q (hears [] ys') (M + (xs.length - 0))) (Lob LA lc xs)) (fun k => p ≤ k) w6 from HPB.out)
          obtain ⟨sb, hsb⟩ : ∃ sb, hears [] ys' = sb := ⟨_, rfl⟩
          obtain ⟨Q, hQ⟩ : ∃ Q, M + (xs.length - 0) = Q := ⟨_, rfl⟩
          have hQ2 : Q ≤ 400 := by omega
          rw [hsb, hQ] at HPC
          rw [hsb] at HTE
          clear hsb hQ hz HYS HYD HPB HK HSA HOKX hm'
          go_wp2_with (fail)
          clear hz1
          refine (Pair.settleL (Pair.ob (Fob.ob _ _ _) (Lob.ob ..)) HPC.out (fun k e => Nat.le_trans HPW.out e) (by omega) C own e (fun W' hk => HOW.out.fresh (HA.out.trans hk fun j hj e => by have := HWP.out; omega)) (by omega)).mono ?_
          rintro r v1 ⟨⟨u1, rfl⟩, hn, hkk⟩
          have HPC1 := Lib.hid hn
          have HA1 := Lib.hid (HA.out.trans hkk fun j hj e => by have := HWP.out; omega)
          have HPW1 := Lib.hid (Nat.le_trans HPW.out hkk.size)
          clear hn hkk HA HPW HPC
          go_wp2_with (fail)
          have HSB := Lib.hid (show Calls Try.prog 15 #[.pointer (some ⟨q, 0, none⟩), .slice C own.length e] v1 fun r W' => (∃ u, r = .returned u) ∧ (Fob p (settle sa own) (L + 17) (fun k => p ≤ k) W' ∧ Fob q (settle sb own) (Q + 17) (fun k => p ≤ k) W') ∧ Kept (fun k => p ≤ k) v1 W' by
            obtain ⟨H, h1, h2, h3, h4⟩ := HPC1.out.right (Fob.ob _ _ _) (Pair.ob (Fob.ob _ _ _) (Lob.ob ..)) (fun k e => Nat.le_trans HPW1.out e)
            refine (Pair.settleL (Lob.ob ..) h1 h2 (by omega) C own e (fun W' hk => HOW.out.fresh (HA1.out.trans hk fun j hj e => by have := HWP.out; have := h3 j e; omega)) (by omega)).mono ?_
            rintro r W' ⟨h5, h6, h7⟩
            obtain ⟨h8, h9⟩ := h4 _ _ (Pair.ob (Fob.ob _ _ _) (Lob.ob ..)) h6 h7
            exact ⟨h5, ⟨h8.fst (Fob.ob _ _ _), (h8.snd (Pair.ob (Fob.ob _ _ _) (Lob.ob ..))).fst (Fob.ob _ _ _)⟩, h9⟩)
          refine HSB.out.mono ?_
          rintro r v2 ⟨⟨u2, rfl⟩, ⟨hn1, hn2⟩, hkk⟩
          have HF := Lib.hid hn1
          have HR := Lib.hid hn2
          have HA2 := Lib.hid (HA1.out.trans hkk fun j hj e => by have := HWP.out; omega)
          clear hn1 hn2 hkk HA1 HPW1 HPC1 HSB
          obtain ⟨s1, hs1⟩ : ∃ s1, settle sa own = s1 := ⟨_, rfl⟩
          obtain ⟨s2, hs2⟩ : ∃ s2, settle sb own = s2 := ⟨_, rfl⟩
          rw [hs1] at HF HTE
          rw [hs2] at HR HTE
          clear hs1 hs2 HOW HWP
          go_wp2_with (fail)
          go_loopw [14, 15, 16, 17, 18] (fun n a1 a2 a3 a4 wr => ∃ m : Int, n = .int .i64 m ∧ 1 ≤ m ∧ m ≤ 17 ∧ Kept (fun _ => False) v2 wr) (fun n _ _ _ _ _ => (17 - intOf n).toNat)
          case atStart => exact ⟨1, rfl, by omega, by omega, Kept.refl _ _⟩
          case round =>
            obtain ⟨m, rfl, hm1, hm2, hkk⟩ := hrel
            have HK := Lib.hid hkk
            have HF1 := Lib.hid ((Fob.ob _ _ _).fresh HF.out hkk)
            have HR1 := Lib.hid ((Fob.ob _ _ _).fresh HR.out hkk)
            clear hkk
            by_cases hlt : m ≤ 16
            · as_aux_lemma =>
              have hwf : (Lit.int .i64 m).wf = true := by
                simp only [Lit.wf, Bool.and_eq_true, decide_eq_true_eq]
                exact ⟨by show (-9223372036854775808 : Int) ≤ m; omega, by show m ≤ 9223372036854775807; omega⟩
              have HWF := Lib.hid hwf
              have HL1 := Lib.hid (rowF_len HF1.out.ok m)
              have HL2 := Lib.hid (usableF_len HF1.out.ok m)
              obtain ⟨t1, t2, t3⟩ := HTE.out m
              obtain ⟨l, hl⟩ : ∃ l, rowF s1 m = l := ⟨_, rfl⟩
              obtain ⟨u, hu⟩ : ∃ u, usableF s1 m = u := ⟨_, rfl⟩
              obtain ⟨b, hb⟩ : ∃ b, heardF s1 m = b := ⟨_, rfl⟩
              have HLE := Lib.hid hl
              have HUE := Lib.hid hu
              have HBE := Lib.hid hb
              have HLE2 := Lib.hid (t1.symm.trans hl)
              have HUE2 := Lib.hid (t3.symm.trans hu)
              have HBE2 := Lib.hid (t2.symm.trans hb)
              rw [hl] at HL1
              rw [hu] at HL2
              clear hl hu hb hwf t1 t2 t3
              have hro := HF1.out.row_ HWF.out
              rw [HLE.out, HBE.out] at hro
              have HRO := Lib.hid hro
              clear hro
              go_wp2_with (fail)
              refine HRO.out.mono ?_
              rintro r w1 ⟨A1, c1, rfl, ho, hk⟩
              have HO1 := Lib.hid ho
              have HR2 := Lib.hid ((Fob.ob _ _ _).fresh HR1.out hk)
              have HF2 := Lib.hid ((Fob.ob _ _ _).fresh HF1.out hk)
              have HK1 := Lib.hid (HK.out.trans hk fun _ _ e => e)
              have hro := HR2.out.row_ HWF.out
              rw [HLE2.out, HBE2.out] at hro
              have HRP := Lib.hid hro
              clear hro ho hk HRO HF1 HR1
              go_wp2_with (fail)
              refine HRP.out.mono ?_
              rintro r w2 ⟨A2, c2, rfl, ho, hk⟩
              have HO2 := Lib.hid (DotsAt.of_own ho)
              have HO12 := Lib.hid (DotsAt.of_own (hk.own HO1.out fun _ _ => id))
              have HR3 := Lib.hid ((Fob.ob _ _ _).fresh HR2.out hk)
              have HF3 := Lib.hid ((Fob.ob _ _ _).fresh HF2.out hk)
              have HK2 := Lib.hid (HK1.out.trans hk fun _ _ e => e)
              clear ho hk HRP HF2 HR2 HO1 HK1
              have hve := vectors_any A1 A2 l l c1 c2 w2 HO12.out HO2.out (by have := HL1.out; omega)
              rw [decide_eq_true rfl] at hve
              have HVE := Lib.hid hve
              clear hve
              have hbb : (b != b) = false := by cases b <;> rfl
              go_wp2_with (fail)
              refine HVE.out.mono ?_
              unfold SamePost
              rintro r w3 ⟨rfl, hk⟩
              have HR4 := Lib.hid ((Fob.ob _ _ _).fresh HR3.out hk)
              have HF4 := Lib.hid ((Fob.ob _ _ _).fresh HF3.out hk)
              have HK3 := Lib.hid (HK2.out.trans hk fun _ _ e => e)
              clear hk HVE HF3 HR3 HK2 HO2 HO12
              have hus := HF4.out.usable_ HWF.out
              rw [HUE.out] at hus
              have HUS := Lib.hid hus
              clear hus
              go_wp2_with (fail)
              refine HUS.out.mono ?_
              rintro r w4 ⟨A3, c3, rfl, ho, hk⟩
              have HO3 := Lib.hid ho
              have HR5 := Lib.hid ((Fob.ob _ _ _).fresh HR4.out hk)
              have HK4 := Lib.hid (HK3.out.trans hk fun _ _ e => e)
              have hus := HR5.out.usable_ HWF.out
              rw [HUE2.out] at hus
              have HUT := Lib.hid hus
              clear ho hk hus HUS HF4 HR4 HK3
              go_wp2_with (fail)
              refine HUT.out.mono ?_
              rintro r w5 ⟨A4, c4, rfl, ho, hk⟩
              have HO4 := Lib.hid (DotsAt.of_own ho)
              have HO34 := Lib.hid (DotsAt.of_own (hk.own HO3.out fun _ _ => id))
              have HK5 := Lib.hid (HK4.out.trans hk fun _ _ e => e)
              have hve := vectors_any A3 A4 u u c3 c4 w5 HO34.out HO4.out (by have := HL2.out; omega)
              rw [decide_eq_true rfl] at hve
              have HVE := Lib.hid hve
              clear ho hk hve HUT HR5 HK4 HO3
              go_wp2_with (fail)
              refine HVE.out.mono ?_
              unfold SamePost
              rintro r w6 ⟨rfl, hk⟩
              have HK6 := Lib.hid (HK5.out.trans hk fun _ _ e => e)
              clear hk HVE HK5
              go_wp2_with (fail)
              go_roundw
              case rel => exact ⟨m + 1, by go_num, by omega, by omega, HK6.out⟩
              case measure => simp [intOf]; omega
            · have HAF := Lib.hid (HA2.out.trans HK.out fun _ _ e => e)
              go_wp2_with (fail)
              refine (Known14_any wr).mono ?_
              rintro r wk ⟨rfl, hk⟩
              have HK := Lib.hid (HAF.out.trans hk fun _ _ e => e)
              clear hk
              go_wp2_with (fail)
              go_ret
              exact ⟨rfl, HK.out⟩
end Go.Proofs.Ythlejmpeigfdgaa
