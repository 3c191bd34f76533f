/- The plain law of numbers and vectors taken again from their bytes. No program in sight but for the words of the Reader's state. · The walk of stamp.Writer.Text. Conditions: the Writer lies in memory; nothing is longer than a million. · The walks of leave.right, join.right, remove.right. Conditions: the runs lie in memory as RunsAt says; numbers are those of Go's int. -/
import Derived.Test.YtnajbkccaclkcaaGreatIM16
import Derived.Test.YtnajbkccaclkcaaGreatIM15
import Derived.Test.YtnajbkccaclkcaaGreatIM3
import Derived.Lib.AppendStr
import Derived.Test.YtnajbkccaclkcaaGreatIM10
import Derived.BigQuiet
namespace Go.Proofs.YtnajbkccaclkcaaGreat

theorem take_enc (v : Nat) : ∀ (n acc : Nat) (t : List Int), n + (enc v).length ≤ 9 → (n = 0 ∨ 0 < v) → takeFrom n acc (enc v ++ t) = (0, acc + v * 128 ^ n, n + (enc v).length) := by
  induction v using Nat.strongRecOn with
  | ind v ih =>
    intro n acc t hn h0
    by_cases h : v < 128
    · rw [enc_small h]
      rw [List.singleton_append, take_end (by omega) (by omega)]
      simp
    · rw [enc_big h] at hn ⊢
      have hp := enc_pos (v / 128)
      simp only [List.length_cons] at hn
      rw [List.cons_append, take_more' (by omega) (by omega), ih (v / 128) (by omega) (n + 1) _ t (by omega) (.inr (by omega))]
      have e1 : ((((v % 128 + 128 : Nat) : Int) - 128).toNat) = v % 128 := by omega
      have e2 : v = v % 128 + v / 128 * 128 := by omega
      rw [e1]
      simp only [Prod.mk.injEq, true_and, List.length_cons]
      refine ⟨?_, by omega⟩
      have e3 : v * 128 ^ n = v % 128 * 128 ^ n + v / 128 * 128 ^ (n + 1) := by
        rw [Nat.pow_succ]
        conv => lhs; rw [e2]
        rw [Nat.add_mul, Nat.mul_assoc (v / 128), Nat.mul_comm 128 (128 ^ n)]
      omega
theorem Rd.num {x : Nat} (hx : x ≤ 9223372036854775807) (t : List Int) : (⟨enc x ++ t, 0⟩ : Rd).val = x ∧ (⟨enc x ++ t, 0⟩ : Rd).nx = ⟨t, 0⟩ := by
  have h := take_enc x 0 0 t (by have := enc_len9 x hx; omega) (.inl rfl)
  simp only [Rd.val, Rd.nx, h, if_true]
  simp
/-- the bytes of numbers -/
def encs (m : List Nat) : List Int := m.flatMap enc
theorem encs_cons (x : Nat) (m : List Nat) : encs (x :: m) = enc x ++ encs m := by simp [encs]
theorem takeLoop_encs (V : List Dt) : ∀ (last : Int) (acc : List Dt) (t : List Int), checkFrom last V = 0 → takeLoop V.length last acc ⟨encs (dotNums V) ++ t, 0⟩ = (0, acc ++ V, ⟨t, 0⟩) := by
  induction V with
  | nil => intro last acc t _; simp [takeLoop, dotNums, encs]
  | cons d V ih =>
    intro last acc t hc
    simp only [checkFrom] at hc
    by_cases h1 : siteB d.site = false
    · rw [if_pos h1] at hc; simp at hc
    · rw [if_neg h1] at hc
      by_cases h2 : d.seq < 1 ∨ 2147483647 < d.seq
      · rw [if_pos h2] at hc; simp at hc
      · rw [if_neg h2] at hc
        by_cases h3 : d.site ≤ last
        · rw [if_pos h3] at hc; simp at hc
        · rw [if_neg h3] at hc
          have hs : 1 ≤ d.site ∧ d.site ≤ 16 := by
            have : siteB d.site = true := by simpa using h1
            simpa [siteB] using this
          obtain ⟨site, seq⟩ := d
          simp only at h1 h2 h3 hc hs
          obtain ⟨st, rfl⟩ : ∃ n : Nat, site = n := ⟨site.toNat, by omega⟩
          obtain ⟨sq, rfl⟩ : ∃ n : Nat, seq = n := ⟨seq.toNat, by omega⟩
          have e : encs (dotNums (⟨st, sq⟩ :: V)) ++ t = enc st ++ (enc sq ++ (encs (dotNums V) ++ t)) := by
            simp [dotNums, encs]
          rw [e]
          have n1 := Rd.num (x := st) (by omega) (enc sq ++ (encs (dotNums V) ++ t))
          have n2 := Rd.num (x := sq) (by omega) (encs (dotNums V) ++ t)
          simp only [List.length_cons, takeLoop, n1.1, n1.2, n2.1, n2.2]
          rw [if_neg (by simp), if_neg (by simp only [h1]; simp; omega), if_neg (by simp), if_neg (by omega), ih _ _ _ hc]
          simp
theorem takeV_encs {V : List Dt} (h : checkV V = 0) (hl : V.length ≤ 16) (t : List Int) : takeV ⟨encs (vnums V) ++ t, 0⟩ = (0, V, ⟨t, 0⟩) := by
  have e : encs (vnums V) ++ t = enc V.length ++ (encs (dotNums V) ++ t) := by simp [vnums, encs]
  rw [e]
  have n1 := Rd.num (x := V.length) (by omega) (encs (dotNums V) ++ t)
  simp only [takeV, n1.1, n1.2]
  rw [if_neg (by simp), if_neg (by omega), takeLoop_encs V 0 [] t h]
  simp
theorem vec_len {r : List Int} (h : Row r) : (vec r).length ≤ 16 := by
  have : ∀ k, k ≤ 16 → (vecTo r (k + 1)).length ≤ k := by
    intro k
    induction k with
    | zero => intro _; rw [vecTo_one h]; simp
    | succ k ih =>
      intro hk
      have := ih (by omega)
      unfold vecTo
      split
      · simp; omega
      · omega
  exact this 16 (Nat.le_refl _)
theorem isByte_app {l m : List Int} (h : isByte l) (h' : isByte m) : isByte (l ++ m) := fun b hb => (List.mem_append.1 hb).elim (h b) (h' b)
theorem encs_byte (m : List Nat) : isByte (encs m) := by
  intro b hb
  simp only [encs, List.mem_flatMap] at hb
  obtain ⟨x, _, hb⟩ := hb
  exact enc_byte x b hb
end Go.Proofs.YtnajbkccaclkcaaGreat

namespace Go.Proofs.YtnajbkccaclkcaaGreat
open Go Go.RowKit

/-- A text's bytes. -/
def tb (s : ByteArray) : List Int := s.data.toList.map fun b => (b.toNat : Int)
theorem tb_len (s : ByteArray) : (tb s).length = s.size := by unfold tb; rw [List.length_map, Array.length_toList]; rfl
theorem tb_byte (s : ByteArray) : isByte (tb s) := fun b hb => by
  obtain ⟨x, _, rfl⟩ := List.mem_map.1 hb
  have := x.toNat_lt
  omega
theorem bys_tb (s : ByteArray) : bys (tb s) = Lib.strCells s := by
  unfold bys tb Lib.strCells
  rw [List.map_map]
  rfl
/-- What lies behind when these bytes are laid. -/
def layB (l : List Int) (e : Int) (m : List Int) : List Int := if e ≠ 0 then l else l ++ m
theorem layB_puts (l : List Int) (e : Int) (m : List Nat) : puts l e m = layB l e (encs m) := rfl
theorem layB_app (l : List Int) (e : Int) (m n : List Int) : layB (layB l e m) e n = layB l e (m ++ n) := by
  unfold layB
  split
  · rfl
  · rw [List.append_assoc]
theorem layB_nil (l : List Int) (e : Int) : layB l e [] = l := by unfold layB; split <;> simp
theorem layB_len (l : List Int) (e : Int) (m : List Int) : (layB l e m).length ≤ l.length + m.length := by
  unfold layB
  split
  · omega
  · rw [List.length_append]; omega
theorem layB_num (l : List Int) (e : Int) (x : Nat) : wrB l e (x : Int) = layB l e (enc x) ∧ wrE e (x : Int) = e := by
  have := puts_num l e [] x
  rw [puts_nil] at this
  refine ⟨?_, this.2⟩
  rw [this.1]
  unfold puts layB
  simp
section
variable {P : Program} {w : World} {t u e : TypeId} {i : TypeInfo} {ops : Array Oper} {rest : List Oper} {o : Oper} {a : Act} {Q : Exit → Act → World → Prop}
/-- Where a text's bytes may lie behind the append. -/
theorem string_goes (base : Nat) (ty : TypeId) (ht : P.underlying t = some (.slice e)) (hu : P.underlying u = some .string) (hi : P.info? e = some i) (hz : i.zero = some (.int .u8 0)) (hsize : i.size = 1) (hby : i.bytes = 1)
    (v : Value) (n : Nat) (xs : List Value) (hown : w.ownsRow base e 1 v n xs) (s : ByteArray) (h63 : n + s.size ≤ maxLen) (hbytes : n + s.size ≤ 140737488355328) (hbase : base ≤ w.heap.size) :
    ∃ v' w', (Builtin.append_ #[t, u] ty #[v, .string s]).run P w = .ok v' w' ∧ w'.ownsRow base e 1 v' (n + s.size) (xs ++ Lib.strCells s) ∧ w.grownBy w' v.ownBlock ∧ Goes w v v' := by
  obtain ⟨v', w', hr, h1, h2, -⟩ := Lib.run_append_own_string (P := P) w base t u ty e i ht hu hi hz hsize hby v n xs hown s h63 hbytes hbase
  refine ⟨v', w', hr, h1, h2, ?_⟩
  have hxl : xs.length = n := by simpa using hown.1
  rcases hown.2 with ⟨rfl, rfl⟩ | ⟨g, cap, cur, rfl, hbg, hg, hnc, hcm, hcs, htake⟩
  · have hx : xs = [] := List.eq_nil_of_length_eq_zero hxl
    subst hx
    obtain ⟨v2, w2, hr2, h21, -, -⟩ := Lib.run_append_own_string (P := P) w w.heap.size t u ty e i ht hu hi hz hsize hby (.slice none 0 0) 0 [] (World.ownsRow_nil _ _ _ _) s h63 hbytes (Nat.le_refl _)
    rw [hr] at hr2
    injection hr2 with hv hw
    subst hv hw
    exact fun k hk => .inr (h21.lt k hk).1
  · by_cases hroom : n + s.size ≤ cap
    · have hcs' : cur.size = cap := by simpa using hcs
      have hr2 := Lib.run_append_room_string (P := P) w t u ty e i ht hu hi hsize g n cap cur hg s hroom (by omega)
      rw [hr] at hr2
      injection hr2 with hv hw
      subst hv
      exact fun k hk => .inl hk
    · have holds : ∀ j u, xs[j]? = some u → w.cell? ((⟨g, 0, none⟩ : Addr).add j) = some u := hown.cells (g := g) rfl
      have hr2 := Lib.run_append_grow_string (P := P) w t u ty e i (.int .u8 0) ht hu hi hz ⟨g, 0, none⟩ n cap xs (by rw [hsize]; simpa using hxl) holds s (by omega) (by simp only [maxLen] at h63; omega) (by rw [hby]; exact growslice_fits (by omega) (by omega))
      rw [hr] at hr2
      injection hr2 with hv hw
      subst hv
      intro k hk
      right
      have hk' : w.heap.size = k := by injection hk
      omega
theorem wpList_append_str (hgd : o.guard = none) (sl x : Operand) (t u : TypeId) (ho : o.op = .call { callee := .builtin .append, args := #[sl, x], argTypes := #[t, u] })
    (base : Nat) (e : TypeId) (i : TypeInfo) (ht : P.underlying t = some (.slice e)) (hu : P.underlying u = some .string) (hi : P.info? e = some i) (hz : i.zero = some (.int .u8 0)) (hsize : i.size = 1) (hby : i.bytes = 1)
    (v : Value) (n : Nat) (xs : List Value) (hs : a.eval sl = v) (hown : w.ownsRow base e 1 v n xs) (s : ByteArray) (hx : a.eval x = .string s)
    (h63 : n + s.size ≤ maxLen) (hbytes : n + s.size ≤ 140737488355328) (hbase : base ≤ w.heap.size)
    (h : ∀ v' w', w'.ownsRow base e 1 v' (n + s.size) (xs ++ Lib.strCells s) → w.grownBy w' v.ownBlock → Goes w v v' → wpList P ops Q rest (a.put o.dst v') w') : wpList P ops Q (o :: rest) a w := by
  refine wpList_plain hgd fun K hK => ?_
  obtain ⟨v', w', hr, h2, h3, h4⟩ := string_goes (P := P) (w := w) base o.type ht hu hi hz hsize hby v n xs hown s h63 hbytes hbase
  unfold Oper.wp execOp
  simp only [ho, resolve, invoke, builtin, Sem.run_bind, Sem.run_pure, Result.andThen_ok, List.map_toArray, List.map_cons, List.map_nil, hs, hx, hr]
  exact hK _ _ (h v' w' h2 h3 h4)
end
theorem WriterAt.lay {wr w1 : World} {base g : Nat} {sv v : Value} {l m : List Int} (h : WriterAt wr base g sv l 0) (hown : w1.ownsRow base 5 1 v (l.length + m.length) (bys l ++ bys m)) (hg : wr.grownBy w1 sv.ownBlock) (hat : Goes wr sv v) :
    WriterAt (w1.setCell ⟨g, 0, none⟩ v) base g v (l ++ m) 0 ∧ Kept (OwnsW g sv) wr (w1.setCell ⟨g, 0, none⟩ v) ∧ MovedW wr sv v := by
  have hne : some g ≠ sv.ownBlock := fun e => own_box_ne h.row h.box (by decide) e.symm
  have hb : Box w1 g 39 #[sv, .int .i64 0] := (hg.block _ h.box.lt hne).trans h.box
  have hvg : v.ownBlock ≠ some g := own_box_ne hown hb (by decide)
  have hk1 : Kept (OwnsW g sv) wr w1 := (Kept.refl _ _).grown hg fun k _ e => .inr e
  have hk : Kept (OwnsW g sv) wr (w1.setCell ⟨g, 0, none⟩ v) := hk1.at 0 v (.inl (.inl rfl))
  refine ⟨⟨?_, ?_, h.base_le⟩, hk, hat⟩
  · have := hb.set 0 v
    simpa using this
  · have h2 : Kept (fun k => k = g) w1 (w1.setCell ⟨g, 0, none⟩ v) := (Kept.refl _ _).at 0 v (.inl rfl)
    have := h2.own hown fun k e hk => hvg (hk ▸ e)
    rw [← bys_app] at this
    rwa [List.length_append]
set_option maxRecDepth 100000 in
set_option maxHeartbeats 1600000 in
theorem WText_any (base g : Nat) (sv : Value) (l : List Int) (e : Int) (s : ByteArray) (w : World) (h : WriterAt w base g sv l e) (hl : l.length ≤ 1000000) (hs : s.size ≤ 1000000) :
    Calls Tryz.prog 143 #[.pointer (some ⟨g, 0, none⟩), .string s] w (WPost w base g sv (layB l e (enc s.size ++ tb s)) e) := by
  have H := Lib.hid h
  have x1 : w.cell? ⟨g, 1, none⟩ = some (.int .i64 e) := by simpa using h.box.cell 1
  clear h
  by_cases he : e = 0
  · subst he
    have HN := Lib.hid (layB_num l 0 s.size)
    have HA := Lib.hid (layB_app l 0 (enc s.size) (tb s))
    have hel : (enc s.size).length ≤ 9 := enc_len9 _ (by omega)
    obtain ⟨i0, hi, hz0, hz1, hz2⟩ := info_parts info_byte
    go_enter Tryz.func143, Tryz.ntmps143
    go_wp2_with (fail)
    refine (Number_any base g sv l 0 s.size w H.out hl (by omega)).mono ?_
    rw [HN.out.1, HN.out.2]
    rintro e w1 ⟨rfl, sv', hw1, hk1, hm1⟩
    have HW := Lib.hid hw1
    have HK := Lib.hid hk1
    have HM := Lib.hid hm1
    obtain ⟨A', c', rfl⟩ := hw1.form
    have hll := layB_len l 0 (enc s.size)
    have x0 : w1.cell? ⟨g, 0, none⟩ = some (.slice A' (layB l 0 (enc s.size)).length c') := by simpa using hw1.box.cell 0
    clear hw1 hk1 hm1 x1
    go_wp2_with (at_builtin; refine Hid.out ?_)
    refine Lib.hid ?_
    refine wpList_append_str rfl _ _ 37 9 rfl base 5 i0 Tryz.underlying37 Tryz.underlying9 hi hz0 hz1 hz2 _ _ (bys (layB l 0 (enc s.size))) rfl HW.out.row s rfl (by unfold maxLen; omega) (by omega) (by have := HW.out.base_le; have := HW.out.box.lt; omega) ?_
    intro v' w2 hown2 hg2 hgo2
    have hown2' : w2.ownsRow base 5 1 v' ((layB l 0 (enc s.size)).length + (tb s).length) (bys (layB l 0 (enc s.size)) ++ bys (tb s)) := by rw [tb_len, bys_tb]; exact hown2
    have HL := Lib.hid (HW.out.lay hown2' hg2 hgo2)
    have hne : some g ≠ (Value.slice A' (layB l 0 (enc s.size)).length c').ownBlock := fun e => own_box_ne HW.out.row HW.out.box (by decide) e.symm
    have hb2 : Box w2 g 39 #[.slice A' (layB l 0 (enc s.size)).length c', .int .i64 0] := (hg2.block _ HW.out.box.lt hne).trans HW.out.box
    obtain ⟨A2, c2, rfl⟩ : ∃ A2 c2, v' = .slice A2 ((layB l 0 (enc s.size)).length + s.size) c2 := own_form hown2
    have f0 : w2.frozen? ⟨g, 0, none⟩ = false := hb2.frozen 0
    have y0 : w2.cell? ⟨g, 0, none⟩ = some (.slice A' (layB l 0 (enc s.size)).length c') := by simpa using hb2.cell 0
    clear hown2 hown2' hg2 hgo2 hne hb2 x0
    go_wp2
    go_end0
    rw [← HA.out]
    exact ⟨rfl, _, HL.out.1, HK.out.trans HL.out.2.1 HM.out.owns, HM.out.trans HL.out.2.2 HK.out.size⟩
  · have HE := Lib.hid he
    have hne : (e != 0) = true := bne_iff_ne.2 he
    go_enter Tryz.func143, Tryz.ntmps143
    go_wp2_with (fail)
    go_end0
    unfold layB
    rw [if_pos HE.out]
    exact WPost.same rfl H.out (Kept.refl _ _)
end Go.Proofs.YtnajbkccaclkcaaGreat

namespace Go.Proofs.YtnajbkccaclkcaaGreat
open Go Go.RowKit
theorem wp_region_class {P : Program} {C : World → Prop} {id : Nat} {Q : Exit → Act → World → Prop} {a : Act} {w : World} {l : List Oper} (hm : P.follows .mixedOrders = true) (hB : Region.lexB .any l.toArray = true) (hC : C w.drew)
    (h : wpQuiet P l.toArray C (fun a' => ∀ w', C w' → Q .normal a' w') l a) : (Code.region id l.toArray true).wp P Q a w := wp_region_quiet hm hB hC (by simpa using h)

/-- Has an operation no identifiers, no text, and no site? -/
def bareB (o : Opr) (s : Int) : Bool := sameRest o.id o.ref o.text o.site noId noId ⟨#[]⟩ s
set_option maxRecDepth 100000 in
set_option maxHeartbeats 1600000 in
theorem leave_any (o : Opr) (dA gA : Option Addr) (dc gc : Nat) (w : World) (hg : o.gone.length ≤ 1000000) : Calls Tryz.prog 161 #[.agg #[], .agg (o.cells dA dc gA gc)] w (BoolPost w (decide (o.gone.length = 0) && bareB o 0)) := by
  obtain ⟨⟨ds, dq⟩, deps, kind, ⟨it, is⟩, ⟨rt, rs⟩, text, gone, site⟩ := o
  obtain ⟨x, hx⟩ : ∃ x, bareB ⟨⟨ds, dq⟩, deps, kind, ⟨it, is⟩, ⟨rt, rs⟩, text, gone, site⟩ 0 = x := ⟨_, rfl⟩
  have hq := fun W => eql_rest ⟨it, is⟩ ⟨rt, rs⟩ text site noId noId ⟨#[]⟩ 0 W
  have hx' : sameRest ⟨it, is⟩ ⟨rt, rs⟩ text site noId noId ⟨#[]⟩ 0 = x := hx
  rw [hx'] at hq
  rw [hx]
  unfold restC noId at hq
  unfold Opr.cells
  simp only at hq hg ⊢
  clear hx hx'
  rcases Nat.eq_zero_or_pos gone.length with h0 | h0
  · obtain rfl := List.eq_nil_of_length_eq_zero h0
    have HK := Lib.hid (((Kept.refl (fun _ => False) w).alloc (.cells #[] 164)).alloc (.cells #[.int .i64 ds, .int .i64 dq, .slice dA deps.length dc, .int .i64 kind, .int .i64 it, .int .i64 is, .int .i64 rt, .int .i64 rs, .string text, .slice gA 0 gc, .int .i64 site] 64))
    have HR := Lib.hid fun W => restOf_any ⟨⟨ds, dq⟩, deps, kind, ⟨it, is⟩, ⟨rt, rs⟩, text, [], site⟩ dA gA dc gc W
    have hz : decide (([] : List Rn).length = 0) = true := rfl
    rw [hz, Bool.true_and]
    clear h0 hz hg
    show Calls Tryz.prog 161 #[.agg #[], .agg #[.int .i64 ds, .int .i64 dq, .slice dA deps.length dc, .int .i64 kind, .int .i64 it, .int .i64 is, .int .i64 rt, .int .i64 rs, .string text, .slice gA 0 gc, .int .i64 site]] w _
    go_enter Tryz.func161, Tryz.ntmps161
    go_wp2_with (fail)
    refine (HR.out _).mono ?_
    unfold OfPost restC
    rintro e w2 ⟨rfl, hk⟩
    have HK2 := Lib.hid (HK.out.trans hk fun _ _ e => e)
    clear hk
    go_wp2_with (fail)
    go_ret
    exact ⟨rfl, HK2.out⟩
  · have hd : decide (gone.length = 0) = false := decide_eq_false (by omega)
    rw [hd, Bool.false_and]
    have hne : ((gone.length : Nat) : Int) ≠ 0 := by omega
    have HK := Lib.hid (((Kept.refl (fun _ => False) w).alloc (.cells #[] 164)).alloc (.cells #[.int .i64 ds, .int .i64 dq, .slice dA deps.length dc, .int .i64 kind, .int .i64 it, .int .i64 is, .int .i64 rt, .int .i64 rs, .string text, .slice gA gone.length gc, .int .i64 site] 64))
    generalize gone.length = gl at *
    clear hq
    go_enter Tryz.func161, Tryz.ntmps161
    go_wp2_with (fail)
    go_ret
    exact ⟨rfl, HK.out⟩

/-- A join and the operation in boxes, ahead of whatever is done. -/
structure JB (w : World) (g : Nat) (jsite ds dq : Int) (dA : Option Addr) (dn dc : Nat) (kind it is rt rs : Int) (text : ByteArray) (gA : Option Addr) (gn gc : Nat) (site : Int) (W : World) : Prop where
  b1 : Box W g 162 #[.int .i64 jsite]
  b2 : Box W (g + 1) 64 #[.int .i64 ds, .int .i64 dq, .slice dA dn dc, .int .i64 kind, .int .i64 it, .int .i64 is, .int .i64 rt, .int .i64 rs, .string text, .slice gA gn gc, .int .i64 site]
  k : Kept (fun _ => False) w W
section
variable {w W W' : World} {g : Nat} {jsite ds dq : Int} {dA : Option Addr} {dn dc : Nat} {kind it is rt rs : Int} {text : ByteArray} {gA : Option Addr} {gn gc : Nat} {site : Int}
theorem JB.fresh (h : JB w g jsite ds dq dA dn dc kind it is rt rs text gA gn gc site W) (hk : Kept (fun _ => False) W W') : JB w g jsite ds dq dA dn dc kind it is rt rs text gA gn gc site W' := ⟨h.b1.kept hk id, h.b2.kept hk id, h.k.trans hk fun _ _ e => e⟩
theorem JB.drew (h : JB w g jsite ds dq dA dn dc kind it is rt rs text gA gn gc site W) : JB w g jsite ds dq dA dn dc kind it is rt rs text gA gn gc site W.drew := h.fresh (Kept.refl (fun _ => False) W).drew
theorem JB.S (h : JB w g jsite ds dq dA dn dc kind it is rt rs text gA gn gc site W) : W.cell? ⟨g, 0, none⟩ = some (.int .i64 jsite) ∧ W.cell? ⟨g + 1, 0, none⟩ = some (.int .i64 ds) ∧ W.cell? ⟨g + 1, 1, none⟩ = some (.int .i64 dq) ∧ W.cell? ⟨g + 1, 2, none⟩ = some (.slice dA dn dc) ∧ W.cell? ⟨g + 1, 3, none⟩ = some (.int .i64 kind) ∧ W.cell? ⟨g + 1, 4, none⟩ = some (.int .i64 it) ∧ W.cell? ⟨g + 1, 5, none⟩ = some (.int .i64 is) ∧ W.cell? ⟨g + 1, 6, none⟩ = some (.int .i64 rt) ∧ W.cell? ⟨g + 1, 7, none⟩ = some (.int .i64 rs) ∧ W.cell? ⟨g + 1, 8, none⟩ = some (.string text) ∧ W.cell? ⟨g + 1, 9, none⟩ = some (.slice gA gn gc) ∧ W.cell? ⟨g + 1, 10, none⟩ = some (.int .i64 site) ∧ Hid (JB w g jsite ds dq dA dn dc kind it is rt rs text gA gn gc site W) :=
  ⟨h.b1.cell 0, h.b2.cell 0, h.b2.cell 1, h.b2.cell 2, h.b2.cell 3, h.b2.cell 4, h.b2.cell 5, h.b2.cell 6, h.b2.cell 7, h.b2.cell 8, h.b2.cell 9, h.b2.cell 10, h⟩
theorem JB.ofS (h : W.cell? ⟨g, 0, none⟩ = some (.int .i64 jsite) ∧ W.cell? ⟨g + 1, 0, none⟩ = some (.int .i64 ds) ∧ W.cell? ⟨g + 1, 1, none⟩ = some (.int .i64 dq) ∧ W.cell? ⟨g + 1, 2, none⟩ = some (.slice dA dn dc) ∧ W.cell? ⟨g + 1, 3, none⟩ = some (.int .i64 kind) ∧ W.cell? ⟨g + 1, 4, none⟩ = some (.int .i64 it) ∧ W.cell? ⟨g + 1, 5, none⟩ = some (.int .i64 is) ∧ W.cell? ⟨g + 1, 6, none⟩ = some (.int .i64 rt) ∧ W.cell? ⟨g + 1, 7, none⟩ = some (.int .i64 rs) ∧ W.cell? ⟨g + 1, 8, none⟩ = some (.string text) ∧ W.cell? ⟨g + 1, 9, none⟩ = some (.slice gA gn gc) ∧ W.cell? ⟨g + 1, 10, none⟩ = some (.int .i64 site) ∧ Hid (JB w g jsite ds dq dA dn dc kind it is rt rs text gA gn gc site W)) : JB w g jsite ds dq dA dn dc kind it is rt rs text gA gn gc site W := h.2.2.2.2.2.2.2.2.2.2.2.2.out
end
/-- Does a join's number stand for a site? -/
def joinB (o : Opr) : Bool := decide (o.gone.length = 0) && (bareB o o.site && (decide (1 ≤ o.site) && decide (o.site ≤ 16)))
set_option maxRecDepth 100000 in
set_option maxHeartbeats 3200000 in
theorem join_any (o : Opr) (dA gA : Option Addr) (dc gc : Nat) (w : World) (hg : o.gone.length ≤ 1000000) : Calls Tryz.prog 157 #[.agg #[.int .i64 o.site], .agg (o.cells dA dc gA gc)] w (BoolPost w (joinB o)) := by
  obtain ⟨⟨ds, dq⟩, deps, kind, ⟨it, is⟩, ⟨rt, rs⟩, text, gone, site⟩ := o
  obtain ⟨x, hx⟩ : ∃ x, bareB ⟨⟨ds, dq⟩, deps, kind, ⟨it, is⟩, ⟨rt, rs⟩, text, gone, site⟩ site = x := ⟨_, rfl⟩
  have hq := fun W => eql_rest ⟨it, is⟩ ⟨rt, rs⟩ text site noId noId ⟨#[]⟩ site W
  have hx' : sameRest ⟨it, is⟩ ⟨rt, rs⟩ text site noId noId ⟨#[]⟩ site = x := hx
  rw [hx'] at hq
  unfold joinB
  simp only at hg ⊢
  rw [hx]
  unfold restC noId at hq
  unfold Opr.cells
  simp only at hq ⊢
  clear hx hx'
  rcases Nat.eq_zero_or_pos gone.length with h0 | h0
  · obtain rfl := List.eq_nil_of_length_eq_zero h0
    have HR := Lib.hid (show ∀ W, Calls Tryz.prog 144 #[.agg #[.int .i64 ds, .int .i64 dq, .slice dA deps.length dc, .int .i64 kind, .int .i64 it, .int .i64 is, .int .i64 rt, .int .i64 rs, .string text, .slice gA 0 gc, .int .i64 site]] W (OfPost W (.agg #[.int .i64 it, .int .i64 is, .int .i64 rt, .int .i64 rs, .string text, .int .i64 site])) from fun W => restOf_any ⟨⟨ds, dq⟩, deps, kind, ⟨it, is⟩, ⟨rt, rs⟩, text, [], site⟩ dA gA dc gc W)
    have hz : decide (([] : List Rn).length = 0) = true := rfl
    rw [hz, Bool.true_and]
    clear h0 hz hg
    show Calls Tryz.prog 157 #[.agg #[.int .i64 site], .agg #[.int .i64 ds, .int .i64 dq, .slice dA deps.length dc, .int .i64 kind, .int .i64 it, .int .i64 is, .int .i64 rt, .int .i64 rs, .string text, .slice gA 0 gc, .int .i64 site]] w _
    have HB1 := Lib.hid ((Box.new w 162 #[.int .i64 site]).alloc (.cells #[.int .i64 ds, .int .i64 dq, .slice dA deps.length dc, .int .i64 kind, .int .i64 it, .int .i64 is, .int .i64 rt, .int .i64 rs, .string text, .slice gA 0 gc, .int .i64 site] 64))
    have HB2 := Lib.hid ((Box.new (w.alloc (.cells #[.int .i64 site] 162)) 64 #[.int .i64 ds, .int .i64 dq, .slice dA deps.length dc, .int .i64 kind, .int .i64 it, .int .i64 is, .int .i64 rt, .int .i64 rs, .string text, .slice gA 0 gc, .int .i64 site]).at_eq (show _ = w.heap.size + 1 by simp))
    have HK := Lib.hid (((Kept.refl (fun _ => False) w).alloc (.cells #[.int .i64 site] 162)).alloc (.cells #[.int .i64 ds, .int .i64 dq, .slice dA deps.length dc, .int .i64 kind, .int .i64 it, .int .i64 is, .int .i64 rt, .int .i64 rs, .string text, .slice gA 0 gc, .int .i64 site] 64))
    obtain ⟨b, hb⟩ : ∃ b, (x && (decide (1 ≤ site) && decide (site ≤ 16))) = b := ⟨_, rfl⟩
    rw [hb]
    have HBB := Lib.hid hb
    clear hb
    have hcase : (x = false ∧ b = false) ∨ (x = true ∧ site < 1 ∧ b = false) ∨ (x = true ∧ 1 ≤ site ∧ 16 < site ∧ b = false) ∨ (x = true ∧ 1 ≤ site ∧ site ≤ 16 ∧ b = true) := by
      have := HBB.out
      cases x with
      | false => exact .inl ⟨rfl, this.symm⟩
      | true =>
        rw [Bool.true_and] at this
        by_cases h1 : 1 ≤ site
        · rw [decide_eq_true h1, Bool.true_and] at this
          by_cases h2 : site ≤ 16
          · exact .inr (.inr (.inr ⟨rfl, h1, h2, by rw [← this, decide_eq_true h2]⟩))
          · exact .inr (.inr (.inl ⟨rfl, h1, by omega, by rw [← this, decide_eq_false h2]⟩))
        · exact .inr (.inl ⟨rfl, by omega, by rw [← this, decide_eq_false h1, Bool.false_and]⟩)
    clear HBB
    have HZ := Lib.hid (show JB w w.heap.size site ds dq dA deps.length dc kind it is rt rs text gA 0 gc site _ from ⟨HB1.out, HB2.out, HK.out⟩)
    clear HB1 HB2 HK
    go_enter Tryz.func157, Tryz.ntmps157
    go_wp2_with (fail)
    generalize (w.alloc (.cells #[.int .i64 site] 162)).alloc (.cells #[.int .i64 ds, .int .i64 dq, .slice dA deps.length dc, .int .i64 kind, .int .i64 it, .int .i64 is, .int .i64 rt, .int .i64 rs, .string text, .slice gA 0 gc, .int .i64 site] 64) = w1 at HZ ⊢
    rcases hcase with ⟨rfl, rfl⟩ | ⟨rfl, h1, rfl⟩ | ⟨rfl, h1, h2, rfl⟩ | ⟨rfl, h1, h2, rfl⟩
    · refine wp_region_class (C := fun w' => JB w w.heap.size site ds dq dA deps.length dc kind it is rt rs text gA 0 gc site w') (by kernel_rfl) (by kernel_rfl) HZ.out.drew ?_
      iterate 23
        first | go_big_quiet_skip | (go_big_quiet_want; first | (go_big_quiet_op; go_big_quiet_on) | (apply Exists.intro; refine ⟨fun w' hS => ?_, ?_⟩; (have HJ := hS; obtain ⟨j0, c0, c1, c2, c3, c4, c5, c6, c7, c8, c9, c10, -⟩ := JB.S hS; go_simp; first | rfl | exact ⟨rfl, rfl⟩ | ((with_reducible refine (HR.out _).mono ?_); unfold OfPost; rintro e w2 ⟨rfl, hk⟩; exact ⟨rfl, JB.fresh HJ hk⟩)); (try simp only [Act.put, List.setIfInBounds_toArray, List.set_cons_zero, List.set_cons_succ]); go_big_quiet_on))
      refine wpQuiet_nil ?_
      intro w3 hJ
      have HJ3 := Lib.hid hJ
      clear hJ
      go_wp2
      go_ret
      exact ⟨rfl, HJ3.out.k⟩
    · have d1 : decide (1 ≤ site) = false := decide_eq_false (by omega)
      refine wp_region_class (C := fun w' => JB w w.heap.size site ds dq dA deps.length dc kind it is rt rs text gA 0 gc site w') (by kernel_rfl) (by kernel_rfl) HZ.out.drew ?_
      iterate 23
        first | go_big_quiet_skip | (go_big_quiet_want; first | (go_big_quiet_op; go_big_quiet_on) | (apply Exists.intro; refine ⟨fun w' hS => ?_, ?_⟩; (have HJ := hS; obtain ⟨j0, c0, c1, c2, c3, c4, c5, c6, c7, c8, c9, c10, -⟩ := JB.S hS; go_simp; first | rfl | exact ⟨rfl, rfl⟩ | ((with_reducible refine (HR.out _).mono ?_); unfold OfPost; rintro e w2 ⟨rfl, hk⟩; exact ⟨rfl, JB.fresh HJ hk⟩)); (try simp only [Act.put, List.setIfInBounds_toArray, List.set_cons_zero, List.set_cons_succ]); go_big_quiet_on))
      refine wpQuiet_nil ?_
      intro w3 hJ
      have HJ3 := Lib.hid hJ
      clear hJ
      go_wp2
      go_ret
      exact ⟨rfl, HJ3.out.k⟩
    · have d1 : decide (1 ≤ site) = true := decide_eq_true h1
      have d2 : decide (site ≤ 16) = false := decide_eq_false (by omega)
      refine wp_region_class (C := fun w' => JB w w.heap.size site ds dq dA deps.length dc kind it is rt rs text gA 0 gc site w') (by kernel_rfl) (by kernel_rfl) HZ.out.drew ?_
      iterate 23
        first | go_big_quiet_skip | (go_big_quiet_want; first | (go_big_quiet_op; go_big_quiet_on) | (apply Exists.intro; refine ⟨fun w' hS => ?_, ?_⟩; (have HJ := hS; obtain ⟨j0, c0, c1, c2, c3, c4, c5, c6, c7, c8, c9, c10, -⟩ := JB.S hS; go_simp; first | rfl | exact ⟨rfl, rfl⟩ | ((with_reducible refine (HR.out _).mono ?_); unfold OfPost; rintro e w2 ⟨rfl, hk⟩; exact ⟨rfl, JB.fresh HJ hk⟩)); (try simp only [Act.put, List.setIfInBounds_toArray, List.set_cons_zero, List.set_cons_succ]); go_big_quiet_on))
      refine wpQuiet_nil ?_
      intro w3 hJ
      have HJ3 := Lib.hid hJ
      clear hJ
      go_wp2
      go_ret
      exact ⟨rfl, HJ3.out.k⟩
    · have d1 : decide (1 ≤ site) = true := decide_eq_true h1
      have d2 : decide (site ≤ 16) = true := decide_eq_true h2
      refine wp_region_class (C := fun w' => JB w w.heap.size site ds dq dA deps.length dc kind it is rt rs text gA 0 gc site w') (by kernel_rfl) (by kernel_rfl) HZ.out.drew ?_
      iterate 23
        first | go_big_quiet_skip | (go_big_quiet_want; first | (go_big_quiet_op; go_big_quiet_on) | (apply Exists.intro; refine ⟨fun w' hS => ?_, ?_⟩; (have HJ := hS; obtain ⟨j0, c0, c1, c2, c3, c4, c5, c6, c7, c8, c9, c10, -⟩ := JB.S hS; go_simp; first | rfl | exact ⟨rfl, rfl⟩ | ((with_reducible refine (HR.out _).mono ?_); unfold OfPost; rintro e w2 ⟨rfl, hk⟩; exact ⟨rfl, JB.fresh HJ hk⟩)); (try simp only [Act.put, List.setIfInBounds_toArray, List.set_cons_zero, List.set_cons_succ]); go_big_quiet_on))
      refine wpQuiet_nil ?_
      intro w3 hJ
      have HJ3 := Lib.hid hJ
      clear hJ
      go_wp2
      go_ret
      exact ⟨rfl, HJ3.out.k⟩
  · have hd : decide (gone.length = 0) = false := decide_eq_false (by omega)
    rw [hd, Bool.false_and]
    have HK := Lib.hid (((Kept.refl (fun _ => False) w).alloc (.cells #[.int .i64 site] 162)).alloc (.cells #[.int .i64 ds, .int .i64 dq, .slice dA deps.length dc, .int .i64 kind, .int .i64 it, .int .i64 is, .int .i64 rt, .int .i64 rs, .string text, .slice gA gone.length gc, .int .i64 site] 64))
    have HB2 := Lib.hid ((Box.new (w.alloc (.cells #[.int .i64 site] 162)) 64 #[.int .i64 ds, .int .i64 dq, .slice dA deps.length dc, .int .i64 kind, .int .i64 it, .int .i64 is, .int .i64 rt, .int .i64 rs, .string text, .slice gA gone.length gc, .int .i64 site]).at_eq (show _ = w.heap.size + 1 by simp))
    generalize gone.length = gl at *
    clear hq
    have hne : ((gl : Int) == 0) = false := by simp; omega
    go_enter Tryz.func157, Tryz.ntmps157
    go_wp2_with (fail)
    generalize (w.alloc (.cells #[.int .i64 site] 162)).alloc (.cells #[.int .i64 ds, .int .i64 dq, .slice dA deps.length dc, .int .i64 kind, .int .i64 it, .int .i64 is, .int .i64 rt, .int .i64 rs, .string text, .slice gA gl gc, .int .i64 site] 64) = w1 at HB2 HK ⊢
    have c9 : w1.cell? ⟨w.heap.size + 1, 9, none⟩ = some (.slice gA gl gc) := HB2.out.cell 9
    go_quiet (fail)
    go_wp2
    go_ret
    exact ⟨rfl, HK.out.drewN nq⟩
end Go.Proofs.YtnajbkccaclkcaaGreat
