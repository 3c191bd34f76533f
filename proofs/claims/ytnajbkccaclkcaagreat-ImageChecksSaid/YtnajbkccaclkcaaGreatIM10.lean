/- The walks of op.of and restOf, and what == says of the rest. No condition. · What == says of two rests: all is alike. No condition. · The small functions of image (when, first, may, isRune, lower, rising) and their likes in the references. Conditions: the lists lie in memory; at most a million. -/
import Derived.Test.YtnajbkccaclkcaaGreatIM3
import Derived.Test.YtnajbkccaclkcaaGreatIM4
import Derived.Laws.StructEq
import Derived.Test.YtnajbkccaclkcaaGreatIM9
namespace Go.Proofs.YtnajbkccaclkcaaGreat
open Go Go.RowKit

/-- What a kind does, as the program boxes it. -/
def ofV (o : Opr) (gA : Option Addr) (gc : Nat) : Value :=
  if o.kind = 1 then .iface 158 (.agg #[.int .i64 o.id.time, .int .i64 o.id.site, .int .i64 o.ref.time, .int .i64 o.ref.site, .string o.text])
  else if o.kind = 2 then .iface 160 (.agg #[.slice gA o.gone.length gc])
  else if o.kind = 3 then .iface 162 (.agg #[.int .i64 o.site])
  else if o.kind = 4 then .iface 164 (.agg #[])
  else .nilIface
def OfPost (w : World) (v : Value) (e : Ending) (w' : World) : Prop := e = .returned v ∧ Kept (fun _ => False) w w'
set_option maxRecDepth 100000 in
set_option maxHeartbeats 1600000 in
theorem opof_any (o : Opr) (dA gA : Option Addr) (dc gc : Nat) (w : World) : Calls Tryz.prog 77 #[.agg (o.cells dA dc gA gc)] w (OfPost w (ofV o gA gc)) := by
  have HK := Lib.hid ((Kept.refl (fun _ => False) w).alloc (.cells (o.cells dA dc gA gc) 64))
  obtain ⟨⟨ds, dq⟩, deps, kind, ⟨it, is⟩, ⟨rt, rs⟩, text, gone, site⟩ := o
  obtain ⟨x, hx⟩ : ∃ x, ofV ⟨⟨ds, dq⟩, deps, kind, ⟨it, is⟩, ⟨rt, rs⟩, text, gone, site⟩ gA gc = x := ⟨_, rfl⟩
  rw [hx]
  unfold ofV at hx
  unfold Opr.cells at *
  simp only at HK hx ⊢
  rcases (by omega : kind = 1 ∨ kind = 2 ∨ kind = 3 ∨ kind = 4 ∨ (kind ≠ 1 ∧ kind ≠ 2 ∧ kind ≠ 3 ∧ kind ≠ 4)) with rfl | rfl | rfl | rfl | ⟨h1, h2, h3, h4⟩
  iterate 4
    · simp at hx
      have HX := Lib.hid hx
      clear hx
      go_enter Tryz.func77, Tryz.ntmps77
      go_wp2
      go_ret
      exact ⟨by rw [← HX.out]; rfl, HK.out⟩
  · rw [if_neg h1, if_neg h2, if_neg h3, if_neg h4] at hx
    have HX := Lib.hid hx
    clear hx
    go_enter Tryz.func77, Tryz.ntmps77
    go_wp2
    go_ret
    exact ⟨by rw [← HX.out]; rfl, HK.out⟩

theorem size_rest : (Tryz.prog.info? 199).map (·.size) = some 6 := by kernel_rfl
set_option maxRecDepth 100000 in
set_option maxHeartbeats 1600000 in
theorem restOf_any (o : Opr) (dA gA : Option Addr) (dc gc : Nat) (w : World) : Calls Tryz.prog 144 #[.agg (o.cells dA dc gA gc)] w (OfPost w (.agg (restC o.id o.ref o.text o.site))) := by
  obtain ⟨⟨ds, dq⟩, deps, kind, ⟨it, is⟩, ⟨rt, rs⟩, text, gone, site⟩ := o
  unfold Opr.cells restC
  simp only
  go_enter Tryz.func144, Tryz.ntmps144
  go_wp2
  exact bodyPost_ret (results_cell_row (show Tryz.f144.results = #[.cell 2 199] by kernel_rfl) _ _ (w.heap.size + 1) 199 #[.int .i64 it, .int .i64 is, .int .i64 rt, .int .i64 rs, .string text, .int .i64 site] (0, 0) _ rfl ((Box.new _ _ _).at_eq (by simp)) Tryz.underlying199 rfl (size_rest.trans rfl)) rfl ⟨rfl, ((Kept.refl _ _).alloc _).alloc _⟩
end Go.Proofs.YtnajbkccaclkcaaGreat

namespace Go.Proofs.YtnajbkccaclkcaaGreat
open Go Go.RowKit

theorem run_eqFields_idd (d : Nat) (a b c e : Int) (W : World) : (Op.eqFields (d + 2) #[.int .i64 a, .int .i64 b] #[.int .i64 c, .int .i64 e] (Tryz.prog.fieldsOf 61).toList).run Tryz.prog W = .ok (decide (a = c ∧ b = e)) W := by
  have hf : (Tryz.prog.fieldsOf 61).toList.map (fun f => (decide (f.name = "_"), f.type, f.offset)) = [(false, 3, 0), (false, 3, 1)] := by kernel_rfl
  generalize (Tryz.prog.fieldsOf 61).toList = fs at hf ⊢
  have hl : fs.length = 2 := by have := congrArg List.length hf; simpa using this
  obtain ⟨f0, f1, rfl⟩ : ∃ f0 f1, fs = [f0, f1] := ⟨fs[0], fs[1], List.ext_getElem (by simp [hl]) fun i h1 h2 => by
    match i, h2 with
    | 0, _ => rfl
    | 1, _ => rfl⟩
  · simp only [List.map_cons, List.map_nil, List.cons.injEq, Prod.mk.injEq, decide_eq_false_iff_not, and_true] at hf
    obtain ⟨⟨n0, t0, o0⟩, n1, t1, o1⟩ := hf
    have hu := Tryz.underlying3
    simp [Op.eqFields, n0, n1, t0, t1, o0, o1, run_part_int _ 0 a W (show #[Value.int .i64 a, .int .i64 b][0]? = _ from rfl), run_part_int _ 0 c W (show #[Value.int .i64 c, .int .i64 e][0]? = _ from rfl), run_part_int _ 1 b W (show #[Value.int .i64 a, .int .i64 b][1]? = _ from rfl), run_part_int _ 1 e W (show #[Value.int .i64 c, .int .i64 e][1]? = _ from rfl), run_equalIn_int W (d + 1) 3 .i64 .i64 _ _ hu]
    by_cases h1 : a = c <;> by_cases h2 : b = e <;> simp [h1, h2]
theorem run_part_id (xs : Array Value) (k : Nat) (a b : Int) (W : World) (h : xs.extract k (k + 2) = #[.int .i64 a, .int .i64 b]) : (part 61 xs k).run Tryz.prog W = .ok (.agg #[.int .i64 a, .int .i64 b]) W := by
  have hu : Tryz.prog.underlying 61 = some (.struct (Tryz.prog.fieldsOf 61)) := by kernel_rfl
  have hz := size_ID
  cases hi : Tryz.prog.info? 61 with
  | none => rw [hi] at hz; cases hz
  | some i =>
    rw [hi] at hz
    have hz' : i.size = 2 := by simpa using hz
    simp [part, isAgg, run_underlying hu, sizeOf, typeInfo, hi, hz', h]
theorem run_part_str (xs : Array Value) (k : Nat) (s : ByteArray) (W : World) (h : xs[k]? = some (.string s)) : (part 9 xs k).run Tryz.prog W = .ok (.string s) W := by
  simp [part, isAgg, run_underlying Tryz.underlying9, h]
theorem run_equalIn_id (d : Nat) (a b c e : Int) (W : World) : (Op.equalIn (d + 3) 61 (.agg #[.int .i64 a, .int .i64 b]) (.agg #[.int .i64 c, .int .i64 e])).run Tryz.prog W = .ok (decide (a = c ∧ b = e)) W := by
  have hu : Tryz.prog.underlying 61 = some (.struct (Tryz.prog.fieldsOf 61)) := by kernel_rfl
  rw [run_equalIn_struct _ _ _ _ _ hu (by kernel_rfl), run_eqFields_idd]
/-- Are two rests alike? -/
def sameRest (i r : Idt) (t : ByteArray) (s : Int) (i' r' : Idt) (t' : ByteArray) (s' : Int) : Bool := decide (i = i') && (decide (r = r') && (decide (t = t') && decide (s = s')))
theorem id_dec (a b : Idt) : decide (a.time = b.time ∧ a.site = b.site) = decide (a = b) := by
  obtain ⟨t, s⟩ := a
  obtain ⟨t', s'⟩ := b
  simp
theorem str_dec (a b : ByteArray) : (a.toList == b.toList) = decide (a = b) := by
  by_cases h : a = b
  · subst h; simp
  · rw [decide_eq_false h, ← beq_toListBytes]
    obtain ⟨xs⟩ := a
    obtain ⟨ys⟩ := b
    have h' : ¬ xs = ys := fun e => h (by rw [e])
    show (xs == ys) = false
    simpa using h'
set_option maxHeartbeats 3200000 in
theorem run_eqFields_rest (i r : Idt) (t : ByteArray) (s : Int) (i' r' : Idt) (t' : ByteArray) (s' : Int) (W : World) :
    (Op.eqFields 9999 (restC i r t s) (restC i' r' t' s') (Tryz.prog.fieldsOf 199).toList).run Tryz.prog W = .ok (sameRest i r t s i' r' t' s') W := by
  have hf : (Tryz.prog.fieldsOf 199).toList.map (fun f => (decide (f.name = "_"), f.type, f.offset)) = [(false, 61, 0), (false, 61, 2), (false, 9, 4), (false, 3, 5)] := by kernel_rfl
  generalize (Tryz.prog.fieldsOf 199).toList = fs at hf ⊢
  have hl : fs.length = 4 := by have := congrArg List.length hf; simpa using this
  obtain ⟨f0, f1, f2, f3, rfl⟩ : ∃ f0 f1 f2 f3, fs = [f0, f1, f2, f3] := ⟨fs[0], fs[1], fs[2], fs[3], List.ext_getElem (by simp [hl]) fun i h1 h2 => by
    match i, h2 with
    | 0, _ => rfl
    | 1, _ => rfl
    | 2, _ => rfl
    | 3, _ => rfl⟩
  simp only [List.map_cons, List.map_nil, List.cons.injEq, Prod.mk.injEq, decide_eq_false_iff_not, and_true] at hf
  obtain ⟨⟨n0, t0, o0⟩, ⟨n1, t1, o1⟩, ⟨n2, t2, o2⟩, n3, t3, o3⟩ := hf
  have hu := Tryz.underlying3
  have hs := Tryz.underlying9
  have e0 : ∀ (i r : Idt) (t : ByteArray) (s : Int), (part 61 (restC i r t s) 0).run Tryz.prog W = .ok (.agg #[.int .i64 i.time, .int .i64 i.site]) W := fun i r t s => run_part_id _ 0 _ _ W rfl
  have e2 : ∀ (i r : Idt) (t : ByteArray) (s : Int), (part 61 (restC i r t s) 2).run Tryz.prog W = .ok (.agg #[.int .i64 r.time, .int .i64 r.site]) W := fun i r t s => run_part_id _ 2 _ _ W rfl
  have e4 : ∀ (i r : Idt) (t : ByteArray) (s : Int), (part 9 (restC i r t s) 4).run Tryz.prog W = .ok (.string t) W := fun i r t s => run_part_str _ 4 _ W rfl
  have e5 : ∀ (i r : Idt) (t : ByteArray) (s : Int), (part 3 (restC i r t s) 5).run Tryz.prog W = .ok (.int .i64 s) W := fun i r t s => run_part_int _ 5 _ W rfl
  have c0 := run_equalIn_id 9996 i.time i.site i'.time i'.site W
  have c2 := run_equalIn_id 9996 r.time r.site r'.time r'.site W
  have c4 := run_equalIn_string (P := Tryz.prog) W 9998 9 t t' hs
  have c5 := run_equalIn_int (P := Tryz.prog) W 9998 3 .i64 .i64 s s' hu
  rw [id_dec] at c0 c2
  rw [str_dec] at c4
  unfold sameRest
  generalize decide (i = i') = b0 at c0 ⊢
  generalize decide (r = r') = b2 at c2 ⊢
  generalize decide (t = t') = b4 at c4 ⊢
  have c5' : (Op.equalIn (9998 + 1) 3 (.int .i64 s) (.int .i64 s')).run Tryz.prog W = .ok (decide (s = s')) W := by rw [c5]; rfl
  generalize decide (s = s') = b5 at c5' ⊢
  cases b0 <;> cases b2 <;> cases b4 <;> cases b5 <;> simp [Op.eqFields, n0, n1, n2, n3, t0, t1, t2, t3, o0, o1, o2, o3, e0, e2, e4, e5, c0, c2, c4, c5']
theorem eql_rest (i r : Idt) (t : ByteArray) (s : Int) (i' r' : Idt) (t' : ByteArray) (s' : Int) (W : World) :
    (binOp .eql 199 (.agg (restC i r t s)) (.agg (restC i' r' t' s'))).run Tryz.prog W = .ok (.bool (sameRest i r t s i' r' t' s')) W := by
  have hu : Tryz.prog.underlying 199 = some (.struct (Tryz.prog.fieldsOf 199)) := by kernel_rfl
  rw [run_eql_struct, run_equalIn_struct _ _ _ _ _ hu (by kernel_rfl), run_eqFields_rest, Result.andThen_ok]
end Go.Proofs.YtnajbkccaclkcaaGreat

namespace Go.Proofs.YtnajbkccaclkcaaGreat
open Go Go.RowKit

theorem when_any (so : Bool) (e : Int) (w : World) : Calls Tryz.prog 46 #[.bool so, .int .i64 e] w fun r w' => r = .returned (.int .i64 (if so then e else 0)) ∧ w' = w := by
  cases so with
  | true =>
    go_enter Tryz.func46, Tryz.ntmps46
    go_wp2_with (fail)
    go_ret
    exact ⟨rfl, rfl⟩
  | false =>
    go_enter Tryz.func46, Tryz.ntmps46
    go_wp2_with (fail)
    go_ret
    exact ⟨rfl, rfl⟩
/-- The first of some errors. -/
def firstE : List Int → Int
  | [] => 0
  | e :: l => if e = 0 then firstE l else e
set_option maxRecDepth 100000 in
theorem first_any (A : Option Addr) (l : List Int) (c : Nat) (w : World) (hl : CellsAt w A (ints l)) (hn : l.length ≤ 1000000) :
    Calls Tryz.prog 56 #[.slice A l.length c] w fun r w' => r = .returned (.int .i64 (firstE l)) ∧ w' = w := by
  obtain ⟨N, hN⟩ : ∃ N, l.length = N := ⟨_, rfl⟩
  have HL := Lib.hid hl
  have HN := Lib.hid hN
  rw [hN] at hn ⊢
  clear hl hN
  go_enter Tryz.func56, Tryz.ntmps56
  go_wp2_with (fail)
  go_loopw [7] (fun i wr => ∃ k : Nat, i = .int .i64 k ∧ k ≤ N ∧ wr = w ∧ firstE l = firstE (l.drop k)) (fun i _ => N - (intOf i).toNat)
  case atStart => exact ⟨0, rfl, Nat.zero_le _, rfl, rfl⟩
  case round =>
    obtain ⟨k, rfl, hk, hw, hf⟩ := hrel
    subst hw
    have HF := Lib.hid hf
    clear hf
    by_cases hlt : k < N
    · have hin : (k : Int) < (N : Int) := by omega
      have hkl : k < l.length := by rw [HN.out]; exact hlt
      obtain ⟨b, f, rfl, hc⟩ := ints_cell HL.out (by omega)
      have c1 := hc k hkl
      have hd := List.drop_eq_getElem_cons hkl
      obtain ⟨x, hx⟩ : ∃ x, l[k] = x := ⟨_, rfl⟩
      rw [hx] at c1 hd
      have HD := Lib.hid (HF.out.trans (congrArg firstE hd))
      clear hc hd hx
      by_cases h0 : x = 0
      · subst h0
        have HD2 := Lib.hid (HD.out.trans (if_pos rfl))
        clear HD
        go_wp2_with (fail)
        go_roundw
        case rel => exact ⟨k + 1, by go_num, by omega, by trivial, HD2.out⟩
        case measure => simp [intOf]; omega
      · have b1 : (x != 0) = true := by simp [h0]
        have b2 : (x == 0) = false := by simp [h0]
        have HD2 := Lib.hid (HD.out.trans (if_neg h0))
        clear HD
        go_wp2_with (fail)
        go_ret
        exact ⟨ret_int HD2.out.symm, rfl⟩
    · have hin : ¬ (k : Int) < (N : Int) := by omega
      go_wp2_with (fail)
      go_ret
      rw [HF.out, List.drop_eq_nil_of_le (by rw [HN.out]; omega)]
      exact ⟨rfl, rfl⟩
theorem after_zero (i : Idt) : afterI i 0 = if okId i = true then i else noId := by
  unfold afterI
  by_cases h : okId i = true
  · have h' := (okId_iff i).1 h
    rw [if_pos ⟨h, by omega, by omega⟩, if_pos h]
    simp
  · rw [if_neg (fun e => h e.1), if_neg h]
set_option maxRecDepth 100000 in
theorem may_any (i : Idt) (w : World) : Calls Tryz.prog 88 #[idV i] w (BoolPost w (okId i)) := by
  obtain ⟨t, s⟩ := i
  have HA := Lib.hid (fun W => After_any ⟨t, s⟩ 0 W ⟨by decide, by decide⟩)
  have HK := Lib.hid ((Kept.refl (fun _ => False) w).alloc (.cells #[.int .i64 t, .int .i64 s] 61))
  cases hok : okId ⟨t, s⟩ with
  | true =>
    have he := (after_zero ⟨t, s⟩).trans (if_pos hok)
    have h1 := (okId_iff ⟨t, s⟩).1 hok
    have ht : ¬ t = 0 := by have : 1 ≤ t := h1.1; omega
    have bt : (t == 0) = false := by simp [ht]
    rw [he] at HA
    clear he h1 hok
    unfold idV
    go_enter Tryz.func88, Tryz.ntmps88
    go_wp2_with (fail)
    refine (HA.out _).mono ?_
    unfold IdPost idV
    rintro r w1 ⟨rfl, hk⟩
    have HK1 := Lib.hid (HK.out.trans hk fun _ _ e => e)
    clear hk
    go_wp2_with (fail)
    go_ret
    exact ⟨rfl, HK1.out⟩
  | false =>
    have he := (after_zero ⟨t, s⟩).trans (if_neg (by rw [hok]; decide))
    rw [he] at HA
    clear he hok
    unfold idV
    go_enter Tryz.func88, Tryz.ntmps88
    go_wp2_with (fail)
    refine (HA.out _).mono ?_
    unfold IdPost idV noId
    rintro r w1 ⟨rfl, hk⟩
    have HK1 := Lib.hid (HK.out.trans hk fun _ _ e => e)
    clear hk
    go_wp2_with (fail)
    go_ret
    exact ⟨rfl, HK1.out⟩
theorem cmpId_lt (a b : Idt) : cmpId a b < 0 ↔ ltId a b := by
  unfold cmpId cmpI ltId
  split <;> rename_i h <;> (repeat' split) <;> (try simp_all) <;> omega
set_option maxRecDepth 100000 in
theorem lower_any (a b : Idt) (w : World) : Calls Tryz.prog 63 #[idV a, idV b] w (BoolPost w (decide (ltId a b))) := by
  obtain ⟨t, s⟩ := a
  obtain ⟨t', s'⟩ := b
  have HC := Lib.hid (fun W => Compare_any ⟨t, s⟩ ⟨t', s'⟩ W)
  have HI := Lib.hid (cmpId_lt ⟨t, s⟩ ⟨t', s'⟩)
  obtain ⟨x, hx⟩ : ∃ x, cmpId ⟨t, s⟩ ⟨t', s'⟩ = x := ⟨_, rfl⟩
  rw [hx] at HC HI
  clear hx
  have HK := Lib.hid (((Kept.refl (fun _ => False) w).alloc (.cells #[.int .i64 t, .int .i64 s] 61)).alloc (.cells #[.int .i64 t', .int .i64 s'] 61))
  unfold idV at *
  go_enter Tryz.func63, Tryz.ntmps63
  go_wp2_with (fail)
  refine (HC.out _).mono ?_
  unfold IntPost
  rintro r w1 ⟨rfl, hk⟩
  have HK1 := Lib.hid (HK.out.trans hk fun _ _ e => e)
  clear hk
  go_wp2_with (fail)
  go_ret
  exact ⟨ret_bool (by rw [decide_eq_decide]; exact HI.out), HK1.out⟩
/-- Do numbers rise, sites all? -/
def risFrom (last : Int) : List Int → Bool
  | [] => true
  | n :: l => if n ≤ last ∨ 16 < n then false else risFrom n l
set_option maxRecDepth 100000 in
theorem rising_any (A : Option Addr) (l : List Int) (c : Nat) (w : World) (hl : CellsAt w A (ints l)) (hn : l.length ≤ 1000000) :
    Calls Tryz.prog 64 #[.slice A l.length c] w fun r w' => r = .returned (.bool (risFrom 0 l)) ∧ w' = w := by
  obtain ⟨N, hN⟩ : ∃ N, l.length = N := ⟨_, rfl⟩
  have HL := Lib.hid hl
  have HN := Lib.hid hN
  rw [hN] at hn ⊢
  clear hl hN
  go_enter Tryz.func64, Tryz.ntmps64
  go_wp2_with (fail)
  go_loopw [3, 8] (fun v i wr => ∃ (k : Nat) (last : Int), v = .int .i64 last ∧ i = .int .i64 k ∧ k ≤ N ∧ wr = w ∧ risFrom 0 l = risFrom last (l.drop k)) (fun _ i _ => N - (intOf i).toNat)
  case atStart => exact ⟨0, 0, rfl, rfl, Nat.zero_le _, rfl, rfl⟩
  case round =>
    obtain ⟨k, last, rfl, rfl, hk, hw, hf⟩ := hrel
    subst hw
    have HF := Lib.hid hf
    clear hf
    by_cases hlt : k < N
    · have hin : (k : Int) < (N : Int) := by omega
      have hkl : k < l.length := by rw [HN.out]; exact hlt
      obtain ⟨b, f, rfl, hc⟩ := ints_cell HL.out (by omega)
      have c1 := hc k hkl
      have hd := List.drop_eq_getElem_cons hkl
      obtain ⟨x, hx⟩ : ∃ x, l[k] = x := ⟨_, rfl⟩
      rw [hx] at c1 hd
      have HD := Lib.hid (HF.out.trans (congrArg (risFrom last) hd))
      clear hc hd hx
      by_cases h1 : x ≤ last
      · have HD2 := Lib.hid (HD.out.trans (if_pos (.inl h1)))
        clear HD
        go_wp2_with (fail)
        go_ret
        exact ⟨ret_bool HD2.out.symm, rfl⟩
      · by_cases h2 : x > 16
        · have HD2 := Lib.hid (HD.out.trans (if_pos (.inr h2)))
          clear HD
          go_wp2_with (fail)
          go_ret
          exact ⟨ret_bool HD2.out.symm, rfl⟩
        · have HD2 := Lib.hid (HD.out.trans (if_neg (by omega)))
          clear HD
          go_wp2_with (fail)
          go_roundw
          case rel => exact ⟨k + 1, x, rfl, by go_num, by omega, by trivial, HD2.out⟩
          case measure => simp [intOf]; omega
    · have hin : ¬ (k : Int) < (N : Int) := by omega
      go_wp2_with (fail)
      go_ret
      rw [HF.out, List.drop_eq_nil_of_le (by rw [HN.out]; omega)]
      exact ⟨rfl, rfl⟩
/-- May a number be a rune? -/
def isRuneB (r : Int) : Bool := Utf8.valid r
theorem ofNat_inj {a b : Nat} (ha : a < 256) (hb : b < 256) (h : UInt8.ofNat a = UInt8.ofNat b) : a = b := by
  have := congrArg UInt8.toNat h
  simpa [Nat.mod_eq_of_lt ha, Nat.mod_eq_of_lt hb] using this
theorem encode_bad (r : Int) : Utf8.encode r = Utf8.encode 65533 ↔ (isRuneB r = false ∨ r = 65533) := by
  unfold isRuneB
  have hb : Utf8.encode 65533 = ⟨#[UInt8.ofNat 239, UInt8.ofNat 191, UInt8.ofNat 189]⟩ := by decide
  rw [hb]
  constructor
  · intro h
    cases hv : Utf8.valid r with
    | false => exact .inl rfl
    | true =>
      right
      have hr : 0 ≤ r ∧ r ≤ 1114111 := by
        unfold Utf8.valid at hv
        simp at hv
        omega
      obtain ⟨n, rfl⟩ : ∃ n : Nat, r = n := ⟨r.toNat, by omega⟩
      unfold Utf8.encode at h
      simp only [hv, if_true, Int.toNat_natCast] at h
      split at h
      · have := congrArg (fun x : ByteArray => x.data.size) h
        simp at this
      · split at h
        · have := congrArg (fun x : ByteArray => x.data.size) h
          simp at this
        · split at h
          · have h0 := congrArg (fun x : ByteArray => x.data.toList) h
            simp only [List.cons.injEq] at h0
            obtain ⟨e0, e1, e2, -⟩ := h0
            have f0 := ofNat_inj (by omega) (by omega) e0
            have f1 := ofNat_inj (by omega) (by omega) e1
            have f2 := ofNat_inj (by omega) (by omega) e2
            omega
          · have := congrArg (fun x : ByteArray => x.data.size) h
            simp at this
  · rintro (h | rfl)
    · unfold Utf8.encode
      rw [h]
      simp only [Bool.false_eq_true, if_false]
      decide
    · exact hb
theorem Encode_any (r : Int) (w : World) : Calls Tryz.prog 105 #[.int .i32 r] w fun e w' => e = .returned (.string (Utf8.encode r)) ∧ w' = w := by
  go_enter Tryz.func105, Tryz.ntmps105
  go_wp2_with (fail)
  go_ret
  exact ⟨rfl, rfl⟩
set_option maxRecDepth 100000 in
theorem isRune_any (r : Int) (w : World) : Calls Tryz.prog 89 #[.int .i32 r] w fun e w' => e = .returned (.bool (isRuneB r)) ∧ w' = w := by
  have HE := Lib.hid (fun x W => Encode_any x W)
  by_cases h : r = 65533
  · subst h
    go_enter Tryz.func89, Tryz.ntmps89
    go_wp2_with (fail)
    go_ret
    exact ⟨rfl, rfl⟩
  · have b1 : (r == 65533) = false := by simp [h]
    have hi := encode_bad r
    cases hb : isRuneB r with
    | true =>
      rw [hb] at hi
      have hne : ¬ Utf8.encode r = Utf8.encode 65533 := fun e => by rcases hi.1 e with e | e; cases e; exact h e
      obtain ⟨x, hx⟩ : ∃ x, Utf8.encode r = x := ⟨_, rfl⟩
      obtain ⟨y, hy⟩ : ∃ y, Utf8.encode 65533 = y := ⟨_, rfl⟩
      rw [hx, hy] at hne
      have b2 : (x.toList == y.toList) = false := by rw [str_dec]; exact decide_eq_false hne
      have H1 := Lib.hid (fun W => Encode_any r W)
      have H2 := Lib.hid (fun W => Encode_any 65533 W)
      rw [hx] at H1
      rw [hy] at H2
      clear hx hy hi hb HE hne
      go_enter Tryz.func89, Tryz.ntmps89
      go_wp2_with (fail)
      refine (H1.out _).mono ?_
      rintro e w1 ⟨rfl, rfl⟩
      go_wp2_with (fail)
      refine (H2.out _).mono ?_
      rintro e w1 ⟨rfl, rfl⟩
      go_wp2_with (fail)
      go_ret
      exact ⟨rfl, rfl⟩
    | false =>
      rw [hb] at hi
      have he : Utf8.encode r = Utf8.encode 65533 := hi.2 (.inl rfl)
      obtain ⟨y, hy⟩ : ∃ y, Utf8.encode 65533 = y := ⟨_, rfl⟩
      have H1 := Lib.hid (fun W => Encode_any r W)
      have H2 := Lib.hid (fun W => Encode_any 65533 W)
      rw [he, hy] at H1
      rw [hy] at H2
      have b2 : (y.toList == y.toList) = true := by rw [str_dec]; exact decide_eq_true rfl
      clear he hy hi hb HE
      go_enter Tryz.func89, Tryz.ntmps89
      go_wp2_with (fail)
      refine (H1.out _).mono ?_
      rintro e w1 ⟨rfl, rfl⟩
      go_wp2_with (fail)
      refine (H2.out _).mono ?_
      rintro e w1 ⟨rfl, rfl⟩
      go_wp2_with (fail)
      go_ret
      exact ⟨rfl, rfl⟩
end Go.Proofs.YtnajbkccaclkcaaGreat
