/- Operations as plain data: which may be one. No program. · Laws of append in the words of Kept: one for any source (nil let in), one for a source just built. No condition beyond the sizes. · The walks of stamp.is, After, last, Compare. Conditions: numbers are those of Go's int. -/
import Derived.Test.YtnajbkccaclkcaaGreatIM0
import Derived.Test.YtnajbkccaclkcaaGreatIM2
import Derived.Laws.AppendOwnNone
import Derived.Laws.Tables
import Derived.Laws.Rows
import Derived.Deep.RegionLaw
import Derived.Deep.RegionHeld3
import Derived.Deep.CutBlock
import Derived.Deep.AppendLies
import Derived.Maps.AppendAt
import Derived.Lib.SmallJoins
namespace Go.Proofs.YtnajbkccaclkcaaGreat
open Go

structure Opr where
  dot : Dt
  deps : List Dt
  kind : Int
  id : Idt
  ref : Idt
  text : ByteArray
  gone : List Rn
  site : Int
/-- The cells of an operation whose lists lie at dA and gA. -/
def Opr.cells (o : Opr) (dA : Option Addr) (dc : Nat) (gA : Option Addr) (gc : Nat) : Array Value :=
  #[.int .i64 o.dot.site, .int .i64 o.dot.seq, .slice dA o.deps.length dc, .int .i64 o.kind, .int .i64 o.id.time, .int .i64 o.id.site, .int .i64 o.ref.time, .int .i64 o.ref.site, .string o.text, .slice gA o.gone.length gc, .int .i64 o.site]
/-- The cells of what can be compared, beside what all kinds have. -/
def restC (id ref : Idt) (text : ByteArray) (site : Int) : Array Value := #[.int .i64 id.time, .int .i64 id.site, .int .i64 ref.time, .int .i64 ref.site, .string text, .int .i64 site]
end Go.Proofs.YtnajbkccaclkcaaGreat

namespace Go.Proofs.YtnajbkccaclkcaaGreat
open Go Go.RowKit

/-- A slice type and its element type, as the program has them. -/
structure Elt (P : Program) (t e : TypeId) (size bytes : Nat) : Prop where
  und : P.underlying t = some (.slice e)
  info : ∃ i z, P.info? e = some i ∧ i.zero = some z ∧ i.size = size ∧ i.bytes = bytes ∧ z.cells.size = size
  pos : 0 < size
  posb : 0 < bytes
theorem Elt.of {P : Program} {t e : TypeId} {size bytes : Nat} {z : Value} (hu : P.underlying t = some (.slice e)) (h : (P.info? e).map (fun i => (i.zero, i.size, i.bytes)) = some (some z, size, bytes)) (hz : z.cells.size = size) (h0 : 0 < size) (h1 : 0 < bytes) : Elt P t e size bytes := by
  obtain ⟨i, hi, a, b, c⟩ := info_parts h
  exact ⟨hu, ⟨i, z, hi, a, b, c, hz⟩, h0, h1⟩
/-- Where a slice may lie behind a step from w: where v lay, or in a new block. -/
def Goes (w : World) (v v' : Value) : Prop := ∀ k, v'.ownBlock = some k → v.ownBlock = some k ∨ w.heap.size ≤ k
theorem Goes.refl (w : World) (v : Value) : Goes w v v := fun _ h => .inl h
theorem Goes.trans {w w1 : World} {a b c : Value} (h : Goes w a b) (h' : Goes w1 b c) (hs : w.heap.size ≤ w1.heap.size) : Goes w a c := fun k hk => (h' k hk).elim (h k) fun e => .inr (Nat.le_trans hs e)
theorem Goes.owns {w : World} {a b : Value} (h : Goes w a b) : ∀ k, k < w.heap.size → b.ownBlock = some k → a.ownBlock = some k := fun k hk e => (h k e).elim id fun e' => absurd hk (by omega)
theorem own_shape {w : World} {base : Nat} {e : TypeId} {size n : Nat} {v : Value} {xs : List Value} (h : w.ownsRow base e size v n xs) : ∃ A c, v = .slice A n c := by
  rcases Go.Joins.ownsRow_forms h with ⟨rfl, h0⟩ | ⟨g, cap, rfl⟩
  · exact ⟨none, 0, by rw [h0]⟩
  · exact ⟨_, _, rfl⟩
theorem Kept.of_grown {w w' : World} {row : Option Nat} (h : w.grownBy w' row) : Kept (fun k => row = some k) w w' := ⟨h.os, h.tape, h.output, h.size, fun k hk hne => h.block k hk (fun e => hne e.symm)⟩

section
variable {P : Program} {w : World} {t e : TypeId} {size bytes : Nat} {ops : Array Oper} {rest : List Oper} {o : Oper} {a : Act} {Q : Exit → Act → World → Prop}
theorem wpList_append_kit (E : Elt P t e size bytes) (hgd : o.guard = none) (s x : Operand) (ho : o.op = .call { callee := .builtin .append, args := #[s, x], argTypes := #[t, t] })
    (base : Nat) (v : Value) (n : Nat) (xs : List Value) (hs : a.eval s = v) (hown : w.ownsRow base e size v n xs)
    (A : Option Addr) (m c : Nat) (news : List Value) (hx : a.eval x = .slice A m c) (hA : A = none → m = 0 ∧ c = 0) (hl : news.length = m * size)
    (hnews : ∀ j u, news[j]? = some u → ∃ ad, A = some ad ∧ w.cell? (ad.add j) = some u) (h1 : ∀ u ∈ news, u.oneCell' = true)
    (hbytes : (n + m) * bytes ≤ 140737488355328) (hbase : base ≤ w.heap.size)
    (h : ∀ A' c' w', Hid (w'.ownsRow base e size (.slice A' (n + m) c') (n + m) (xs ++ news)) → Hid (Kept (fun k => v.ownBlock = some k) w w') → Hid (Goes w v (.slice A' (n + m) c')) → wpList P ops Q rest (a.put o.dst (.slice A' (n + m) c')) w') :
    wpList P ops Q (o :: rest) a w := by
  obtain ⟨i, z, hi, hz, hsz, hby, hzs⟩ := E.info
  cases A with
  | none =>
    obtain ⟨rfl, rfl⟩ := hA rfl
    obtain rfl : news = [] := List.eq_nil_of_length_eq_zero (by omega)
    obtain ⟨A', c', rfl⟩ := own_shape hown
    refine wpList_append_own_none hgd s x t ho base e i size E.und hi _ n xs hs hown hx ?_
    exact h A' c' w (by rw [List.append_nil]; exact hown) (Kept.refl _ _) (Goes.refl _ _)
  | some ad =>
    have hmax : n + m ≤ maxLen := by
      have := Nat.le_trans (Nat.le_mul_of_pos_right (n + m) E.posb) hbytes
      unfold maxLen
      omega
    refine wpList_append_own_at w hgd s x t ho base e i z size bytes E.und hi hz hsz hby hzs E.pos v n xs hs hown ad m c news hx hl (fun j u hj => ?_) h1 hmax hbytes hbase fun v' w' h2 h3 _ h5 => ?_
    · obtain ⟨ad', he, hc⟩ := hnews j u hj
      injection he with he
      subst he
      exact hc
    · obtain ⟨A', c', rfl⟩ := own_shape h2
      refine h A' c' w' h2 (Kept.of_grown h3 |>.more fun k _ e => e) fun k hk => ?_
      rcases h5 with h5 | h5
      · exact .inl (h5 ▸ hk)
      · right
        rw [h5] at hk
        injection hk with hk
        omega
/-- The same where the source was built just before. -/
theorem wpList_append_new {T : TypeId} {cs : Array Value} (E : Elt P t e size bytes) (hgd : o.guard = none) (s x : Operand) (ho : o.op = .call { callee := .builtin .append, args := #[s, x], argTypes := #[t, t] })
    (base : Nat) (v : Value) (n : Nat) (xs : List Value) (hs : a.eval s = v) (hown : w.ownsRow base e size v n xs)
    (m c : Nat) (hx : a.eval x = .slice (some ⟨w.heap.size, 0, none⟩) m c) (hl : cs.size = m * size) (h1 : cs.toList.all (·.oneCell') = true)
    (hbytes : (n + m) * bytes ≤ 140737488355328) (hbase : base ≤ w.heap.size)
    (h : ∀ A' c' w', Hid (w'.ownsRow base e size (.slice A' (n + m) c') (n + m) (xs ++ cs.toList)) → Hid (Kept (fun k => v.ownBlock = some k) w w') → Hid (Goes w v (.slice A' (n + m) c')) → wpList P ops Q rest (a.put o.dst (.slice A' (n + m) c')) w') :
    wpList P ops Q (o :: rest) a (w.alloc (.cells cs T)) := by
  refine wpList_append_kit E hgd s x ho base v n xs hs (hown.alloc _) (some ⟨w.heap.size, 0, none⟩) m c cs.toList hx (fun h => by cases h) (by simpa using hl) (fun j u hj => ⟨_, rfl, ?_⟩) (fun u hu => ?_) hbytes (by simp; omega) fun A' c' w' h2 h3 h4 => ?_
  · rw [add_none, (Box.new w T cs).cell j]
    simpa using hj
  · exact List.all_eq_true.1 h1 u hu
  · refine h A' c' w' h2 (((Kept.refl _ _).alloc _).trans h3 fun k _ e => e) fun k hk => (h4 k hk).imp_right fun h => ?_
    simp at h
    omega
/-- The first append to nil: a copy of the source. -/
theorem wpList_append_copy (E : Elt P t e size bytes) (hgd : o.guard = none) (s x : Operand) (ho : o.op = .call { callee := .builtin .append, args := #[s, x], argTypes := #[t, t] })
    (hs : a.eval s = .slice none 0 0)
    (A : Option Addr) (m c : Nat) (news : List Value) (hx : a.eval x = .slice A m c) (hA : A = none → m = 0 ∧ c = 0) (hl : news.length = m * size)
    (hnews : ∀ j u, news[j]? = some u → ∃ ad, A = some ad ∧ w.cell? (ad.add j) = some u) (h1 : ∀ u ∈ news, u.oneCell' = true)
    (hbytes : m * bytes ≤ 140737488355328)
    (h : ∀ A' c' w', Hid (w'.ownsRow w.heap.size e size (.slice A' m c') m news) → Hid (Kept (fun _ => False) w w') → wpList P ops Q rest (a.put o.dst (.slice A' m c')) w') :
    wpList P ops Q (o :: rest) a w := by
  refine wpList_append_kit E hgd s x ho w.heap.size _ 0 [] hs (World.ownsRow_nil _ _ _ _) A m c news hx hA hl hnews h1 (by rwa [Nat.zero_add]) (Nat.le_refl _) fun A' c' w' h2 h3 _ => ?_
  rw [Nat.zero_add] at h2 ⊢
  exact h A' c' w' h2 (h3.more fun k _ e => by cases e)
end
end Go.Proofs.YtnajbkccaclkcaaGreat

namespace Go.Proofs.YtnajbkccaclkcaaGreat
open Go Go.RowKit

def inI (x : Int) : Prop := -9223372036854775808 ≤ x ∧ x ≤ 9223372036854775807
def IdPost (w : World) (i : Idt) (e : Ending) (w' : World) : Prop := e = .returned (idV i) ∧ Kept (fun _ => False) w w'
theorem size_ID : (Tryz.prog.info? 61).map (·.size) = some 2 := by kernel_rfl
theorem ret_id {fn : Func} {w w' : World} {i : Idt} {g t : Nat} {a : Act} {x : Exit} (hx : x = .ret) (hr : fn.results = #[.cell t 61]) (ha : a.tmps.getD t undef = .pointer (some ⟨g, 0, none⟩)) (hb : Box w' g 61 #[.int .i64 i.time, .int .i64 i.site]) (hd : a.defers = []) (hk : Kept (fun _ => False) w w') :
    bodyPost Tryz.prog fn (IdPost w i) x a w' := by
  subst hx
  exact bodyPost_ret (results_cell_row hr _ _ g 61 #[.int .i64 i.time, .int .i64 i.site] (0, 0) _ ha hb Tryz.underlying61 rfl (size_ID.trans rfl)) hd ⟨rfl, hk⟩

set_option maxRecDepth 100000 in
set_option maxHeartbeats 1600000 in
theorem is_any (i : Idt) (w : World) : Calls Tryz.prog 113 #[idV i] w (BoolPost w (okId i)) := by
  obtain ⟨t, s⟩ := i
  have hk : Kept (fun _ => False) w (w.alloc (.cells #[.int .i64 t, .int .i64 s] 61)) := (Kept.refl _ _).alloc _
  have HK := Lib.hid hk
  have x0 : (w.alloc (.cells #[.int .i64 t, .int .i64 s] 61)).cell? ⟨w.heap.size, 0, none⟩ = some (.int .i64 t) := (Box.new w 61 #[.int .i64 t, .int .i64 s]).cell 0
  have x1 : (w.alloc (.cells #[.int .i64 t, .int .i64 s] 61)).cell? ⟨w.heap.size, 1, none⟩ = some (.int .i64 s) := (Box.new w 61 #[.int .i64 t, .int .i64 s]).cell 1
  clear hk
  unfold idV okId
  by_cases h1 : 1 ≤ t
  · by_cases h2 : t ≤ 2147483647
    · by_cases h3 : 1 ≤ s
      · by_cases h4 : s ≤ 16
        · have hd : decide (1 ≤ t ∧ t ≤ 2147483647 ∧ 1 ≤ s ∧ s ≤ 16) = true := by simp [h1, h2, h3, h4]
          rw [hd]
          clear hd
          go_enter Tryz.func113, Tryz.ntmps113
          go_wp2
          go_ret
          exact ⟨rfl, HK.out⟩
        · have hd : decide (1 ≤ t ∧ t ≤ 2147483647 ∧ 1 ≤ s ∧ s ≤ 16) = false := by simp [h4]
          have h4' : 16 < s := by omega
          rw [hd]
          clear hd
          go_enter Tryz.func113, Tryz.ntmps113
          go_wp2
          go_ret
          exact ⟨rfl, HK.out⟩
      · have hd : decide (1 ≤ t ∧ t ≤ 2147483647 ∧ 1 ≤ s ∧ s ≤ 16) = false := by simp [h3]
        have h3' : s < 1 := by omega
        rw [hd]
        clear hd
        go_enter Tryz.func113, Tryz.ntmps113
        go_wp2
        go_ret
        exact ⟨rfl, HK.out⟩
    · have hd : decide (1 ≤ t ∧ t ≤ 2147483647 ∧ 1 ≤ s ∧ s ≤ 16) = false := by simp [h2]
      have h2' : 2147483647 < t := by omega
      rw [hd]
      clear hd
      go_enter Tryz.func113, Tryz.ntmps113
      go_wp2
      go_ret
      exact ⟨rfl, HK.out⟩
  · have hd : decide (1 ≤ t ∧ t ≤ 2147483647 ∧ 1 ≤ s ∧ s ≤ 16) = false := by simp [h1]
    have h1' : t < 1 := by omega
    rw [hd]
    clear hd
    go_enter Tryz.func113, Tryz.ntmps113
    go_wp2
    go_ret
    exact ⟨rfl, HK.out⟩

set_option maxRecDepth 100000 in
set_option maxHeartbeats 1600000 in
theorem After_any (i : Idt) (n : Int) (w : World) (hn : inI n) : Calls Tryz.prog 104 #[idV i, .int .i64 n] w (IdPost w (afterI i n)) := by
  obtain ⟨lo, hi⟩ := hn
  have hk1 : Kept (fun _ => False) w (w.alloc (.cells #[.int .i64 i.time, .int .i64 i.site] 61)) := (Kept.refl _ _).alloc _
  have HK2 := Lib.hid (hk1.trans ((Kept.refl (fun _ => False) _).alloc (.cells #[.int .i64 0, .int .i64 0] 61)) fun _ _ e => e)
  have HB1 := Lib.hid ((Box.new w 61 #[.int .i64 i.time, .int .i64 i.site]).alloc (.cells #[.int .i64 0, .int .i64 0] 61))
  have HB2 := Lib.hid ((Box.new (w.alloc (.cells #[.int .i64 i.time, .int .i64 i.site] 61)) 61 #[.int .i64 0, .int .i64 0]).at_eq (show _ = w.heap.size + 1 by simp))
  clear hk1
  obtain ⟨x, hx⟩ : ∃ x, afterI i n = x := ⟨_, rfl⟩
  obtain ⟨b, hb⟩ : ∃ b, okId i = b := ⟨_, rfl⟩
  have HX := Lib.hid hx
  have HB := Lib.hid hb
  rw [hx]
  have hcase : (b = false ∧ x = noId) ∨ (b = true ∧ n < 0 ∧ x = noId) ∨ (b = true ∧ 0 ≤ n ∧ 2147483647 - i.time < n ∧ x = noId) ∨ (b = true ∧ 0 ≤ n ∧ n ≤ 2147483647 - i.time ∧ x = ⟨i.time + n, i.site⟩) := by
    rw [← hx]
    unfold afterI
    cases b with
    | false => exact .inl ⟨rfl, if_neg fun e => by rw [hb] at e; cases e.1⟩
    | true =>
      by_cases h1 : n < 0
      · exact .inr (.inl ⟨rfl, h1, if_neg fun e => by omega⟩)
      · by_cases h2 : 2147483647 - i.time < n
        · exact .inr (.inr (.inl ⟨rfl, by omega, h2, if_neg fun e => by omega⟩))
        · exact .inr (.inr (.inr ⟨rfl, by omega, by omega, if_pos ⟨hb, by omega, by omega⟩⟩))
  have hbd : b = true → 1 ≤ i.time ∧ i.time ≤ 2147483647 := fun e => by
    rw [e, okId_iff] at hb
    exact ⟨hb.1, hb.2.1⟩
  obtain ⟨t, s⟩ := i
  clear hx hb
  unfold idV at *
  simp only at HB1 HB2 HK2 hcase hbd ⊢
  rcases hcase with ⟨rfl, rfl⟩ | ⟨rfl, h1, rfl⟩ | ⟨rfl, h1, h2, rfl⟩ | ⟨rfl, h1, h2, rfl⟩
  · clear hbd
    go_enter Tryz.func104, Tryz.ntmps104
    go_wp2_with (fail)
    refine (is_any ⟨t, s⟩ _).mono ?_
    unfold BoolPost
    rw [HB.out]
    rintro e w3 ⟨rfl, hk⟩
    have HB1' := Lib.hid (HB1.out.kept hk id)
    have HB2' := Lib.hid (HB2.out.kept hk id)
    have HK3 := Lib.hid (HK2.out.trans hk fun _ _ e => e)
    have x0 : w3.cell? ⟨w.heap.size, 0, none⟩ = some (.int .i64 t) := HB1'.out.cell 0
    have y0 : w3.cell? ⟨w.heap.size + 1, 0, none⟩ = some (.int .i64 0) := HB2'.out.cell 0
    have y1 : w3.cell? ⟨w.heap.size + 1, 1, none⟩ = some (.int .i64 0) := HB2'.out.cell 1
    have g0 : w3.frozen? ⟨w.heap.size + 1, 0, none⟩ = false := HB2'.out.frozen 0
    have g1 : w3.frozen? ⟨w.heap.size + 1, 1, none⟩ = false := HB2'.out.frozen 1
    clear hk
    go_wp2
    exact ret_id (i := noId) (g := w.heap.size + 1) (t := 4) rfl rfl rfl ((HB2'.out.set 0 _).set 1 _) rfl (HK3.out.trans (((Kept.refl (fun k => k = w.heap.size + 1) _).at 0 _ (.inl rfl)).at 1 _ (.inl rfl)) fun k hlt e => by omega)
  iterate 2
    · obtain ⟨hb1, hb2⟩ := hbd rfl
      clear hbd
      go_enter Tryz.func104, Tryz.ntmps104
      go_wp2_with (fail)
      refine (is_any ⟨t, s⟩ _).mono ?_
      unfold BoolPost
      rw [HB.out]
      rintro e w3 ⟨rfl, hk⟩
      have HB1' := Lib.hid (HB1.out.kept hk id)
      have HB2' := Lib.hid (HB2.out.kept hk id)
      have HK3 := Lib.hid (HK2.out.trans hk fun _ _ e => e)
      have x0 : w3.cell? ⟨w.heap.size, 0, none⟩ = some (.int .i64 t) := HB1'.out.cell 0
      have y0 : w3.cell? ⟨w.heap.size + 1, 0, none⟩ = some (.int .i64 0) := HB2'.out.cell 0
      have y1 : w3.cell? ⟨w.heap.size + 1, 1, none⟩ = some (.int .i64 0) := HB2'.out.cell 1
      have g0 : w3.frozen? ⟨w.heap.size + 1, 0, none⟩ = false := HB2'.out.frozen 0
      have g1 : w3.frozen? ⟨w.heap.size + 1, 1, none⟩ = false := HB2'.out.frozen 1
      clear hk
      go_wp2
      exact ret_id (i := noId) (g := w.heap.size + 1) (t := 4) rfl rfl rfl ((HB2'.out.set 0 _).set 1 _) rfl (HK3.out.trans (((Kept.refl (fun k => k = w.heap.size + 1) _).at 0 _ (.inl rfl)).at 1 _ (.inl rfl)) fun k hlt e => by omega)
  · obtain ⟨hb1, hb2⟩ := hbd rfl
    clear hbd
    go_enter Tryz.func104, Tryz.ntmps104
    go_wp2_with (fail)
    refine (is_any ⟨t, s⟩ _).mono ?_
    unfold BoolPost
    rw [HB.out]
    rintro e w3 ⟨rfl, hk⟩
    have HB1' := Lib.hid (HB1.out.kept hk id)
    have HB2' := Lib.hid (HB2.out.kept hk id)
    have HK3 := Lib.hid (HK2.out.trans hk fun _ _ e => e)
    have x0 : w3.cell? ⟨w.heap.size, 0, none⟩ = some (.int .i64 t) := HB1'.out.cell 0
    have x1 : w3.cell? ⟨w.heap.size, 1, none⟩ = some (.int .i64 s) := HB1'.out.cell 1
    have f0 : w3.frozen? ⟨w.heap.size, 0, none⟩ = false := HB1'.out.frozen 0
    have y0 : w3.cell? ⟨w.heap.size + 1, 0, none⟩ = some (.int .i64 0) := HB2'.out.cell 0
    have y1 : w3.cell? ⟨w.heap.size + 1, 1, none⟩ = some (.int .i64 0) := HB2'.out.cell 1
    have g0 : w3.frozen? ⟨w.heap.size + 1, 0, none⟩ = false := HB2'.out.frozen 0
    have g1 : w3.frozen? ⟨w.heap.size + 1, 1, none⟩ = false := HB2'.out.frozen 1
    clear hk
    go_wp2
    exact ret_id (i := ⟨t + n, s⟩) (g := w.heap.size + 1) (t := 4) rfl rfl rfl (((HB2'.out.far (show w.heap.size + 1 ≠ w.heap.size by omega) _).set 0 _).set 1 _) rfl (HK3.out.trans ((((Kept.refl (fun k => k = w.heap.size ∨ k = w.heap.size + 1) _).at 0 _ (.inl (.inl rfl))).at 0 _ (.inl (.inr rfl))).at 1 _ (.inl (.inr rfl))) fun k hlt e => by omega)

set_option maxRecDepth 100000 in
set_option maxHeartbeats 1600000 in
theorem last_any (r : Rn) (w : World) (hc : inI r.count) : Calls Tryz.prog 153 #[rnV r] w (IdPost w (lastI r)) := by
  obtain ⟨lo, hi⟩ := hc
  have HK2 := Lib.hid (((Kept.refl (fun _ => False) w).alloc (.cells #[.int .i64 r.id.time, .int .i64 r.id.site, .int .i64 r.count] 68)).alloc (.cells #[.int .i64 0, .int .i64 0] 61))
  have hb1 := (Box.new w 68 #[.int .i64 r.id.time, .int .i64 r.id.site, .int .i64 r.count]).alloc (.cells #[.int .i64 0, .int .i64 0] 61)
  have hb2 := (Box.new (w.alloc (.cells #[.int .i64 r.id.time, .int .i64 r.id.site, .int .i64 r.count] 68)) 61 #[.int .i64 0, .int .i64 0]).at_eq (show _ = w.heap.size + 1 by simp)
  have HB2 := Lib.hid hb2
  obtain ⟨x, hx⟩ : ∃ x, lastI r = x := ⟨_, rfl⟩
  have hcase : (r.count < 1 ∧ x = noId) ∨ (1 ≤ r.count ∧ x = afterI r.id (r.count - 1)) := by
    rw [← hx]
    unfold lastI
    by_cases h : r.count < 1
    · exact .inl ⟨h, if_pos h⟩
    · exact .inr ⟨by omega, if_neg h⟩
  rw [hx]
  clear hx
  obtain ⟨⟨t, s⟩, c⟩ := r
  unfold rnV
  simp only at lo hi hb1 hb2 HB2 HK2 hcase ⊢
  rcases hcase with ⟨h1, rfl⟩ | ⟨h1, hx⟩
  · clear hb1 hb2
    go_enter Tryz.func153, Tryz.ntmps153
    go_wp2
    have e : (⟨w.heap.size + 1, 0, none⟩ : Addr) = ⟨w.heap.size + 1, 0, none⟩ := rfl
    exact ret_id (i := noId) (g := w.heap.size + 1) (t := 2) rfl rfl rfl HB2.out rfl HK2.out
  · have HX := Lib.hid hx
    have hb3 : Box ((w.alloc (.cells #[.int .i64 t, .int .i64 s, .int .i64 c] 68)).alloc (.cells #[.int .i64 0, .int .i64 0] 61)) w.heap.size 68 #[.int .i64 t, .int .i64 s, .int .i64 c] := hb1
    have HB1 := Lib.hid hb3
    clear hb1 hb2 hb3 hx
    go_enter Tryz.func153, Tryz.ntmps153
    go_wp2_with (fail)
    refine (After_any ⟨t, s⟩ (c - 1) _ ⟨by omega, by omega⟩).mono ?_
    unfold IdPost idV
    rw [← HX.out]
    rintro e w3 ⟨rfl, hk⟩
    have HB2' := Lib.hid (HB2.out.kept hk id)
    have HK3 := Lib.hid (HK2.out.trans hk fun _ _ e => e)
    have y0 : w3.cell? ⟨w.heap.size + 1, 0, none⟩ = some (.int .i64 0) := HB2'.out.cell 0
    have y1 : w3.cell? ⟨w.heap.size + 1, 1, none⟩ = some (.int .i64 0) := HB2'.out.cell 1
    have g0 : w3.frozen? ⟨w.heap.size + 1, 0, none⟩ = false := HB2'.out.frozen 0
    have g1 : w3.frozen? ⟨w.heap.size + 1, 1, none⟩ = false := HB2'.out.frozen 1
    clear hk
    go_wp2
    exact ret_id (i := x) (g := w.heap.size + 1) (t := 2) rfl rfl rfl ((HB2'.out.set 0 _).set 1 _) rfl (HK3.out.trans (((Kept.refl (fun k => k = w.heap.size + 1) _).at 0 _ (.inl rfl)).at 1 _ (.inl rfl)) fun k hlt e => by omega)
end Go.Proofs.YtnajbkccaclkcaaGreat
