/- The memory of NetOwn: told copies that are written over and gone on from. Conditions: as the structures say. -/
import Derived.Test.YtopcogogpbcbhaaNPair
import Derived.ArgAppend
import Derived.Deep.DeepAppendRoom
import Derived.Lib.OwnKind
import Derived.Laws.OwnMore
namespace Go.Proofs.Ytopcogogpbcbhaa
open Go Go.RowKit

theorem own_kinds {w : World} {b b' s s' n n' : Nat} {e e' : TypeId} {v v' : Value} {xs xs' : List Value} (h : w.ownsRow b e s v n xs) (h' : w.ownsRow b' e' s' v' n' xs') (hne : e ≠ e') : ∀ k, v.ownBlock = some k → v'.ownBlock ≠ some k := by
  intro k hk hk'
  rcases h.2 with ⟨rfl, _⟩ | ⟨g, cap, cur, rfl, _, hg, _⟩
  · cases hk
  · rcases h'.2 with ⟨rfl, _⟩ | ⟨g', cap', cur', rfl, _, hg', _⟩
    · cases hk'
    · simp only [Value.ownBlock, Option.some.injEq] at hk hk'
      subst hk hk'
      rw [hg] at hg'
      injection hg' with e1
      injection e1 with _ e2
      exact hne e2
theorem own_part {w : World} {b e s g cap n m : Nat} {xs ys : List Value} (hx : xs.length = n * s) (hn : n ≤ cap) (h : w.ownsRow b e s (.slice (some ⟨g, 0, none⟩) (n + m) cap) (n + m) (xs ++ ys)) : w.ownsRow b e s (.slice (some ⟨g, 0, none⟩) n cap) n xs := by
  rcases h.2 with ⟨h', _⟩ | ⟨g', cap', cur, h', hb, hg, hnc, hcm, hcs, htake⟩
  · cases h'
  · simp only [Value.slice.injEq, Option.some.injEq, Addr.mk.injEq, and_true, true_and] at h'
    obtain ⟨rfl, rfl⟩ := h'
    refine ⟨hx, .inr ⟨g, cap, cur, rfl, hb, hg, hn, hcm, hcs, ?_⟩⟩
    have e : List.take (n * s) (xs ++ ys) = xs := by rw [List.take_append_of_le_length (by omega), List.take_of_length_le (by omega)]
    have h2 := congrArg (List.take (n * s)) htake
    rw [List.take_take, Nat.min_eq_left (Nat.mul_le_mul_right _ (Nat.le_add_right _ _)), e] at h2
    exact h2
section
variable {P : Program} {w : World} {t e : TypeId} {size bytes : Nat} {ops : Array Oper} {rest : List Oper} {o : Oper} {a : Act} {Q : Exit → Act → World → Prop}
/-- An append of a value just built: the row as it was is owned on. -/
theorem wpList_append_row {T : TypeId} {cs : Array Value} (E : Elt P t e size bytes) (hgd : o.guard = none) (s x : Operand) (ho : o.op = .call { callee := .builtin .append, args := #[s, x], argTypes := #[t, t] })
    (base : Nat) (v : Value) (n : Nat) (xs : List Value) (hs : a.eval s = v) (hown : w.ownsRow base e size v n xs)
    (m c : Nat) (hx : a.eval x = .slice (some ⟨w.heap.size, 0, none⟩) m c) (hl : cs.size = m * size) (h1 : cs.toList.all (·.oneCell') = true)
    (hbytes : (n + m) * bytes ≤ 140737488355328) (hbase : base ≤ w.heap.size)
    (h : ∀ A' c' w', Hid (w'.ownsRow base e size (.slice A' (n + m) c') (n + m) (xs ++ cs.toList)) → Hid (Kept (fun k => v.ownBlock = some k) w w') → Hid (Goes w v (.slice A' (n + m) c')) →
      Hid (w'.ownsRow base e size v n xs) → wpList P ops Q rest (a.put o.dst (.slice A' (n + m) c')) w') :
    wpList P ops Q (o :: rest) a (w.alloc (.cells cs T)) := by
  obtain ⟨i, z, hi, hz, hsz, hby, hzs⟩ := E.info
  have hmax : n + m ≤ maxLen := by
    have := Nat.le_trans (Nat.le_mul_of_pos_right (n + m) E.posb) hbytes
    unfold maxLen
    omega
  have hnews : ∀ j u, cs.toList[j]? = some u → (w.alloc (.cells cs T)).cell? ((⟨w.heap.size, 0, none⟩ : Addr).add j) = some u := fun j u hj => by
    rw [add_none, (Box.new w T cs).cell j]
    simpa using hj
  have hone : ∀ u ∈ cs.toList, u.oneCell' = true := List.all_eq_true.1 h1
  have hk0 : Kept (fun _ => False) w (w.alloc (.cells cs T)) := (Kept.refl _ _).alloc _
  have grow : ∀ ao cap, v = .slice ao n cap → (ao = none → n = 0 ∧ cap = 0) → (∀ b, ao = some b → b = ⟨b.block, 0, none⟩) → cap < n + m → wpList P ops Q (o :: rest) a (w.alloc (.cells cs T)) := by
    rintro ao cap rfl hn hb hc
    refine wpList_append_grows _ hgd s x t ho e i z size bytes E.und hi hz hsz hby hzs E.pos ao n cap xs hs hn hown.1 (fun b hbb j u hj => ?_) ⟨w.heap.size, 0, none⟩ m c cs.toList hx (by simpa using hl) hnews hone hc hmax hbytes fun v' w' h2 h3 => ?_
    · have e1 := hb b hbb
      rw [e1]
      exact (hown.alloc _).cells (g := b.block) (by rw [hbb]; rfl) j u hj
    · obtain ⟨A', c', rfl⟩ := own_shape h2
      have hk : Kept (fun _ => False) w w' := (hk0.trans (Kept.of_grown h3) fun k _ e => by cases e)
      refine h A' c' w' (own_base h2 (by simp; omega)) (hk.more fun _ _ e => e.elim) (fun k hk => .inr ?_) (hk.own hown fun _ _ => id)
      have := (h2.lt k hk).1
      simp at this
      omega
  rcases hown.2 with ⟨rfl, rfl⟩ | ⟨g, cap, cur, rfl, hbg, hgh, hnc, hcm, hcs, htake⟩
  · rcases Nat.eq_zero_or_pos m with rfl | hm
    · obtain rfl : cs = #[] := Array.eq_empty_of_size_eq_zero (by omega)
      refine wpList_append_kit E hgd s x ho base _ 0 xs hs (hown.alloc _) (some ⟨w.heap.size, 0, none⟩) 0 c [] hx (fun h => by cases h) (by simp) (fun j u hj => by simp at hj) (by simp) hbytes (by simp; omega) fun A' c' w' h2 h3 h4 => ?_
      have hk : Kept (fun _ => False) w w' := hk0.trans h3 fun k _ e => by cases e
      refine h A' c' w' (by simpa using h2) (hk.more fun _ _ e => e.elim) (fun k hk => (h4 k hk).imp_right fun h => ?_) (hk.own hown fun _ _ => id)
      simp at h
      omega
    · exact grow none 0 rfl (fun _ => ⟨rfl, rfl⟩) (fun b h => by cases h) (by omega)
  · rcases Nat.lt_or_ge cap (n + m) with hc | hc
    · exact grow (some ⟨g, 0, none⟩) cap rfl (fun h => by cases h) (fun b h => by injection h with h; rw [← h]) hc
    · refine wpList_append_own_spare _ hgd s x t ho base e i size E.und hi hsz g n cap xs hs (hown.alloc _) ⟨w.heap.size, 0, none⟩ m c cs.toList hx (by simpa using hl) hnews hone hc fun w' h2 h3 => ?_
      have hk : Kept (fun k => (Value.slice (some ⟨g, 0, none⟩) n cap).ownBlock = some k) w w' := (hk0.more fun _ _ e => e.elim).trans (Kept.of_grown h3) fun k _ e => e
      exact h _ cap w' h2 hk (fun k hk => .inl hk) (own_part hown.1 hnc h2)
end
def Cc.dat (x : Cc) (d : List Int) : Cp := { x.c with data := d }
section
variable {w w' : World} {b lc : Nat} {L : Option Addr} {l : List Cc}
theorem CopAt.ne (h : CopAt w b L lc l) {i j : Nat} (hi : i < l.length) (hj : j < l.length) (hij : i ≠ j) : ∀ k, l[i].dV.ownBlock = some k → l[j].dV.ownBlock ≠ some k := by
  have := List.pairwise_iff_getElem.1 h.ap
  rcases Nat.lt_or_ge i j with h1 | h1
  · exact this i j hi hj h1
  · exact fun k e e' => this j i hj hi (by omega) k e' e
/-- One copy's bytes go on in other memory. -/
theorem CopAt.turn (h : CopAt w b L lc l) {k : Nat} (hk : k < l.length) (x : Cc) (hkk : Kept (fun j => l[k].dV.ownBlock = some j) w w') (hgo : Goes w l[k].dV x.dV) (ho : w'.ownsRow b 5 1 x.dV x.c.data.length (bys x.c.data)) (hr : w'.ownsRow b 44 6 (.slice L l.length lc) l.length (ccs (l.set k x))) : CopAt w' b L lc (l.set k x) := by
  have hap : ∀ i (hi : i < l.length), i ≠ k → ∀ j, l[i].dV.ownBlock = some j → x.dV.ownBlock ≠ some j := fun i hi hik j e e' => by
    rcases hgo j e' with e1 | e1
    · exact h.ne hi hk hik j e e1
    · have := ((h.d _ (List.getElem_mem hi)).lt j e).2; omega
  refine ⟨by rw [List.length_set]; exact hr, fun y hy => ?_, ?_⟩
  · obtain ⟨i, hi, rfl⟩ := List.getElem_of_mem hy
    simp only [List.length_set] at hi
    rw [List.getElem_set]
    split
    · exact ho
    · rename_i hne
      exact hkk.own (h.d _ (List.getElem_mem hi)) fun j e e' => h.ne hi hk (fun e => hne e.symm) j e e'
  · refine List.pairwise_iff_getElem.2 fun i j hi hj hij => ?_
    simp only [List.length_set] at hi hj
    rw [List.getElem_set, List.getElem_set]
    split
    · rename_i e1
      rw [if_neg (by omega)]
      exact fun q e e' => hap j hj (by omega) q e' e
    · rename_i e1
      split
      · exact hap i hi (by omega)
      · exact h.ne hi hj (by omega)
theorem ccs_set (l : List Cc) (k : Nat) (hk : k < l.length) (x : Cc) (h : x.cs = l[k].cs) : ccs (l.set k x) = ccs l := by
  induction l generalizing k with
  | nil => simp at hk
  | cons y l ih =>
    cases k with
    | zero => simp only [List.set_cons_zero, ccs, List.flatMap_cons]; rw [h]; rfl
    | succ k =>
      have := ih k (by simpa using hk) (by simpa using h)
      simp only [List.set_cons_succ, ccs, List.flatMap_cons] at this ⊢
      rw [this]
theorem ccs_put (l : List Cc) (k : Nat) (hk : k < l.length) (d : List Int) (A : Option Addr) (c : Nat) : ccs (l.set k ⟨l[k].dat d, A, c⟩) = (ccs l).set (k * 6 + 3) (.slice A d.length c) := by
  induction l generalizing k with
  | nil => simp at hk
  | cons y l ih =>
    have e : ccs (y :: l) = y.cs.toList ++ ccs l := rfl
    cases k with
    | zero =>
      rw [e, List.set_append_left _ _ (by rw [Array.length_toList, Cc.cs_size]; omega)]
      rfl
    | succ k =>
      have := ih k (by simpa using hk)
      rw [e, List.set_append_right _ _ (by rw [Array.length_toList, Cc.cs_size]; omega), Array.length_toList, Cc.cs_size, show (k + 1) * 6 + 3 - 6 = k * 6 + 3 by omega, ← this]
      rfl
/-- A byte of one copy is written over. -/
theorem CopAt.put (h : CopAt w b L lc l) {k j : Nat} (hk : k < l.length) (hj : j < l[k].c.data.length) (v : Int) :
    ∃ g, l[k].A = some ⟨g, 0, none⟩ ∧ b ≤ g ∧ w.cell? ⟨g, j, none⟩ = some (.int .u8 l[k].c.data[j]) ∧ w.frozen? ⟨g, j, none⟩ = false ∧ CopAt (w.setCell ⟨g, j, none⟩ (.int .u8 v)) b L lc (l.set k ⟨l[k].dat (l[k].c.data.set j v), l[k].A, l[k].cap⟩) := by
  have ho := h.d _ (List.getElem_mem hk)
  obtain ⟨g, e1, e2, hc, hf⟩ := own_cells ho (by omega)
  have hst := World.ownsRow.stored (by unfold Cc.dV at ho; rw [e1] at ho; exact ho) j (.int .u8 v)
  have hkk : Kept (fun i => l[k].dV.ownBlock = some i) w (w.setCell ⟨g, j, none⟩ (.int .u8 v)) := Kept.at (Kept.refl _ _) j _ (.inl e2)
  have hdv : (Cc.mk (l[k].dat (l[k].c.data.set j v)) l[k].A l[k].cap).dV = l[k].dV := by simp [Cc.dV, Cc.dat]
  refine ⟨g, e1, (ho.lt g e2).1, hc j _ (by simp [bys, hj]), hf j, h.turn hk _ hkk (by rw [hdv]; exact Goes.refl _ _) ?_ ?_⟩
  · rw [hdv]
    unfold Cc.dV
    rw [e1]
    simp only [Cc.dat, List.length_set]
    have : bys (l[k].c.data.set j v) = (bys l[k].c.data).set j (.int .u8 v) := by simp [bys, List.map_set]
    rw [this]
    exact hst.1
  · rw [ccs_set l k hk _ (by simp [Cc.cs, cpC, Cc.dat])]
    exact hkk.own h.row fun i e e' => own_kinds h.row ho (by decide) i e e'
/-- One copy's bytes have been gone on from: the row's cell is written. -/
theorem CopAt.go (h : CopAt w b L lc l) {k : Nat} (hk : k < l.length) (d : List Int) (A : Option Addr) (c n : Nat) (hn : d.length = n) (hkk : Kept (fun j => l[k].dV.ownBlock = some j) w w') (hgo : Goes w l[k].dV (.slice A n c)) (ho : w'.ownsRow b 5 1 (.slice A n c) n (bys d)) :
    ∃ g, L = some ⟨g, 0, none⟩ ∧ b ≤ g ∧ w'.cell? ⟨g, k * 6 + 3, none⟩ = some l[k].dV ∧ w'.frozen? ⟨g, k * 6 + 3, none⟩ = false ∧ CopAt (w'.setCell ⟨g, k * 6 + 3, none⟩ (.slice A n c)) b L lc (l.set k ⟨l[k].dat d, A, c⟩) := by
  subst hn
  have hod := h.d _ (List.getElem_mem hk)
  have hrow : w'.ownsRow b 44 6 (.slice L l.length lc) l.length (ccs l) := hkk.own h.row fun i e e' => own_kinds h.row hod (by decide) i e e'
  obtain ⟨g, e1, e2, hc, hf⟩ := own_cells hrow (by omega)
  subst e1
  have hst := World.ownsRow.stored hrow (k * 6 + 3) (.slice A d.length c)
  have hk2 : Kept (fun j => l[k].dV.ownBlock = some j ∨ j = g) w (w'.setCell ⟨g, k * 6 + 3, none⟩ (.slice A d.length c)) := Kept.at (hkk.more fun _ _ e => .inl e) _ _ (.inl (.inr rfl))
  have hko : Kept (fun j => j = g) w' (w'.setCell ⟨g, k * 6 + 3, none⟩ (.slice A d.length c)) := Kept.at (Kept.refl _ _) _ _ (.inl rfl)
  refine ⟨g, rfl, (hrow.lt g e2).1, hc _ _ (by rw [ccs_get l k hk 3 (by omega)]; rfl), hf _, ?_⟩
  have hg1 : ∀ y ∈ l, y.dV.ownBlock ≠ some g := fun y hy e => own_kinds h.row (h.d y hy) (by decide) g e2 e
  have hap : ∀ i (hi : i < l.length), i ≠ k → ∀ j, l[i].dV.ownBlock = some j → (Value.slice A d.length c).ownBlock ≠ some j := fun i hi hik j e e' => by
    rcases hgo j e' with e1 | e1
    · exact h.ne hi hk hik j e e1
    · have := ((h.d _ (List.getElem_mem hi)).lt j e).2; omega
  refine ⟨by rw [List.length_set, ccs_put l k hk]; exact hst.1, fun y hy => ?_, ?_⟩
  · obtain ⟨i, hi, rfl⟩ := List.getElem_of_mem hy
    simp only [List.length_set] at hi
    rw [List.getElem_set]
    split
    · exact hko.own ho fun j e e' => own_kinds ho hrow (by decide) j e (by rw [e', e2])
    · rename_i hne
      refine hk2.own (h.d _ (List.getElem_mem hi)) fun j e e' => ?_
      rcases e' with e' | e'
      · exact h.ne hi hk (fun e => hne e.symm) j e e'
      · subst e'; exact hg1 _ (List.getElem_mem hi) e
  · refine List.pairwise_iff_getElem.2 fun i j hi hj hij => ?_
    simp only [List.length_set] at hi hj
    rw [List.getElem_set, List.getElem_set]
    split
    · rename_i e1
      rw [if_neg (by omega)]
      exact fun q e e' => hap j hj (by omega) q e' e
    · rename_i e1
      split
      · exact hap i hi (by omega)
      · exact h.ne hi hj (by omega)
/-- The row itself has been gone on from. -/
theorem CopAt.row_ (h : CopAt w b L lc l) (hk : Kept (fun k => (Value.slice L l.length lc).ownBlock = some k) w w') (hr : w'.ownsRow b 44 6 (.slice L l.length lc) l.length (ccs l)) : CopAt w' b L lc l :=
  ⟨hr, fun x hx => hk.own (h.d x hx) fun k e e' => own_kinds h.row (h.d x hx) (by decide) k e' e, h.ap⟩
/-- The first m hold their own number each. -/
def Fl (l : List Cc) (m : Nat) : Prop := ∀ i (h : i < l.length), i < m → ∀ v ∈ l[i].c.data, v = ((i + 1 : Nat) : Int)
def Sm (l : List Cc) : Prop := ∀ x ∈ l, x.c.data.length ≤ 60000
/-- Of one: the first j do. -/
def Fj (l : List Cc) (m j : Nat) : Prop := ∀ h : m < l.length, ∀ i (hi : i < l[m].c.data.length), i < j → l[m].c.data[i] = ((m + 1 : Nat) : Int)
/-- Those from m on: all that they hold. -/
def Fr (l : List Cc) (m : Nat) : Prop := ∀ i (h : i < l.length), m ≤ i → l[i].c.data.length ≤ 60000 ∧ ∀ v ∈ l[i].c.data, v = ((i + 1 : Nat) : Int)
theorem Fl.zero (l : List Cc) : Fl l 0 := fun i _ h => absurd h (by omega)
theorem Fj.zero (l : List Cc) (m : Nat) : Fj l m 0 := fun _ i _ h => absurd h (by omega)
theorem Fl.put {m : Nat} (h : Fl l m) (x : Cc) : Fl (l.set m x) m := fun i hi him v hv => by
  simp only [List.length_set] at hi
  rw [List.getElem_set_ne (by omega)] at hv
  exact h i hi him v hv
theorem Sm.put {m : Nat} (h : Sm l) (x : Cc) (hx : x.c.data.length ≤ 60000) : Sm (l.set m x) := fun y hy => by
  rcases List.mem_or_eq_of_mem_set hy with h1 | h1
  · exact h y h1
  · rw [h1]; exact hx
theorem Fj.put {m j : Nat} (h : Fj l m j) (hm : m < l.length) : Fj (l.set m ⟨l[m].dat (l[m].c.data.set j ((m + 1 : Nat) : Int)), l[m].A, l[m].cap⟩) m (j + 1) := fun hm' i hi hij => by
  simp only [List.getElem_set_self, Cc.dat, List.length_set] at hi ⊢
  rw [List.getElem_set]
  split
  · rfl
  · exact h hm i hi (by omega)
theorem Fl.next {m j : Nat} (h : Fl l m) (hj : Fj l m j) (hm : ∀ h : m < l.length, l[m].c.data.length ≤ j) : Fl l (m + 1) := fun i hi him v hv => by
  by_cases e : i = m
  · subst e
    obtain ⟨q, hq, rfl⟩ := List.getElem_of_mem hv
    exact hj hi q hq (by have := hm hi; omega)
  · exact h i hi (by omega) v hv
theorem Fr.of (h : Fl l l.length) (hs : Sm l) : Fr l 0 := fun i hi _ => ⟨hs _ (List.getElem_mem hi), h i hi hi⟩
theorem Fr.put {m : Nat} (h : Fr l m) (x : Cc) : Fr (l.set m x) (m + 1) := fun i hi him => by
  simp only [List.length_set] at hi
  rw [List.getElem_set_ne (by omega)]
  exact h i hi (by omega)
end
end Go.Proofs.Ytopcogogpbcbhaa
