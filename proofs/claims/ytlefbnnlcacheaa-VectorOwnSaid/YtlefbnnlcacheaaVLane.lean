/- Lists that each own their memory (lanes): a list of them, pairwise apart; a store into one; an append that leaves what was there. No condition beyond the sizes. -/
import Derived.Test.YtlefbnnlcacheaaVRoom
import Derived.ArgAppend
import Derived.Deep.DeepAppendRoom
import Derived.Lib.OwnKind
import Derived.Laws.OwnMore
namespace Go.Proofs.Ytlefbnnlcacheaa
open Go Go.RowKit

theorem own_kinds {w : World} {b b' s s' n n' : Nat} {e e' : TypeId} {v v' : Value} {xs xs' : List Value} (h : w.ownsRow b e s v n xs) (h' : w.ownsRow b' e' s' v' n' xs') (hne : e ≠ e') : ∀ k, v.ownBlock = some k → v'.ownBlock ≠ some k := by
  intro k hk hk'
  rcases h.2 with ⟨rfl, _⟩ | ⟨g, cap, cur, rfl, _, hg, _⟩
  · cases hk
  · rcases h'.2 with ⟨rfl, _⟩ | ⟨g', cap', cur', rfl, _, hg', _⟩
    · cases hk'
    · simp only [Value.ownBlock, Option.some.injEq] at hk hk'
      subst hk hk'
      rw [hg] at hg'
      injection hg' with e1
      injection e1 with _ e2
      exact hne e2

structure Lane where
  A : Option Addr
  c : Nat
  l : List Dt
def Lane.v (L : Lane) : Value := .slice L.A L.l.length L.c
def Owns (w : World) (base : Nat) (L : Lane) : Prop := w.ownsRow base 25 2 L.v L.l.length (dots L.l)
def Apart (a b : Value) : Prop := ∀ k, a.ownBlock = some k → b.ownBlock ≠ some k
theorem Apart.symm {a b : Value} (h : Apart a b) : Apart b a := fun k hk hk' => h k hk' hk
structure Lanes (w : World) (base : Nat) (vs : List Lane) : Prop where
  own : ∀ L ∈ vs, Owns w base L
  apart : (vs.map Lane.v).Pairwise Apart

section
variable {w w' w1 : World} {base : Nat} {L M : Lane} {vs ws : List Lane} {S : Nat → Prop}
theorem Owns.kept (h : Owns w base L) (hk : Kept S w w') (hne : ∀ k, L.v.ownBlock = some k → ¬ S k) : Owns w' base L := hk.own h hne
theorem Owns.fresh (h : Owns w base L) (hk : Kept (fun _ => False) w w') : Owns w' base L := h.kept hk fun _ _ => id
theorem Owns.at (h : Owns w base L) : DotsAt w L.A L.l := DotsAt.of_own h
theorem Owns.lt (h : Owns w base L) : ∀ k, L.v.ownBlock = some k → base ≤ k ∧ k < w.heap.size := World.ownsRow.lt h
theorem Owns.mono {base' : Nat} (h : Owns w base L) (hb : base' ≤ base) : Owns w base' L := own_base h hb
theorem Lane.own_of {a : Addr} (h : L.A = some a) : L.v.ownBlock = some a.block := by unfold Lane.v; rw [h]; rfl
theorem Lanes.nil : Lanes w base [] := ⟨fun _ h => absurd h (by simp), List.Pairwise.nil⟩
theorem Lanes.kept (h : Lanes w base vs) (hk : Kept S w w') (hne : ∀ L ∈ vs, ∀ k, L.v.ownBlock = some k → ¬ S k) : Lanes w' base vs := ⟨fun L hL => (h.own L hL).kept hk (hne L hL), h.apart⟩
theorem Lanes.fresh (h : Lanes w base vs) (hk : Kept (fun _ => False) w w') : Lanes w' base vs := h.kept hk fun _ _ _ _ => id
/-- One more, made behind all of them. -/
theorem Lanes.more (h : Lanes w base vs) (hk : Kept (fun _ => False) w w') (hL : Owns w' w.heap.size L) (hb : base ≤ w.heap.size) : Lanes w' base (vs ++ [L]) := by
  refine ⟨fun M hM => ?_, ?_⟩
  · rcases List.mem_append.1 hM with hM | hM
    · exact (h.own M hM).fresh hk
    · obtain rfl : M = L := by simpa using hM
      exact hL.mono hb
  · rw [List.map_append, List.pairwise_append]
    refine ⟨h.apart, by simp, fun a ha b hb k hka hkb => ?_⟩
    obtain ⟨M, hM, rfl⟩ := List.mem_map.1 ha
    obtain rfl : b = L.v := by simpa using hb
    have := ((h.own M hM).lt k hka).2
    have := (hL.lt k hkb).1
    omega
theorem Lanes.perm (h : Lanes w base vs) (hp : vs.Perm ws) : Lanes w base ws := ⟨fun L hL => h.own L (hp.mem_iff.2 hL), (List.Perm.pairwise_iff (fun h => h.symm) (hp.map _)).1 h.apart⟩
theorem Lanes.ne (h : Lanes w base vs) {i j : Nat} (hi : i < vs.length) (hj : j < vs.length) (hij : i ≠ j) : Apart vs[i].v vs[j].v := by
  have := List.pairwise_iff_getElem.1 h.apart
  simp only [List.length_map, List.getElem_map] at this
  rcases Nat.lt_or_ge i j with h1 | h1
  · exact this i j hi hj h1
  · exact (this j i hj hi (by omega)).symm
/-- A lane's Dots are turned. -/
theorem Lanes.turn (h : Lanes w base vs) {i : Nat} (hi : i < vs.length) (hk : Kept (fun k => vs[i].v.ownBlock = some k) w w') (hv : M.v = vs[i].v) (hM : Owns w' base M) : Lanes w' base (vs.set i M) := by
  refine ⟨fun N hN => ?_, ?_⟩
  · obtain ⟨j, hj, rfl⟩ := List.getElem_of_mem hN
    simp only [List.length_set] at hj
    rw [List.getElem_set]
    split
    · exact hM
    · rename_i hne
      exact (h.own _ (List.getElem_mem hj)).kept hk fun k e e' => h.ne hj hi (fun e => hne e.symm) k e e'
  · have : (vs.set i M).map Lane.v = vs.map Lane.v := by
      rw [List.map_set, hv]
      have : (vs.map Lane.v)[i]'(by simpa using hi) = vs[i].v := by simp
      rw [← this, List.set_getElem_self]
    rw [this]
    exact h.apart
theorem Owns.stored (h : Owns w base L) {k : Nat} (hk : k < L.l.length) (d : Dt) :
    ∃ g, L.A = some ⟨g, 0, none⟩ ∧ Owns ((w.setCell ⟨g, k * 2, none⟩ (.int .i64 d.site)).setCell ⟨g, k * 2 + 1, none⟩ (.int .i64 d.seq)) base ⟨L.A, L.c, L.l.set k d⟩ ∧
      Kept (fun k => L.v.ownBlock = some k) w ((w.setCell ⟨g, k * 2, none⟩ (.int .i64 d.site)).setCell ⟨g, k * 2 + 1, none⟩ (.int .i64 d.seq)) := by
  obtain ⟨A, c, l⟩ := L
  obtain ⟨g, cap, hv, _, _⟩ := World.ownsRow.form h (show 0 < l.length from by simp only at hk; omega)
  unfold Lane.v at hv
  injection hv with e1 _ e3
  simp only at e1 e3 hk
  subst e1 e3
  have h1 := World.ownsRow.stored h (k * 2) (.int .i64 d.site)
  have h2 := World.ownsRow.stored h1.1 (k * 2 + 1) (.int .i64 d.seq)
  refine ⟨g, rfl, ?_, ?_⟩
  · have e : dots (l.set k d) = ((dots l).set (k * 2) (.int .i64 d.site)).set (k * 2 + 1) (.int .i64 d.seq) := by
      clear h h1 h2
      induction l generalizing k with
      | nil => simp at hk
      | cons x l ih =>
        cases k with
        | zero => rfl
        | succ k =>
          have e2 : (k + 1) * 2 = k * 2 + 2 := by omega
          have := ih (by simpa using hk)
          rw [e2]
          simpa [dots] using this
    unfold Owns Lane.v
    simp only [List.length_set]
    rw [e]
    exact h2.1
  · exact Kept.at (S := fun k => some g = some k) (g := g) (Kept.at (g := g) (Kept.refl _ _) _ _ (.inl rfl)) _ _ (.inl rfl)
end

theorem DotsAt.stay {w w' : World} {g : Nat} {l : List Dt} (h : DotsAt w (some ⟨g, 0, none⟩) l) (hs : ∀ j u, j < l.length * 2 → w.cell? ⟨g, j, none⟩ = some u → w'.cell? ⟨g, j, none⟩ = some u) : DotsAt w' (some ⟨g, 0, none⟩) l := fun k hk => by
  obtain ⟨ad, e, x0, x1⟩ := h k hk
  injection e with e
  subst e
  refine ⟨_, rfl, ?_, ?_⟩
  · rw [add_none] at x0 ⊢
    exact hs (k * 2) _ (by omega) x0
  · rw [add_none] at x1 ⊢
    exact hs (k * 2 + 1) _ (by omega) x1

section
variable {P : Program} {w : World} {t e : TypeId} {size bytes : Nat} {ops : Array Oper} {rest : List Oper} {o : Oper} {a : Act} {Q : Exit → Act → World → Prop}
/-- An append of a value just built: what lay below the length stays. -/
theorem wpList_append_stay {T : TypeId} {cs : Array Value} (E : Elt P t e size bytes) (hgd : o.guard = none) (s x : Operand) (ho : o.op = .call { callee := .builtin .append, args := #[s, x], argTypes := #[t, t] })
    (base : Nat) (v : Value) (n : Nat) (xs : List Value) (hs : a.eval s = v) (hown : w.ownsRow base e size v n xs)
    (m c : Nat) (hx : a.eval x = .slice (some ⟨w.heap.size, 0, none⟩) m c) (hl : cs.size = m * size) (h1 : cs.toList.all (·.oneCell') = true)
    (hbytes : (n + m) * bytes ≤ 140737488355328) (hbase : base ≤ w.heap.size)
    (h : ∀ A' c' w', Hid (w'.ownsRow base e size (.slice A' (n + m) c') (n + m) (xs ++ cs.toList)) → Hid (Kept (fun k => v.ownBlock = some k) w w') → Hid (Goes w v (.slice A' (n + m) c')) →
      Hid (∀ g j u, g < w.heap.size → (v.ownBlock = some g → j < n * size) → w.cell? ⟨g, j, none⟩ = some u → w'.cell? ⟨g, j, none⟩ = some u) → wpList P ops Q rest (a.put o.dst (.slice A' (n + m) c')) w') :
    wpList P ops Q (o :: rest) a (w.alloc (.cells cs T)) := by
  obtain ⟨i, z, hi, hz, hsz, hby, hzs⟩ := E.info
  have hmax : n + m ≤ maxLen := by
    have := Nat.le_trans (Nat.le_mul_of_pos_right (n + m) E.posb) hbytes
    unfold maxLen
    omega
  have hnews : ∀ j u, cs.toList[j]? = some u → (w.alloc (.cells cs T)).cell? ((⟨w.heap.size, 0, none⟩ : Addr).add j) = some u := fun j u hj => by
    rw [add_none, (Box.new w T cs).cell j]
    simpa using hj
  have hone : ∀ u ∈ cs.toList, u.oneCell' = true := List.all_eq_true.1 h1
  have hk0 : Kept (fun _ => False) w (w.alloc (.cells cs T)) := (Kept.refl _ _).alloc _
  have far : ∀ {S : Nat → Prop} {w' : World}, Kept S w w' → ∀ g j u, g < w.heap.size → ¬ S g → w.cell? ⟨g, j, none⟩ = some u → w'.cell? ⟨g, j, none⟩ = some u := fun hk g j u hg hS hu => by
    rw [World.cell?_of_block (w := w) (hk.block g hg hS)]
    exact hu
  have grow : ∀ ao cap, v = .slice ao n cap → (ao = none → n = 0 ∧ cap = 0) → (∀ b, ao = some b → b = ⟨b.block, 0, none⟩) → cap < n + m → wpList P ops Q (o :: rest) a (w.alloc (.cells cs T)) := by
    rintro ao cap rfl hn hb hc
    refine wpList_append_grows _ hgd s x t ho e i z size bytes E.und hi hz hsz hby hzs E.pos ao n cap xs hs hn hown.1 (fun b hbb j u hj => ?_) ⟨w.heap.size, 0, none⟩ m c cs.toList hx (by simpa using hl) hnews hone hc hmax hbytes fun v' w' h2 h3 => ?_
    · have e1 := hb b hbb
      rw [e1]
      exact (hown.alloc _).cells (g := b.block) (by rw [hbb]; rfl) j u hj
    · obtain ⟨A', c', rfl⟩ := own_shape h2
      have hk : Kept (fun _ => False) w w' := (hk0.trans (Kept.of_grown h3) fun k _ e => by cases e)
      refine h A' c' w' (own_base h2 (by simp; omega)) (hk.more fun _ _ e => e.elim) (fun k hk => .inr ?_) fun g j u hg _ hu => far hk g j u hg id hu
      have := (h2.lt k hk).1
      simp at this
      omega
  rcases hown.2 with ⟨rfl, rfl⟩ | ⟨g, cap, cur, rfl, hbg, hgh, hnc, hcm, hcs, htake⟩
  · rcases Nat.eq_zero_or_pos m with rfl | hm
    · obtain rfl : cs = #[] := Array.eq_empty_of_size_eq_zero (by omega)
      refine wpList_append_kit E hgd s x ho base _ 0 xs hs (hown.alloc _) (some ⟨w.heap.size, 0, none⟩) 0 c [] hx (fun h => by cases h) (by simp) (fun j u hj => by simp at hj) (by simp) hbytes (by simp; omega) fun A' c' w' h2 h3 h4 => ?_
      have hk : Kept (fun _ => False) w w' := hk0.trans h3 fun k _ e => by cases e
      refine h A' c' w' (by simpa using h2) (hk.more fun _ _ e => e.elim) (fun k hk => (h4 k hk).imp_right fun h => ?_) fun g j u hg _ hu => far hk g j u hg id hu
      simp at h
      omega
    · exact grow none 0 rfl (fun _ => ⟨rfl, rfl⟩) (fun b h => by cases h) (by omega)
  · rcases Nat.lt_or_ge cap (n + m) with hc | hc
    · exact grow (some ⟨g, 0, none⟩) cap rfl (fun h => by cases h) (fun b h => by injection h with h; rw [← h]) hc
    · refine wpList_append_own_spare _ hgd s x t ho base e i size E.und hi hsz g n cap xs hs (hown.alloc _) ⟨w.heap.size, 0, none⟩ m c cs.toList hx (by simpa using hl) hnews hone hc fun w' h2 h3 => ?_
      have hk : Kept (fun k => (Value.slice (some ⟨g, 0, none⟩) n cap).ownBlock = some k) w w' := (hk0.more fun _ _ e => e.elim).trans (Kept.of_grown h3) fun k _ e => e
      refine h _ cap w' h2 hk (fun k hk => .inl hk) fun g' j u hg' hj hu => ?_
      by_cases hgg : g' = g
      · subst hgg
        have hj' := hj rfl
        rw [hown.cellAt j hj'] at hu
        rw [h2.cellAt j (Nat.lt_of_lt_of_le hj' (Nat.mul_le_mul_right _ (Nat.le_add_right _ _))), List.getElem?_append_left (by rw [hown.1]; exact hj')]
        exact hu
      · exact far hk g' j u hg' (fun e => hgg (by simpa [Value.ownBlock] using e.symm)) hu
end
end Go.Proofs.Ytlefbnnlcacheaa
