/- What the law VectorOwn has in memory behind its first loop: lanes that are written over and gone on from. No condition beyond what the structures say. -/
import Derived.Test.YtlefbnnlcacheaaVOwnA
namespace Go.Proofs.Ytlefbnnlcacheaa
open Go Go.RowKit

section
variable {w w' : World} {base : Nat} {L M : Lane} {P1 P2 : List Lane}
theorem Lanes.go (h : Lanes w base (P1 ++ L :: P2)) (hk : Kept (fun k => L.v.ownBlock = some k) w w') (hM : Owns w' base M) (hg : Goes w L.v M.v) : Lanes w' base (P1 ++ M :: P2) := by
  have hp := h.apart
  rw [List.map_append, List.map_cons, List.pairwise_append, List.pairwise_cons] at hp
  obtain ⟨hp1, ⟨hp2, hp3⟩, hp4⟩ := hp
  have ap : ∀ N : Lane, (N ∈ P1 ∨ N ∈ P2) → Owns w base N ∧ Apart N.v L.v := fun N hN => by
    rcases hN with hN | hN
    · exact ⟨h.own N (by simp [hN]), hp4 _ (List.mem_map_of_mem hN) _ (by simp)⟩
    · exact ⟨h.own N (by simp [hN]), (hp2 _ (List.mem_map_of_mem hN)).symm⟩
  have apM : ∀ N : Lane, (N ∈ P1 ∨ N ∈ P2) → Apart N.v M.v := fun N hN k hk1 hk2 => by
    rcases hg k hk2 with e | e
    · exact (ap N hN).2 k hk1 e
    · have := ((ap N hN).1.lt k hk1).2
      omega
  refine ⟨fun N hN => ?_, ?_⟩
  · rcases List.mem_append.1 hN with hN | hN
    · exact (ap N (.inl hN)).1.kept hk fun k e e' => (ap N (.inl hN)).2 k e e'
    · rcases List.mem_cons.1 hN with rfl | hN
      · exact hM
      · exact (ap N (.inr hN)).1.kept hk fun k e e' => (ap N (.inr hN)).2 k e e'
  · rw [List.map_append, List.map_cons, List.pairwise_append, List.pairwise_cons]
    refine ⟨hp1, ⟨fun b hb => ?_, hp3⟩, fun a ha b hb => ?_⟩
    · obtain ⟨N, hN, rfl⟩ := List.mem_map.1 hb
      exact (apM N (.inr hN)).symm
    · rcases List.mem_cons.1 hb with rfl | hb
      · obtain ⟨N, hN, rfl⟩ := List.mem_map.1 ha
        exact apM N (.inl hN)
      · exact hp4 a ha b (List.mem_cons_of_mem _ hb)
end

section
variable {w : World} {N : Nat} {A B : Option Addr} {l m : List Dt} {gd : Nat} {dq : Int} {g : Nat} {sv : Value} {bs : List Int} {Sv Sv' : Value} {vs ws P Q T : List Lane} {w1 w2 : World} {S : Nat → Prop} {L M : Lane}
/-- One lane of the list is written over. -/
theorem LAt.turn (h : LAt w N A B l m gd dq g sv bs Sv vs (vs ++ T) w1) {i : Nat} (hi : i < vs.length) (hk : Kept (fun k => vs[i].v.ownBlock = some k) w1 w2) (hv : M.v = vs[i].v) (hM : Owns w2 N M) :
    LAt w N A B l m gd dq g sv bs Sv (vs.set i M) (vs.set i M ++ T) w2 := by
  have hi' : i < (vs ++ T).length := by simp; omega
  have e : (vs ++ T)[i] = vs[i] := List.getElem_append_left hi
  have hm : vs[i] ∈ vs ++ T := List.mem_append_left _ (List.getElem_mem hi)
  have h1 := Lanes.turn (M := M) h.lanes hi' (by rw [e]; exact hk) (by rw [e]; exact hv) hM
  rw [List.set_append_left _ _ hi] at h1
  have h2 : (vs.set i M).map Lane.v = vs.map Lane.v := by
    rw [List.map_set, hv]
    have : (vs.map Lane.v)[i]'(by simpa using hi) = vs[i].v := by simp
    rw [← this, List.set_getElem_self]
  refine ⟨h.o.kept hk fun k e => ((h.lanes.own _ hm).lt k e).1, h1, ?_⟩
  rw [h2, List.length_set]
  exact hk.own h.s fun k e e' => own_kinds h.s (h.lanes.own _ hm) (by decide) k e e'

/-- What stays of the lists while copies of them are gone on from. -/
structure Fix (N : Nat) (Sv : Value) (vs : List Lane) (N2 : Nat) : Prop where
  le : N ≤ N2
  apart : (vs.map Lane.v).Pairwise Apart
  form : ∀ L ∈ vs, 0 < L.l.length → ∃ g, L.A = some ⟨g, 0, none⟩ ∧ g < N2
  sv : ∀ k, Sv.ownBlock = some k → k < N2
structure MAt (w : World) (N : Nat) (A B : Option Addr) (l m : List Dt) (gd : Nat) (dq : Int) (g : Nat) (sv : Value) (bs : List Int) (Sv : Value) (vs : List Lane) (N2 : Nat) (MV : Value) (ms P : List Lane) (wr : World) : Prop where
  z : LAt w N A B l m gd dq g sv bs Sv vs P wr
  row : wr.ownsRow N2 23 1 MV ms.length (ms.map Lane.v)
  lists : ∀ L ∈ vs, DotsAt wr L.A L.l
  le : N2 ≤ wr.heap.size
variable {N2 : Nat} {MV MV' : Value} {ms P1 P2 : List Lane}
theorem LAt.fix (h : LAt w N A B l m gd dq g sv bs Sv vs (vs ++ T) w1) : Fix N Sv vs w1.heap.size ∧ MAt w N A B l m gd dq g sv bs Sv vs w1.heap.size (.slice none 0 0) [] (vs ++ T) w1 := by
  have hm : ∀ L ∈ vs, Owns w1 N L := fun L hL => h.lanes.own L (List.mem_append_left _ hL)
  have hp := h.lanes.apart
  rw [List.map_append, List.pairwise_append] at hp
  refine ⟨⟨h.o.le, hp.1, fun L hL h0 => ?_, fun k e => (h.s.lt k e).2⟩, h, World.ownsRow_nil _ _ _ _, fun L hL => (hm L hL).at, Nat.le_refl _⟩
  obtain ⟨g, cap, hv, _, hg⟩ := World.ownsRow.form (hm L hL) h0
  unfold Lane.v at hv
  injection hv with e1 _ e3
  exact ⟨g, e1, ((hm L hL).lt g (Lane.own_of e1)).2⟩
theorem MAt.fresh (h : MAt w N A B l m gd dq g sv bs Sv vs N2 MV ms P w1) (hk : Kept (fun _ => False) w1 w2) : MAt w N A B l m gd dq g sv bs Sv vs N2 MV ms P w2 :=
  ⟨h.z.fresh hk, hk.own h.row fun _ _ => id, fun L hL => (h.lists L hL).fresh hk, Nat.le_trans h.le hk.size⟩
theorem MAt.perm (h : MAt w N A B l m gd dq g sv bs Sv vs N2 MV ms P w1) (e : P = Q) : MAt w N A B l m gd dq g sv bs Sv vs N2 MV ms Q w1 := e ▸ h
/-- A copy of a list goes on by one. -/
theorem MAt.push (h : MAt w N A B l m gd dq g sv bs Sv vs N2 MV ms (P1 ++ L :: P2) w1) (F : Fix N Sv vs N2) {i : Nat} (hi : i < vs.length) (hgo : ∀ k, L.v.ownBlock = some k → vs[i].v.ownBlock = some k ∨ N2 ≤ k) (hn : vs[i].l.length ≤ L.l.length)
    (hk : Kept (fun k => L.v.ownBlock = some k) w1 w2) (hM : Owns w2 N M) (hg : Goes w1 L.v M.v)
    (hs : ∀ g j u, g < w1.heap.size → (L.v.ownBlock = some g → j < L.l.length * 2) → w1.cell? ⟨g, j, none⟩ = some u → w2.cell? ⟨g, j, none⟩ = some u) :
    MAt w N A B l m gd dq g sv bs Sv vs N2 MV ms (P1 ++ M :: P2) w2 ∧ ∀ k, M.v.ownBlock = some k → vs[i].v.ownBlock = some k ∨ N2 ≤ k := by
  have hO := h.z.lanes.own L (by simp)
  have hb := hO.lt
  refine ⟨⟨⟨h.z.o.kept hk fun k e => (hb k e).1, h.z.lanes.go hk hM hg, hk.own h.z.s fun k e e' => own_kinds h.z.s hO (by decide) k e e'⟩, hk.own h.row fun k e e' => own_kinds h.row hO (by decide) k e e', fun K hK => ?_, Nat.le_trans h.le hk.size⟩, fun k e => ?_⟩
  · rcases Nat.eq_zero_or_pos K.l.length with h0 | h0
    · rw [List.eq_nil_of_length_eq_zero h0]
      exact DotsAt.nil
    · obtain ⟨gK, eA, hlt⟩ := F.form K hK h0
      have hd := h.lists K hK
      rw [eA] at hd ⊢
      refine hd.stay fun j u hj hc => hs gK j u (Nat.lt_of_lt_of_le hlt h.le) (fun e => ?_) hc
      rcases hgo gK e with e1 | e1
      · obtain ⟨j', hj', rfl⟩ := List.getElem_of_mem hK
        by_cases hij : j' = i
        · subst hij
          omega
        · exfalso
          have hp := List.pairwise_iff_getElem.1 F.apart
          simp only [List.length_map, List.getElem_map] at hp
          rcases Nat.lt_or_ge j' i with h1 | h1
          · exact hp j' i hj' hi h1 gK (Lane.own_of eA) e1
          · exact hp i j' hi hj' (by omega) gK e1 (Lane.own_of eA)
      · omega
  · rcases hg k e with e1 | e1
    · exact hgo k e1
    · exact .inr (Nat.le_trans h.le e1)
/-- The list of the copies grows. -/
theorem MAt.more (h : MAt w N A B l m gd dq g sv bs Sv vs N2 MV ms P w1) (F : Fix N Sv vs N2) (hk : Kept (fun k => MV.ownBlock = some k) w1 w2) (hr : w2.ownsRow N2 23 1 MV' (ms ++ [L]).length ((ms ++ [L]).map Lane.v)) :
    MAt w N A B l m gd dq g sv bs Sv vs N2 MV' (ms ++ [L]) P w2 := by
  have hb := h.row.lt
  refine ⟨⟨h.z.o.kept hk fun k e => Nat.le_trans F.le (hb k e).1, h.z.lanes.kept hk fun L hL k e e' => own_kinds h.row (h.z.lanes.own L hL) (by decide) k e' e, hk.own h.z.s fun k e e' => ?_⟩, hr, fun K hK => ?_, Nat.le_trans h.le hk.size⟩
  · have := F.sv k e
    have := (hb k e').1
    omega
  · rcases Nat.eq_zero_or_pos K.l.length with h0 | h0
    · rw [List.eq_nil_of_length_eq_zero h0]
      exact DotsAt.nil
    · obtain ⟨gK, eA, hlt⟩ := F.form K hK h0
      refine (h.lists K hK).kept hk fun a ha e => ?_
      rw [eA] at ha
      injection ha with ha
      subst ha
      have := (hb gK e).1
      omega
end
theorem row_at {w : World} {N : Nat} {SA : Option Addr} {n sc : Nat} {vs : List Lane} (h : w.ownsRow N 23 1 (.slice SA n sc) vs.length (vs.map Lane.v)) {i : Nat} (hi : i < vs.length) :
    ∃ gs, SA = some ⟨gs, 0, none⟩ ∧ w.cell? ⟨gs, i, none⟩ = some vs[i].v := by
  obtain ⟨g, cap, hv, _, _⟩ := World.ownsRow.form h (by omega)
  injection hv with e1 e2 e3
  subst e1 e2 e3
  refine ⟨g, rfl, ?_⟩
  rw [h.cellAt i (by omega), List.getElem?_map, List.getElem?_eq_getElem hi]
  rfl
theorem Owns.cells {w : World} {N : Nat} {A : Option Addr} {c : Nat} {l : List Dt} (h : Owns w N ⟨A, c, l⟩) {t : Nat} (ht : t < l.length) :
    ∃ g, A = some ⟨g, 0, none⟩ ∧ w.cell? ⟨g, t * 2, none⟩ = some (.int .i64 l[t].site) ∧ w.cell? ⟨g, t * 2 + 1, none⟩ = some (.int .i64 l[t].seq) ∧ ∀ j, w.frozen? ⟨g, j, none⟩ = false := by
  obtain ⟨g, cap, hv, _, _⟩ := World.ownsRow.form h (show 0 < l.length from by omega)
  unfold Lane.v at hv
  injection hv with e1 _ e3
  simp only at e1 e3
  subst e1 e3
  obtain ⟨ad, e, x0, x1⟩ := h.at t ht
  injection e with e
  subst e
  rw [add_none] at x0 x1
  exact ⟨g, rfl, x0, x1, fun j => World.ownsRow.frozenAt h j⟩
theorem DotsAt.lane {w : World} {g : Nat} {l : List Dt} (h : DotsAt w (some ⟨g, 0, none⟩) l) {t : Nat} (ht : t < l.length) :
    w.cell? ⟨g, t * 2, none⟩ = some (.int .i64 l[t].site) ∧ w.cell? ⟨g, t * 2 + 1, none⟩ = some (.int .i64 l[t].seq) := by
  obtain ⟨ad, e, x0, x1⟩ := h t ht
  injection e with e
  subst e
  rw [add_none] at x0 x1
  exact ⟨x0, x1⟩
theorem lane_ext {us vs : List Lane} (h : us.map Lane.v = vs.map Lane.v) : us.length = vs.length ∧ ((∀ L ∈ vs, L.l.length ≤ 17) → ∀ L ∈ us, L.l.length ≤ 17) := by
  have hl : us.length = vs.length := by simpa using congrArg List.length h
  refine ⟨hl, fun hv L hL => ?_⟩
  obtain ⟨j, hj, rfl⟩ := List.getElem_of_mem hL
  have e : us[j].v = vs[j].v := by
    have h1 : (us.map Lane.v)[j]? = (vs.map Lane.v)[j]? := by rw [h]
    simpa [List.getElem?_eq_getElem hj, List.getElem?_eq_getElem (hl ▸ hj)] using h1
  unfold Lane.v at e
  injection e with _ e2 _
  rw [e2]
  exact hv _ (List.getElem_mem _)
theorem set_v {us : List Lane} {i : Nat} (hi : i < us.length) {M : Lane} (hv : M.v = us[i].v) : (us.set i M).map Lane.v = us.map Lane.v := by
  rw [List.map_set, hv]
  have : (us.map Lane.v)[i]'(by simpa using hi) = us[i].v := by simp
  rw [← this, List.set_getElem_self]
/-- So many Dots of a list are written over. -/
def Over (k t : Nat) (us : List Lane) : Prop := (∀ j (hj : j < us.length), j < k → us[j].l = marks us[j].l.length (1000 + j)) ∧ ∀ h : k < us.length, t ≤ us[k].l.length ∧ ∀ p (hp : p < us[k].l.length), p < t → us[k].l[p] = ⟨((1000 + k : Nat) : Int), (p : Int)⟩
theorem Over.zero (us : List Lane) : Over 0 0 us := ⟨fun _ _ h => by omega, fun _ => ⟨Nat.zero_le _, fun _ _ h => by omega⟩⟩
theorem Over.next {k t : Nat} {us : List Lane} (h : Over k t us) (hk : k < us.length) (ht : us[k].l.length ≤ t) : Over (k + 1) 0 us := by
  refine ⟨fun j hj hlt => ?_, fun _ => ⟨Nat.zero_le _, fun _ _ h => by omega⟩⟩
  by_cases hjk : j < k
  · exact h.1 j hj hjk
  · obtain rfl : j = k := by omega
    exact marks_of fun p hp => (h.2 hk).2 p hp (by omega)
theorem Over.step {k t : Nat} {us : List Lane} (h : Over k t us) (hk : k < us.length) {A : Option Addr} {c : Nat} {l : List Dt} (e : us[k] = ⟨A, c, l⟩) (ht : t < l.length) {d : Dt} (hd : d = ⟨((1000 + k : Nat) : Int), (t : Int)⟩) : Over k (t + 1) (us.set k ⟨A, c, l.set t d⟩) := by
  refine ⟨fun j hj hlt => ?_, fun hk' => ?_⟩
  · have hj' : j < us.length := by simpa using hj
    have : (us.set k ⟨A, c, l.set t d⟩)[j] = us[j] := List.getElem_set_ne (by omega) _
    rw [this]
    exact h.1 j hj' hlt
  · have e1 : (us.set k ⟨A, c, l.set t d⟩)[k] = ⟨A, c, l.set t d⟩ := List.getElem_set_self _
    rw [e1]
    have h2 := (h.2 hk).2
    rw [e] at h2
    refine ⟨by simp only [List.length_set]; omega, fun p hp hlt => ?_⟩
    simp only at hp h2 ⊢
    rw [List.getElem_set]
    split
    · rename_i hpt
      subst hpt
      exact hd
    · exact h2 p (by simpa using hp) (by omega)
theorem built_one (A0 : Option Addr) (n0 c0 : Nat) : Try.prog.builtSlice 23 1 [(0, .slice A0 n0 c0)] = some #[.slice A0 n0 c0] := by
  obtain ⟨i, z, hi, hz, hsz, hby, hzs⟩ := eltVecs.info
  obtain ⟨i', hi', hz', _⟩ := info_parts info_vec
  obtain rfl : i = i' := by rw [hi] at hi'; injection hi'
  obtain rfl : z = .slice none 0 0 := by rw [hz] at hz'; injection hz'
  unfold Program.builtSlice
  simp only [hi, hz, hsz]
  rw [if_neg (by decide)]
  kernel_rfl
theorem wpList_one {ops : Array Oper} {rest : List Oper} {o : Oper} {a : Act} {w : World} {Q : Exit → Act → World → Prop} (hg : o.guard = none) (x0 : Operand)
    (ho : o.op = .buildSlice 42 1 #[(0, x0)]) {A0 : Option Addr} {n0 c0 : Nat} (h0 : a.eval x0 = .slice A0 n0 c0)
    (h : wpList Try.prog ops Q rest (a.put o.dst (.slice (some ⟨w.heap.size, 0, none⟩) 1 1)) (w.alloc (.cells #[.slice A0 n0 c0] 23))) :
    wpList Try.prog ops Q (o :: rest) a w := by
  refine Great.wpList_buildSliceTo hg _ 23 1 _ ho _ rfl _ rfl Try.underlying42 _ ?_ h
  have e : (#[(0, x0)].map fun ((i, x) : Nat × Operand) => (i, a.eval x)).toList = [(0, a.eval x0)] := by simp
  rw [e, h0]
  exact built_one ..
/-- What the copies bear: a list's Dots, twenty behind. -/
def Past (us ms : List Lane) : Prop := ∀ j (hj : j < ms.length) (hj' : j < us.length), ms[j].l = marks us[j].l.length (1000 + j) ++ marks 20 (2000 + j)
theorem Past.nil (us : List Lane) : Past us [] := fun j hj _ => absurd hj (by simp)
theorem Past.snoc {us ms : List Lane} (h : Past us ms) (G : Lane) (hk : ms.length < us.length) (e : G.l = marks us[ms.length].l.length (1000 + ms.length) ++ marks 20 (2000 + ms.length)) : Past us (ms ++ [G]) := by
  intro j hj hj'
  rw [List.getElem_append]
  split
  · exact h j _ hj'
  · rename_i hn
    have : j = ms.length := by simp at hj; omega
    subst this
    simpa using e
theorem past_lt {mk : List Dt} {n a b : Nat} (h : mk = marks n a ++ marks 20 b) {t : Nat} (ht : t < mk.length) (hn : t < n) : mk[t] = ⟨(a : Int), (t : Int)⟩ := by
  subst h
  rw [List.getElem_append_left (by rwa [marks_len]), marks_get]
theorem past_ge {mk : List Dt} {n a b : Nat} (h : mk = marks n a ++ marks 20 b) {t : Nat} (ht : t < mk.length) (hn : ¬ t < n) : mk[t] = ⟨(b : Int), ((t - n : Nat) : Int)⟩ := by
  subst h
  rw [List.getElem_append_right (by rw [marks_len]; omega), marks_get, marks_len]
theorem marks_at {lk : List Dt} {a : Nat} (h : lk = marks lk.length a) {t : Nat} (ht : t < lk.length) : lk[t] = ⟨(a : Int), (t : Int)⟩ := by
  have h1 := marks_get lk.length a t (by rwa [marks_len])
  have h2 : lk[t] = (marks lk.length a)[t]'(by rwa [marks_len]) := by congr 1
  rw [h2, h1]
theorem DotsAt.init {w : World} {A : Option Addr} {l m : List Dt} (h : DotsAt w A (l ++ m)) : DotsAt w A l := fun k hk => by
  have := h k (by rw [List.length_append]; omega)
  rwa [List.getElem_append_left hk] at this
/-- What the last loop reads. -/
theorem MAt.facts {w : World} {N : Nat} {A B : Option Addr} {l m : List Dt} {gd : Nat} {dq : Int} {g : Nat} {sv : Value} {bs : List Int} {gs gm sc mc : Nat} {us ms : List Lane} {X : Lane} {N2 : Nat} {W : World}
    (h : MAt w N A B l m gd dq g sv bs (.slice (some ⟨gs, 0, none⟩) us.length sc) us N2 (.slice (some ⟨gm, 0, none⟩) ms.length mc) ms (ms ++ [X]) W) (F : Fix N (.slice (some ⟨gs, 0, none⟩) us.length sc) us N2)
    {k : Nat} (hlu : k < us.length) (hlt : k < ms.length) {Ak Bk : Option Addr} {ck dk : Nat} {lk mk : List Dt} (hL : us[k] = ⟨Ak, ck, lk⟩) (hM : ms[k] = ⟨Bk, dk, mk⟩) :
    W.cell? ⟨gs, k, none⟩ = some (.slice Ak lk.length ck) ∧ W.cell? ⟨gm, k, none⟩ = some (.slice Bk mk.length dk) ∧
      (∀ t (ht : t < mk.length), ∃ gB, Bk = some ⟨gB, 0, none⟩ ∧ W.cell? ⟨gB, t * 2, none⟩ = some (.int .i64 mk[t].site) ∧ W.cell? ⟨gB, t * 2 + 1, none⟩ = some (.int .i64 mk[t].seq)) ∧
      (∀ t (ht : t < lk.length), ∃ gA, Ak = some ⟨gA, 0, none⟩ ∧ W.cell? ⟨gA, t * 2, none⟩ = some (.int .i64 lk[t].site) ∧ W.cell? ⟨gA, t * 2 + 1, none⟩ = some (.int .i64 lk[t].seq)) := by
  refine ⟨?_, ?_, fun t ht => ?_, fun t ht => ?_⟩
  · obtain ⟨g', e, y⟩ := row_at h.z.s hlu
    injection e with e
    injection e with e _ _
    subst e
    rw [y, hL]
    rfl
  · obtain ⟨g', e, y⟩ := row_at h.row hlt
    injection e with e
    injection e with e _ _
    subst e
    rw [y, hM]
    rfl
  · have hO := h.z.lanes.own ms[k] (List.mem_append_left _ (List.getElem_mem hlt))
    rw [hM] at hO
    obtain ⟨gB, e, y0, y1, _⟩ := hO.cells ht
    exact ⟨gB, e, y0, y1⟩
  · have hd := h.lists us[k] (List.getElem_mem hlu)
    have hf := F.form us[k] (List.getElem_mem hlu)
    rw [hL] at hd hf
    obtain ⟨gA, e, _⟩ := hf (by simp only; omega)
    simp only at e hd
    subst e
    obtain ⟨y0, y1⟩ := hd.lane ht
    exact ⟨gA, rfl, y0, y1⟩
end Go.Proofs.Ytlefbnnlcacheaa
