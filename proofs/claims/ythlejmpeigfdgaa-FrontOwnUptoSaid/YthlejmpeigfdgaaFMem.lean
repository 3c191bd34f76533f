/- Fronts in memory: a map of rows. The walk of slices.Clone at Dots. Conditions: the lists lie in memory. -/
import Derived.Test.YthlejmpeigfdgaaFPln
import Derived.Test.YthlejmpeigfdgaaObP
import Derived.Test.YthlejmpeigfdgaaVLat
import Derived.Maps.OwnOps
import Derived.Maps.OwnSet
import Derived.Maps.Views
import Derived.Carry
namespace Go.Proofs.Ythlejmpeigfdgaa
open Go Go.RowKit

theorem eltDots : Elt Try.prog 31 56 2 16 := .of Try.underlying31 info_dot rfl (by decide) (by decide)
theorem add_two (ad : Addr) (k j : Nat) (h : k + 1 = j) : (⟨(ad.add k).block, (ad.add k).off + 1, none⟩ : Addr) = ad.add j := by
  subst h
  unfold Addr.add
  rw [if_neg (show ¬ k + 1 = 0 by omega)]
  split
  · simp_all
  · simp [Nat.add_assoc]
theorem DotsAt.cells {w : World} {A : Option Addr} {l : List Dt} (h : DotsAt w A l) : ∀ j u, (dots l)[j]? = some u → ∃ ad, A = some ad ∧ w.cell? (ad.add j) = some u := by
  intro j u hj
  have hlt : j < (dots l).length := (List.getElem?_eq_some_iff.1 hj).1
  rw [dots_len] at hlt
  obtain ⟨ad, rfl, x0, x1⟩ := h (j / 2) (by omega)
  obtain ⟨g0, g1⟩ := dots_get l (j / 2) (by omega)
  refine ⟨ad, rfl, ?_⟩
  rcases Nat.mod_two_eq_zero_or_one j with h2 | h2
  · have e : j / 2 * 2 = j := by omega
    rw [e] at x0 g0
    rw [x0, ← g0, hj]
  · have e : j / 2 * 2 + 1 = j := by omega
    rw [e] at g1
    have : (⟨(ad.add (j / 2 * 2)).block, (ad.add (j / 2 * 2)).off + 1, none⟩ : Addr) = ad.add j := add_two ad _ j e
    rw [← this, x1, ← g1, hj]
set_option maxRecDepth 100000 in
set_option maxHeartbeats 1600000 in
theorem CloneD_any (A : Option Addr) (l : List Dt) (c : Nat) (w : World) (hl : DotsAt w A l) (hlen : l.length ≤ 1000000) :
    Calls Try.prog 37 #[.slice A l.length c] w (FreshDots w l) := by
  have hq := fun W a n c n' c' => Lib.run_eql_slice_nil (P := Try.prog) W 31 56 a n c n' c' Try.underlying31
  have hn : A = none → l = [] := fun h => by
    subst h
    rcases Nat.eq_zero_or_pos l.length with h0 | h0
    · exact List.eq_nil_of_length_eq_zero h0
    · obtain ⟨_, e, _⟩ := hl 0 h0
      cases e
  cases A with
  | none =>
    obtain rfl := hn rfl
    clear hl hn
    go_enter Try.func37, Try.ntmps37
    go_wp2
    go_ret
    exact ⟨none, 0, rfl, World.ownsRow_nil _ _ _ _, Kept.refl _ _⟩
  | some ad =>
    have HL := Lib.hid hl
    have HLC := Lib.hid hl.cells
    have HE := Lib.hid (World.ownsRow_made (e := 56) (size := 2) (base := w.heap.size) w #[] 0 (Nat.le_refl _) (Nat.zero_le _) rfl)
    have HK := Lib.hid ((Kept.refl (fun _ => False) w).alloc (.cells #[] 56))
    clear hl hn
    go_enter Try.func37, Try.ntmps37
    go_wp2_with (at_builtin; refine wpList_append_kit eltDots rfl _ _ rfl w.heap.size _ 0 [] rfl HE.out (some ad) l.length c (dots l) rfl (fun h => by cases h) (dots_len l) (fun j u hj => by (obtain ⟨ad', e, h0⟩ := HLC.out j u hj; exact ⟨ad', e, Lib.cell?_alloc_some _ h0⟩)) (dots_one l) (by omega) (by simp) ?_; intro A' c' w1 HO HK1 HG)
    have HK2 := Lib.hid (HK.out.trans HK1.out fun k hk e => by (have e' : w.heap.size = k := by injection e); omega)
    clear HK HK1 HG HE
    go_wp2
    go_ret
    refine ⟨A', c', rfl, ?_, HK2.out⟩
    have := HO.out
    rw [Nat.zero_add, List.nil_append] at this
    exact this

/-- A row, and where its lists lie. -/
structure Fe where
  c : Fp
  aA : Option Addr
  aC : Nat
  bA : Option Addr
  bC : Nat
def Fe.aV (x : Fe) : Value := .slice x.aA x.c.a.length x.aC
def Fe.bV (x : Fe) : Value := .slice x.bA x.c.b.length x.bC
def Fe.v (x : Fe) : Value := .agg #[x.aV, x.bV]
structure FeAt (w : World) (F : Nat → Prop) (x : Fe) : Prop where
  a : w.ownsRow 0 56 2 x.aV x.c.a.length (dots x.c.a)
  b : w.ownsRow 0 56 2 x.bV x.c.b.length (dots x.c.b)
  Fa : ∀ k, x.aV.ownBlock = some k → F k
  Fb : ∀ k, x.bV.ownBlock = some k → F k
/-- How a map's value reads: as it is. -/
def rowElem (v : Value) : Option (DataW Value × List MemPlace) := some (.held v, [])
theorem rowElem_inv {v u : Value} {ps : List MemPlace} (h : rowElem v = some (.held u, ps)) : v = u := by
  injection h with h
  injection h with h _
  injection h
structure FMapIs (D : DataW Value) (es : List Fe) : Prop where
  is : Maps.IsMap D
  has : ∀ n : Int, Maps.has D (.int .i64 n) = es.any fun x => x.c.is n
  at_ : ∀ x ∈ es, ∀ z, D.atKey (.int .i64 x.c.site) z = .held x.v
theorem FMapIs.nil : FMapIs (.map []) [] := ⟨Maps.isMap_empty, fun _ => rfl, fun x hx => by simp at hx⟩
theorem FMapIs.add {D : DataW Value} {es : List Fe} {x : Fe} (h : FMapIs D es) (hnew : ∀ y ∈ es, y.c.site ≠ x.c.site) : FMapIs (D.put (.int .i64 x.c.site) (.held x.v)) (es ++ [x]) := by
  refine ⟨h.is.put _ _, fun n => ?_, fun y hy z => ?_⟩
  · by_cases hn : n = x.c.site
    · subst hn
      rw [Maps.has_put_same h.is (show WideAt.IsKeyLit (.int .i64 x.c.site) from trivial)]
      simp [Fp.is]
    · rw [Maps.has_put_other (fun e => hn (by injection e)), h.has]
      simp [Fp.is, Ne.symm hn]
  · rcases List.mem_append.1 hy with hy | hy
    · rw [Maps.atKey_put_other (fun e => hnew y hy (by injection e)), h.at_ y hy]
    · obtain rfl : y = x := by simpa using hy
      exact Maps.atKey_put_same h.is (show WideAt.IsKeyLit (.int .i64 y.c.site) from trivial) _ z
/-- One row is written anew. -/
theorem FMapIs.turn {D : DataW Value} {es : List Fe} {x : Fe} (h : FMapIs D es) (hin : es.any (fun y => y.c.is x.c.site) = true) : FMapIs (D.put (.int .i64 x.c.site) (.held x.v)) (es.map fun y => if y.c.is x.c.site = true then x else y) := by
  have hs : ∀ y : Fe, (if y.c.is x.c.site = true then x else y).c.site = y.c.site := fun y => by
    split
    · rename_i e; simp only [Fp.is, decide_eq_true_eq] at e; exact e.symm
    · rfl
  refine ⟨h.is.put _ _, fun n => ?_, fun y hy z => ?_⟩
  · have e1 : (es.map fun y => if y.c.is x.c.site = true then x else y).any (fun y => y.c.is n) = es.any fun y => y.c.is n := by
      rw [List.any_map]
      congr 1
      funext y
      show decide ((if y.c.is x.c.site = true then x else y).c.site = n) = decide (y.c.site = n)
      rw [hs]
    rw [e1]
    by_cases hn : n = x.c.site
    · subst hn
      rw [Maps.has_put_same h.is (show WideAt.IsKeyLit (.int .i64 x.c.site) from trivial), hin]
    · rw [Maps.has_put_other (fun e => hn (by injection e)), h.has]
  · obtain ⟨u, hu, rfl⟩ := List.mem_map.1 hy
    rw [hs]
    by_cases e : u.c.is x.c.site = true
    · rw [if_pos e]
      simp only [Fp.is, decide_eq_true_eq] at e
      rw [e]
      exact Maps.atKey_put_same h.is (show WideAt.IsKeyLit (.int .i64 x.c.site) from trivial) _ z
    · rw [if_neg e]
      simp only [Fp.is, decide_eq_true_eq] at e
      rw [Maps.atKey_put_other (fun e2 => e (by injection e2)), h.at_ u hu]
/-- A Front: its block; none or a block with a map of rows. -/
structure FrAt (w : World) (p : Nat) (F : Nat → Prop) (s : List Fp) (es : List Fe) (n : Nat) : Prop where
  tie : es.map (·.c) = s
  box : (es = [] ∧ Box w p 38 #[.pointer none]) ∨ ∃ q b D, Box w p 38 #[.pointer (some ⟨q, 0, none⟩)] ∧ Box w q 70 #[.map (some b)] ∧ F q ∧ F b ∧ w.ownsMap Try.prog 3 rowElem b n D ∧ FMapIs D es
  fp : F p
  ats : ∀ x ∈ es, FeAt w F x
  lt : ∀ k, F k → k < w.heap.size
  ok : FsOk s
section
variable {w w' : World} {p n : Nat} {F : Nat → Prop} {S : Nat → Prop} {s : List Fp} {es : List Fe} {x : Fe}
theorem FeAt.kept (h : FeAt w F x) (hk : Kept S w w') (hS : ∀ k, F k → ¬ S k) : FeAt w' F x := ⟨hk.own h.a fun k e => hS _ (h.Fa k e), hk.own h.b fun k e => hS _ (h.Fb k e), h.Fa, h.Fb⟩
theorem ownsMapF_kept {P : Program} {k : TypeId} {R : Value → Option (DataW Value × List MemPlace)} {b n : Nat} {D : DataW Value} (h : w.ownsMap P k R b n D) (hk : Kept S w w') (hb : ¬ S b) : w'.ownsMap P k R b n D := by
  have hlt := h.lt
  obtain ⟨es, clock, hb', F, hs, hD⟩ := h
  exact ⟨es, clock, (hk.block _ hlt hb).trans hb', F, hs, hD⟩
theorem FrAt.kept (h : FrAt w p F s es n) (hk : Kept S w w') (hS : ∀ k, F k → ¬ S k) : FrAt w' p F s es n := by
  refine ⟨h.tie, h.box.imp (fun e => ⟨e.1, e.2.kept hk (hS _ h.fp)⟩) ?_, h.fp, fun x hx => (h.ats x hx).kept hk hS, fun k e => Nat.lt_of_lt_of_le (h.lt k e) hk.size, h.ok⟩
  rintro ⟨q, b, D, h1, h2, h3, h4, h5, h6⟩
  exact ⟨q, b, D, h1.kept hk (hS _ h.fp), h2.kept hk (hS _ h3), h3, h4, ownsMapF_kept h5 hk (hS _ h4), h6⟩
theorem FrAt.fresh (h : FrAt w p F s es n) (hk : Kept (fun _ => False) w w') : FrAt w' p F s es n := h.kept hk fun _ _ => id
theorem FrAt.get_of (h : FrAt w p F s es n) {m : Int} (ha : es.any (fun x => x.c.is m) = true) : ∃ x ∈ es, getF s m = some x.c ∧ x.c.site = m := by
  have h1 : (s.find? (Fp.is m)).isSome = true := by
    rw [List.find?_isSome]
    obtain ⟨x, hx, hi⟩ := List.any_eq_true.1 ha
    exact ⟨x.c, by rw [← h.tie]; exact List.mem_map_of_mem hx, hi⟩
  obtain ⟨c, hc⟩ := Option.isSome_iff_exists.1 h1
  obtain ⟨h2, h3⟩ := getF_mem (s := s) (n := m) hc
  rw [← h.tie] at h2
  obtain ⟨x, hx, rfl⟩ := List.mem_map.1 h2
  exact ⟨x, hx, hc, h3⟩
theorem FrAt.get_no (h : FrAt w p F s es n) {m : Int} (ha : es.any (fun x => x.c.is m) = false) : getF s m = none := by
  unfold getF
  rw [List.find?_eq_none]
  intro c hc
  rw [← h.tie] at hc
  obtain ⟨x, hx, rfl⟩ := List.mem_map.1 hc
  have := List.any_eq_false.1 ha x hx
  simpa using this
end
theorem size_frow : (Try.prog.info? 68).map (·.size) = some 2 := by kernel_rfl
theorem und_frow : ∃ d, Try.prog.underlying 68 = some d ∧ d.isRow = true := ⟨.struct (Try.prog.fieldsOf 68), by kernel_rfl, rfl⟩
end Go.Proofs.Ythlejmpeigfdgaa
