/- A region that draws its order: a list is copied behind an empty literal, and a mark is laid behind it. Conditions: the list lies in memory. · An image as data, and how it lies in memory. No condition. · The reference's places of a document, in plain Lean: index, end of a subtree, place of an insertion, insertion. No program in sight. -/
import Derived.Test.YtnajbkccaclkcaaGreatIM8
namespace Go.Proofs.YtnajbkccaclkcaaGreat
open Go Go.RowKit

section
variable {P : Program} {ops : Array Oper} {md : Region.Mode} {Q : Exit → Act → World → Prop} {S : World → Prop} {L : Nat}
/-- Whatever comes up next; S holds behind each operation but number L. -/
def AnyG (P : Program) (md : Region.Mode) (ops : Array Oper) (Q : Exit → Act → World → Prop) (S : World → Prop) (L : Nat) : Nat → Array Bool → Act → World → Prop
  | 0, listed, a, w => Region.ready md ops listed = [] ∧ Q .normal a w
  | fuel + 1, listed, a, w => (Region.ready md ops listed = [] → Q .normal a w) ∧
      ∀ i ∈ Region.ready md ops listed, wpOp P ops Q i (fun a' w' => (i ≠ L → S w') ∧ AnyG P md ops Q S L fuel (listed.setIfInBounds i true) a' w') a w
theorem AnyG.any : ∀ (fuel : Nat) (listed : Array Bool) (a : Act) (w : World), AnyG P md ops Q S L fuel listed a w → wpAny P md ops Q fuel listed a w
  | 0, _, _, _, h => h
  | fuel + 1, _, _, _, h => ⟨h.1, fun i hi => wpOp_mono (fun a' w' h' => AnyG.any fuel _ a' w' h'.2) (h.2 i hi)⟩
theorem AnyG.first {i : Nat} {oi oL : Oper} {v : Value} (hi : ops[i]? = some oi) (hoL : ops[L]? = some oL) (hdep : (oL.after.any fun e => Region.binds md e && e.on == i) = true) (hsel : ∀ (j : Nat) (o : Oper) cs b, ops[j]? = some o → o.op ≠ .select cs b)
    (hQ : ∀ c a w, Q (.panic c) (a.put oi.dst v) w → Q (.panic c) a w) :
    ∀ (fuel : Nat) (listed : Array Bool) (a : Act) (w : World),
      (∀ j oj, ops[j]? = some oj → j ≠ i → listed.getD j true = false → (∀ e ∈ oj.after, Region.binds md e = true → e.on ≠ i) → oi.apart ops oj = true) →
      i ∈ Region.ready md ops listed → YieldsIf P ops S oi v a → S w →
      AnyG P md ops Q S L fuel (listed.setIfInBounds i true) (a.put oi.dst v) w → AnyG P md ops Q S L (fuel + 1) listed a w := by
  intro fuel
  induction fuel with
  | zero =>
    intro listed a w _ hr hy hS H
    refine ⟨fun h => (by rw [h] at hr; cases hr), fun j hj => ?_⟩
    by_cases hji : j = i
    · subst hji; exact hy.wpOp hi hS ⟨fun _ => hS, H⟩
    · have := ready_mono hj hji
      rw [H.1] at this
      cases this
  | succ fuel ih =>
    intro listed a w hfree hr hy hS H
    refine ⟨fun h => (by rw [h] at hr; cases hr), fun j hj => ?_⟩
    by_cases hji : j = i
    · subst hji; exact hy.wpOp hi hS ⟨fun _ => hS, H⟩
    · have h1 := H.2 j (ready_mono hj hji)
      obtain ⟨hjun, oj, hoj, hall⟩ := mem_ready.1 hj
      have hnot : ∀ e ∈ oj.after, Region.binds md e = true → e.on ≠ i := fun e he hb heq => by
        have h1 := hall e he hb
        have h0 := (mem_ready.1 hr).1
        rw [heq] at h1
        rcases Nat.lt_or_ge i listed.size with h' | h'
        · simp [h'] at h0 h1; rw [h0] at h1; cases h1
        · simp [Array.getElem?_eq_none h'] at h1
      have hjL : j ≠ L := fun e => by
        subst e
        obtain rfl : oj = oL := Option.some.inj (hoj.symm.trans hoL)
        obtain ⟨k, hk, e2⟩ := Array.any_eq_true.1 hdep
        simp only [Bool.and_eq_true, beq_iff_eq] at e2
        exact hnot _ (Array.getElem_mem hk) e2.1 e2.2
      have h2 := wpOp_putIf hoj (hfree j oj hoj hji hjun hnot) (fun cs b => hsel i oi cs b hi) (fun cs b => hsel j oj cs b hoj) hQ hy h1
      have hfree' : ∀ k ok, ops[k]? = some ok → k ≠ i → (listed.setIfInBounds j true).getD k true = false →
          (∀ e ∈ ok.after, Region.binds md e = true → e.on ≠ i) → oi.apart ops ok = true := fun k ok hk hki hun hno => by
        refine hfree k ok hk hki ?_ hno
        by_cases hjk : j = k
        · subst hjk; exact hjun
        · rw [getD_set_ne true hjk] at hun; exact hun
      refine wpOp_mono (fun a' w' h3 => ⟨fun _ => h3.2.1 hjL, ih (listed.setIfInBounds j true) a' w' hfree' (ready_mono hr (Ne.symm hji)) h3.1 (h3.2.1 hjL) ?_⟩) h2
      rw [Array.setIfInBounds_comm _ _ hji]
      exact h3.2.2
theorem AnyG.takeTo {i : Nat} {oi oL : Oper} {v : Value} {fuel : Nat} {listed : Array Bool} {a : Act} {w : World} (t : Tmp) (hi : ops[i]? = some oi) (hd : oi.dst = some t) (hoL : ops[L]? = some oL) (hdep : (oL.after.any fun e => Region.binds md e && e.on == i) = true)
    (hs : Region.noSelect ops = true) (hf : Region.free md ops listed i = true) (hr : (Region.ready md ops listed).contains i = true)
    (hQ : ∀ c a w, Q (.panic c) (a.put (some t) v) w → Q (.panic c) a w) (hg : oi.guard = none) (hS : S w) (hy : ∀ w, S w → (execOp a.eval oi).run P w = .ok (.value v) w)
    (h : AnyG P md ops Q S L fuel (listed.setIfInBounds i true) { a with tmps := a.tmps.setIfInBounds t v } w) : AnyG P md ops Q S L (fuel + 1) listed a w :=
  AnyG.first hi hoL hdep (Region.noSelect_spec hs) (by rw [hd]; exact hQ) fuel listed a w (Region.free_spec hi hf) (by simpa using hr) (.inl ⟨by simp [Region.wanted, hg], hy⟩) hS (by rw [hd]; exact h)
def AllG (P : Program) (md : Region.Mode) (ops : Array Oper) (Q : Exit → Act → World → Prop) (S : World → Prop) (L : Nat) (fuel : Nat) (listed : Array Bool) (a : Act) (w : World) (rs : List Nat) : Prop :=
  ∀ i ∈ rs, wpOp P ops Q i (fun a' w' => (i ≠ L → S w') ∧ AnyG P md ops Q S L fuel (listed.setIfInBounds i true) a' w') a w
theorem AllG.nil {fuel : Nat} {listed : Array Bool} {a : Act} {w : World} : AllG P md ops Q S L fuel listed a w [] := fun _ h => by cases h
theorem AllG.law {fuel : Nat} {listed : Array Bool} {a : Act} {w : World} {i : Nat} {o : Oper} {rs : List Nat} (ho : ops[i]? = some o)
    (h : ∀ K : Act → World → Prop, Shut (∀ a w, (i ≠ L → S w) → AnyG P md ops Q S L fuel (listed.setIfInBounds i true) a w → K a w) → wpList P ops (Post1 Q K) [o] a w)
    (hs : AllG P md ops Q S L fuel listed a w rs) : AllG P md ops Q S L fuel listed a w (i :: rs) := fun j hj => by
  rcases List.mem_cons.1 hj with rfl | hj
  · exact wpOp_list ho (h _ (fun a w hS hW => ⟨hS, hW⟩))
  · exact hs j hj
theorem AnyG.ready {rs : List Nat} {fuel : Nat} {listed : Array Bool} {a : Act} {w : World} (hr : Region.ready md ops listed = rs) (hne : rs ≠ [])
    (h : AllG P md ops Q S L fuel listed a w rs) : AnyG P md ops Q S L (fuel + 1) listed a w := ⟨fun h0 => absurd (hr ▸ h0) hne, fun i hi => h i (hr ▸ hi)⟩
theorem AnyG.one {fuel : Nat} {listed : Array Bool} {a : Act} {w : World} {i : Nat} {o : Oper} (hr : Region.ready md ops listed = [i]) (ho : ops[i]? = some o)
    (h : ∀ K : Act → World → Prop, Shut (∀ a w, (i ≠ L → S w) → AnyG P md ops Q S L fuel (listed.setIfInBounds i true) a w → K a w) → wpList P ops (Post1 Q K) [o] a w) : AnyG P md ops Q S L (fuel + 1) listed a w :=
  AnyG.ready hr (by simp) (AllG.law ho h AllG.nil)
theorem AnyG.done {listed : Array Bool} {a : Act} {w : World} (hr : Region.ready md ops listed = []) (h : Q .normal a w) : ∀ fuel, AnyG P md ops Q S L fuel listed a w
  | 0 => ⟨hr, h⟩
  | _ + 1 => ⟨fun _ => h, by rw [hr]; simp⟩
theorem wp_region_G {id : Nat} {a : Act} {w : World} (L : Nat) (hm : P.follows .mixedOrders = true) (hS : S w.drew)
    (h : S w.drew → AnyG P .any ops Q S L ops.size (Array.replicate ops.size false) a w.drew) : (Code.region id ops true).wp P Q a w :=
  wp_region_any hm (AnyG.any _ _ _ _ (h hS))
end
theorem put_comm (a : Act) {s s' : Nat} (h : s ≠ s') (v v' : Value) : (a.put (some s) v).put (some s') v' = (a.put (some s') v').put (some s) v := by
  unfold Act.put
  simp only
  congr 1
  exact Array.setIfInBounds_comm _ _ h
theorem put_get (a : Act) {s : Nat} (h : s < a.tmps.size) (v : Value) : (a.put (some s) v).eval (.tmp s) = v := by
  simp [Act.put, Act.eval, h]
theorem put_ne (a : Act) {s s' : Nat} (h : s ≠ s') (v : Value) : (a.put (some s) v).eval (.tmp s') = a.eval (.tmp s') := by
  simp [Act.put, Act.eval, h]
theorem put_size (a : Act) (s : Nat) (v : Value) : (a.put (some s) v).tmps.size = a.tmps.size := by
  simp [Act.put]
section
variable {P : Program} {ops : Array Oper} {md : Region.Mode} {Q : Exit → Act → World → Prop} {t e : TypeId} {size bytes : Nat} {w0 : World} {S : World → Prop} {L : Nat}
theorem lent_six (E : Elt P t e size bytes) {i6 s3 s5 s6 : Nat} {o6 : Oper} {listed : Array Bool} {a : Act} {W : World} {fuel n : Nat} {xs : List Value} {cs : Array Value}
    (hi6 : ops[i6]? = some o6) (d6 : o6.dst = some s6) (g6 : o6.guard = none) (p6 : o6.op = .call { callee := .builtin .append, args := #[.tmp s3, .tmp s5], argTypes := #[t, t] })
    (r6 : Region.ready md ops listed = [i6]) {A' : Option Addr} {c' g5 : Nat} (hv3 : a.eval (.tmp s3) = .slice A' n c') (hv5 : a.eval (.tmp s5) = .slice (some ⟨g5, 0, none⟩) 1 1)
    (hrow : W.ownsRow w0.heap.size e size (.slice A' n c') n xs) (hc : CellsAt W (some ⟨g5, 0, none⟩) cs.toList) (hcs : cs.size = 1 * size) (hcs1 : ∀ u ∈ cs.toList, u.oneCell' = true) (hn : (n + 1) * bytes ≤ 140737488355328)
    (hSS : ∀ W', Kept (fun _ => False) w0 W' → S W') (hS : Kept (fun _ => False) w0 W)
    (hfin : ∀ A1 c1 W', Hid (W'.ownsRow w0.heap.size e size (.slice A1 (n + 1) c1) (n + 1) (xs ++ cs.toList)) → Kept (fun _ => False) w0 W' → AnyG P md ops Q S L fuel (listed.setIfInBounds i6 true) (a.put (some s6) (.slice A1 (n + 1) c1)) W') :
    AnyG P md ops Q S L (fuel + 1) listed a W := by
  refine AnyG.one r6 hi6 fun K hK => ?_
  refine wpList_append_kit E g6 _ _ p6 w0.heap.size (.slice A' n c') n xs hv3 hrow (some ⟨g5, 0, none⟩) 1 1 cs.toList hv5 (fun e => by cases e) (by simpa using hcs) (fun j u hj => hc j u hj) hcs1 hn hS.size ?_
  intro A1 c1 W' h1 h2 _
  have hk : Kept (fun _ => False) w0 W' := hS.trans h2.out fun k hk e => by
    have := (hrow.lt k e).1
    omega
  rw [d6]
  exact wpList_nil (hK.out _ _ (fun _ => hSS _ hk) (hfin A1 c1 W' h1 hk))
theorem held_lent (E : Elt P t e size bytes) {i0 i3 i5 i6 s0 s3 s4 s5 s6 sx : Nat} {o0 o3 o5 o6 : Oper} {listed : Array Bool} {a : Act} {w : World} {fuel n : Nat} {A : Option Addr} {c : Nat} {xs : List Value} {cs : Array Value}
    (hi0 : ops[i0]? = some o0) (hi3 : ops[i3]? = some o3) (hi5 : ops[i5]? = some o5) (hi6 : ops[i6]? = some o6)
    (d3 : o3.dst = some s3) (g3 : o3.guard = none) (p3 : o3.op = .call { callee := .builtin .append, args := #[.tmp s0, .tmp sx], argTypes := #[t, t] })
    (d6 : o6.dst = some s6) (g6 : o6.guard = none) (p6 : o6.op = .call { callee := .builtin .append, args := #[.tmp s3, .tmp s5], argTypes := #[t, t] })
    (H0 : ∀ (Q' : Exit → Act → World → Prop) (a' : Act) (W : World), Q' .normal (a'.put (some s0) (.slice (some ⟨W.heap.size, 0, none⟩) 0 0)) (W.alloc (.cells #[] e)) → wpList P ops Q' [o0] a' W)
    (H5 : ∀ (Q' : Exit → Act → World → Prop) (a' : Act) (W : World), a'.eval (.tmp s4) = a.eval (.tmp s4) → Q' .normal (a'.put (some s5) (.slice (some ⟨W.heap.size, 0, none⟩) 1 1)) (W.alloc (.cells cs e)) → wpList P ops Q' [o5] a' W)
    (r1 : Region.ready md ops listed = [i0, i5]) (r2 : Region.ready md ops (listed.setIfInBounds i0 true) = [i3, i5]) (r3 : Region.ready md ops (listed.setIfInBounds i5 true) = [i0])
    (r4 : Region.ready md ops ((listed.setIfInBounds i0 true).setIfInBounds i3 true) = [i5]) (r5 : Region.ready md ops ((listed.setIfInBounds i0 true).setIfInBounds i5 true) = [i3])
    (r6 : Region.ready md ops (((listed.setIfInBounds i0 true).setIfInBounds i3 true).setIfInBounds i5 true) = [i6])
    (hs : s0 < a.tmps.size ∧ s3 < a.tmps.size ∧ s5 < a.tmps.size) (hne : s0 ≠ s3 ∧ s0 ≠ s5 ∧ s3 ≠ s5 ∧ s0 ≠ sx ∧ s3 ≠ sx ∧ s5 ≠ sx ∧ s0 ≠ s4 ∧ s3 ≠ s4 ∧ i0 ≠ i5 ∧ i3 ≠ i5)
    (hx : a.eval (.tmp sx) = .slice A n c) (hnil : A = none → n = 0 ∧ c = 0) (hcells : CellsAt w0 A xs) (hxl : xs.length = n * size) (h1 : ∀ u ∈ xs, u.oneCell' = true)
    (hcs : cs.size = 1 * size) (hcs1 : ∀ u ∈ cs.toList, u.oneCell' = true) (hn : (n + 1) * bytes ≤ 140737488355328) (hSS : ∀ W', Kept (fun _ => False) w0 W' → S W') (hS : Kept (fun _ => False) w0 w)
    (hfin : ∀ A1 c1 v0 v3 v5 W', Hid (W'.ownsRow w0.heap.size e size (.slice A1 (n + 1) c1) (n + 1) (xs ++ cs.toList)) → Kept (fun _ => False) w0 W' → AnyG P md ops Q S L fuel ((((listed.setIfInBounds i0 true).setIfInBounds i3 true).setIfInBounds i5 true).setIfInBounds i6 true) ((((a.put (some s0) v0).put (some s3) v3).put (some s5) v5).put (some s6) (.slice A1 (n + 1) c1)) W') :
    AnyG P md ops Q S L (fuel + 4) listed a w := by
  obtain ⟨z0, z3, z5⟩ := hs
  obtain ⟨n1, n2, n3, n4, n5, n6, n7, n8, n9, n10⟩ := hne
  have hn' : (0 + n) * bytes ≤ 140737488355328 := by
    rw [Nat.zero_add]
    exact Nat.le_trans (Nat.mul_le_mul_right _ (Nat.le_succ n)) hn
  refine AnyG.ready r1 (by simp) (AllG.law hi0 (fun K hK => ?_) (AllG.law hi5 (fun K hK => ?_) AllG.nil))
  · -- the empty literal first
    refine H0 _ _ _ ?_
    have hk1 : Kept (fun _ => False) w0 (w.alloc (.cells #[] e)) := hS.alloc _
    have hr1 := World.ownsRow_made (e := e) (size := size) (base := w0.heap.size) w #[] 0 hS.size (Nat.zero_le _) (by simp)
    have hbig : w0.heap.size ≤ w.heap.size := hS.size
    have hbsz : (w.alloc (.cells #[] e)).heap.size = w.heap.size + 1 := by simp
    generalize w.alloc (.cells #[] e) = W1 at hk1 hr1 hbsz ⊢
    refine hK.out _ _ (fun _ => hSS _ hk1) ?_
    refine AnyG.ready r2 (by simp) (AllG.law hi3 (fun K2 hK2 => ?_) (AllG.law hi5 (fun K2 hK2 => ?_) AllG.nil))
    · -- 0, 3, 5
      refine wpList_append_kit E g3 _ _ p3 w0.heap.size (.slice (some ⟨w.heap.size, 0, none⟩) 0 0) 0 [] (by rw [put_get _ z0]) hr1 A n c xs (by rw [put_ne _ n4]; exact hx) hnil hxl (fun j u hj => (hcells.fresh hk1) j u hj) h1 hn' hk1.size ?_
      intro A' c' W2 hr2 hk2 _
      have hk2' : Kept (fun _ => False) w0 W2 := hk1.trans hk2.out fun k hk e => by
        have := (hr1.lt k e).1
        omega
      rw [d3]
      refine wpList_nil (hK2.out _ _ (fun _ => hSS _ hk2') ?_)
      refine AnyG.one r4 hi5 fun K3 hK3 => ?_
      refine H5 _ _ _ (by rw [put_ne _ n8, put_ne _ n7]) ?_
      refine hK3.out _ _ (fun _ => hSS _ (hk2'.alloc _)) ?_
      have hr3 := hr2.out.alloc (.cells cs e)
      rw [Nat.zero_add, List.nil_append] at hr3
      rw [Nat.zero_add]
      refine lent_six E hi6 d6 g6 p6 r6 (A' := A') (c' := c') (g5 := W2.heap.size) (by rw [put_ne _ n3.symm, put_get _ (by rw [put_size]; exact z3)]) (by rw [put_get _ (by rw [put_size, put_size]; exact z5)]) hr3 (CellsAt.of_box (Box.new W2 e cs) rfl) hcs hcs1 hn hSS (hk2'.alloc _) ?_
      intro A1 c1 W' hr hk
      exact hfin A1 c1 _ _ _ W' hr hk
    · -- 0, 5, 3
      refine H5 _ _ _ (by rw [put_ne _ n7]) ?_
      have hk2 : Kept (fun _ => False) w0 (W1.alloc (.cells cs e)) := hk1.alloc _
      have hr2 := hr1.alloc (.cells cs e)
      have hb2 := Box.new W1 e cs
      generalize W1.alloc (.cells cs e) = W2 at hk2 hr2 hb2 ⊢
      refine hK2.out _ _ (fun _ => hSS _ hk2) ?_
      refine AnyG.one r5 hi3 fun K3 hK3 => ?_
      refine wpList_append_kit E g3 _ _ p3 w0.heap.size (.slice (some ⟨w.heap.size, 0, none⟩) 0 0) 0 [] (by rw [put_ne _ n2.symm, put_get _ z0]) hr2 A n c xs (by rw [put_ne _ n6, put_ne _ n4]; exact hx) hnil hxl (fun j u hj => (hcells.fresh hk2) j u hj) h1 hn' hk2.size ?_
      intro A' c' W3 hr3 hk3 _
      have hk3' : Kept (fun _ => False) w0 W3 := hk2.trans hk3.out fun k hk e => by
        have := (hr2.lt k e).1
        omega
      have hb3 : Box W3 W1.heap.size e cs := hb2.kept hk3.out fun e => by
        have e' : w.heap.size = W1.heap.size := by injection e
        omega
      rw [d3]
      refine wpList_nil (hK3.out _ _ (fun _ => hSS _ hk3') ?_)
      have hr4 := hr3.out
      rw [Nat.zero_add, List.nil_append] at hr4
      rw [Nat.zero_add, Array.setIfInBounds_comm _ _ n10.symm]
      refine lent_six E hi6 d6 g6 p6 r6 (A' := A') (c' := c') (g5 := W1.heap.size) (by rw [put_get _ (by rw [put_size, put_size]; exact z3)]) (by rw [put_ne _ n3, put_get _ (by rw [put_size]; exact z5)]) hr4 (CellsAt.of_box hb3 rfl) hcs hcs1 hn hSS hk3' ?_
      intro A1 c1 W' hr hk
      rw [put_comm _ n3.symm]
      exact hfin A1 c1 _ _ _ W' hr hk
  · -- 5, 0, 3
    refine H5 _ _ _ rfl ?_
    have hk1 : Kept (fun _ => False) w0 (w.alloc (.cells cs e)) := hS.alloc _
    have hb1 := Box.new w e cs
    have hbig : w0.heap.size ≤ w.heap.size := hS.size
    have hbsz : (w.alloc (.cells cs e)).heap.size = w.heap.size + 1 := by simp
    generalize w.alloc (.cells cs e) = W1 at hk1 hb1 hbsz ⊢
    refine hK.out _ _ (fun _ => hSS _ hk1) ?_
    refine AnyG.one r3 hi0 fun K2 hK2 => ?_
    refine H0 _ _ _ ?_
    have hk2 : Kept (fun _ => False) w0 (W1.alloc (.cells #[] e)) := hk1.alloc _
    have hr2 := World.ownsRow_made (e := e) (size := size) (base := w0.heap.size) W1 #[] 0 hk1.size (Nat.zero_le _) (by simp)
    have hb2 := hb1.alloc (.cells #[] e)
    generalize W1.alloc (.cells #[] e) = W2 at hk2 hr2 hb2 ⊢
    refine hK2.out _ _ (fun _ => hSS _ hk2) ?_
    rw [Array.setIfInBounds_comm _ _ n9.symm]
    refine AnyG.one r5 hi3 fun K3 hK3 => ?_
    refine wpList_append_kit E g3 _ _ p3 w0.heap.size (.slice (some ⟨W1.heap.size, 0, none⟩) 0 0) 0 [] (by rw [put_get _ (by rw [put_size]; exact z0)]) hr2 A n c xs (by rw [put_ne _ n4, put_ne _ n6]; exact hx) hnil hxl (fun j u hj => (hcells.fresh hk2) j u hj) h1 hn' hk2.size ?_
    intro A' c' W3 hr3 hk3 _
    have hk3' : Kept (fun _ => False) w0 W3 := hk2.trans hk3.out fun k hk e => by
      have := (hr2.lt k e).1
      omega
    have hb3 : Box W3 w.heap.size e cs := hb2.kept hk3.out fun e => by
      have e' : W1.heap.size = w.heap.size := by injection e
      omega
    rw [d3]
    refine wpList_nil (hK3.out _ _ (fun _ => hSS _ hk3') ?_)
    have hr4 := hr3.out
    rw [Nat.zero_add, List.nil_append] at hr4
    rw [Nat.zero_add, Array.setIfInBounds_comm _ _ n10.symm]
    refine lent_six E hi6 d6 g6 p6 r6 (A' := A') (c' := c') (g5 := w.heap.size) (by rw [put_get _ (by rw [put_size, put_size]; exact z3)]) (by rw [put_ne _ n3, put_ne _ n2, put_get _ z5]) hr4 (CellsAt.of_box hb3 rfl) hcs hcs1 hn hSS hk3' ?_
    intro A1 c1 W' hr hk
    rw [put_comm a n2.symm, put_comm _ n3.symm]
    exact hfin A1 c1 _ _ _ W' hr hk
end
theorem Kept.cellB {T : Nat → Prop} {w w' : World} {p : Addr} {u : Value} (hk : Kept T w w') (h : w.cell? p = some u) (hT : ¬ T p.block) : w'.cell? p = some u := by
  rw [World.cell?_of_block (w := w) (hk.block _ (World.block_lt_of_cell? w _ h) hT)]
  exact h
end Go.Proofs.YtnajbkccaclkcaaGreat

namespace Go.Proofs.YtnajbkccaclkcaaGreat
open Go Go.RowKit

/-- A node of a document. -/
structure Nd where
  id : Idt
  ref : Idt
  ru : Int
  st : Int
deriving DecidableEq
def Nd.c (x : Nd) : Array Value := #[.int .i64 x.id.time, .int .i64 x.id.site, .int .i64 x.ref.time, .int .i64 x.ref.site, .int .i32 x.ru, .int .i64 x.st]
theorem Nd.c_one (x : Nd) : x.c.toList.all (·.oneCell') = true := rfl
def nds (l : List Nd) : List Value := l.flatMap fun x => x.c.toList
theorem nds_len (l : List Nd) : (nds l).length = l.length * 6 := by
  induction l with
  | nil => rfl
  | cons x l ih =>
    have e : nds (x :: l) = x.c.toList ++ nds l := rfl
    have hx : x.c.toList.length = 6 := rfl
    rw [e, List.length_append, ih, hx, List.length_cons]
    omega
theorem nds_app (l r : List Nd) : nds (l ++ r) = nds l ++ nds r := by simp [nds]
theorem nds_get (l : List Nd) (k : Nat) (hk : k < l.length) (j : Nat) (hj : j < 6) : (nds l)[k * 6 + j]? = l[k].c.toList[j]? := by
  induction l generalizing k with
  | nil => simp at hk
  | cons x l ih =>
    have e : nds (x :: l) = x.c.toList ++ nds l := rfl
    have hx : x.c.toList.length = 6 := rfl
    rw [e]
    cases k with
    | zero => rw [List.getElem?_append_left (by omega)]; simp
    | succ k =>
      rw [List.getElem?_append_right (by omega), hx, show (k + 1) * 6 + j - 6 = k * 6 + j by omega, ih k (by simpa using hk)]
      rfl
theorem nds_one (l : List Nd) : ∀ u ∈ nds l, u.oneCell' = true := by
  intro u hu
  obtain ⟨x, _, hx⟩ := List.mem_flatMap.1 hu
  exact List.all_eq_true.1 x.c_one u hx
theorem info_nd : (Tryz.prog.info? 66).map (fun i => (i.zero, i.size, i.bytes)) = some (some (.agg #[.int .i64 0, .int .i64 0, .int .i64 0, .int .i64 0, .int .i32 0, .int .i64 0]), 6, 48) := by kernel_rfl
theorem size_nd : (Tryz.prog.info? 66).map (·.size) = some 6 := by kernel_rfl
theorem eltNds : Elt Tryz.prog 25 66 6 48 := .of Tryz.underlying25 info_nd rfl (by decide) (by decide)
theorem info_int' : (Tryz.prog.info? 3).map (fun i => (i.zero, i.size, i.bytes)) = some (some (.int .i64 0), 1, 8) := by kernel_rfl
theorem eltInts : Elt Tryz.prog 26 3 1 8 := .of Tryz.underlying26 info_int' rfl (by decide) (by decide)
theorem und_nd : ∃ d, Tryz.prog.underlying 66 = some d ∧ d.isRow = true := ⟨.struct (Tryz.prog.fieldsOf 66), by kernel_rfl, rfl⟩
/-- A node at a place of a row. -/
theorem nd_range {w : World} {b f : Nat} {l : List Nd} (h : ∀ j u, (nds l)[j]? = some u → w.cell? ⟨b, f + j, none⟩ = some u) (q : Nat) (hq : q < l.length) : w.rangeAt b (f + q * 6) l[q].c.toList := fun j v hj => by
  have h6 : j < 6 := (List.getElem?_eq_some_iff.1 hj).1
  have := h (q * 6 + j) v (by rw [nds_get l q hq j h6]; exact hj)
  rw [Nat.add_assoc]
  exact this
theorem lop_range {w : World} {b f : Nat} {l : List Lop} (h : ∀ j u, (lops l)[j]? = some u → w.cell? ⟨b, f + j, none⟩ = some u) (q : Nat) (hq : q < l.length) : w.rangeAt b (f + q * 11) l[q].c.toList := fun j v hj => by
  have h11 : j < 11 := by
    have := (List.getElem?_eq_some_iff.1 hj).1
    rwa [Array.length_toList, Lop.c_size] at this
  have := h (q * 11 + j) v (by rw [lops_get l q hq j h11]; exact hj)
  rw [Nat.add_assoc]
  exact this
section
variable {w : World} {ops : Array Oper} {rest : List Oper} {o : Oper} {a : Act} {Q : Exit → Act → World → Prop}
theorem wpList_load_nd (hgd : o.guard = none) (x : Operand) (ho : o.op = .load 66 x) (b f : Nat) (hx : a.eval x = .pointer (some ⟨b, f, none⟩)) (n : Nd) (hc : w.rangeAt b f n.c.toList)
    (h : wpList Tryz.prog ops Q rest (a.put o.dst (.agg #[.int .i64 n.id.time, .int .i64 n.id.site, .int .i64 n.ref.time, .int .i64 n.ref.site, .int .i32 n.ru, .int .i64 n.st])) w) : wpList Tryz.prog ops Q (o :: rest) a w := by
  obtain ⟨d, hu, hd⟩ := und_nd
  exact wpList_load_mid hgd _ x ho b f hx n.c.toList d hc hu hd size_nd h
theorem wpList_load_lopM (hgd : o.guard = none) (x : Operand) (ho : o.op = .load 64 x) (b f : Nat) (hx : a.eval x = .pointer (some ⟨b, f, none⟩)) (n : Lop) (hc : w.rangeAt b f n.c.toList) (cs : Array Value) (hcs : n.c = cs)
    (h : wpList Tryz.prog ops Q rest (a.put o.dst (.agg cs)) w) : wpList Tryz.prog ops Q (o :: rest) a w := by
  obtain ⟨d, hu, hd⟩ := und_op
  refine wpList_load_mid hgd _ x ho b f hx n.c.toList d hc hu hd (by rw [Array.length_toList]; exact size_op) ?_
  rw [Array.toArray_toList, hcs]
  exact h
theorem wpList_store_nd (hgd : o.guard = none) (x y : Operand) (ho : o.op = .store 66 x y) (g : Nat) (cs : Array Value) (hx : a.eval x = .pointer (some ⟨g, 0, none⟩)) (hy : a.eval y = .agg cs) (old : Array Value) (hg : Box w g 66 old)
    (hs : cs.size = 6) (hold : old.size = 6) (h1 : cs.all (·.oneCell') = true) (h : ∀ w', Hid (Box w' g 66 cs) → Kept (fun k => k = g) w w' → wpList Tryz.prog ops Q rest (a.put o.dst undef) w') : wpList Tryz.prog ops Q (o :: rest) a w :=
  wpList_store_row hgd _ x y ho g cs hx hy 66 old hg (by rw [hs]; exact size_nd) (by rw [hs, hold]) h1
    (h _ (show Box _ _ _ _ from setRow_heap w g old cs _ (0, 0) hg) ⟨rfl, rfl, rfl, by simp [World.setRow], fun k _ hk => setRow_other w g k cs hk⟩)
end
def ndZ : Array Value := #[.int .i64 0, .int .i64 0, .int .i64 0, .int .i64 0, .int .i32 0, .int .i64 0]
/-- An image and where its lists lie. -/
structure Im where
  v : List Dt
  vA : Option Addr
  vc : Nat
  b : List Dt
  bA : Option Addr
  bc : Nat
  clock : Int
  log : List Lop
  lA : Option Addr
  lc : Nat
  nodes : List Nd
  nA : Option Addr
  nc : Nat
  joined : List Int
  jA : Option Addr
  jc : Nat
  left : List Int
  eA : Option Addr
  ec : Nat
  epoch : Int
def Im.c (m : Im) : Array Value := #[.slice m.vA m.v.length m.vc, .slice m.bA m.b.length m.bc, .int .i64 m.clock, .slice m.lA m.log.length m.lc, .slice m.nA m.nodes.length m.nc, .slice m.jA m.joined.length m.jc, .slice m.eA m.left.length m.ec, .int .i64 m.epoch]
/-- Its lists lie there. -/
structure Im.At (w : World) (m : Im) : Prop where
  v : DotsAt w m.vA m.v
  b : DotsAt w m.bA m.b
  log : CellsAt w m.lA (lops m.log)
  ops : ∀ x ∈ m.log, x.At w
  nodes : CellsAt w m.nA (nds m.nodes)
  joined : CellsAt w m.jA (ints m.joined)
  left : CellsAt w m.eA (ints m.left)
theorem Im.At.fresh {w w' : World} {m : Im} (h : m.At w) (hk : Kept (fun _ => False) w w') : m.At w' :=
  ⟨h.v.fresh hk, h.b.fresh hk, h.log.fresh hk, fun x hx => (h.ops x hx).fresh hk, h.nodes.fresh hk, h.joined.fresh hk, h.left.fresh hk⟩
/-- How much there is of an image. -/
structure Im.Small (m : Im) : Prop where
  v : m.v.length ≤ 1000000
  b : m.b.length ≤ 1000000
  log : m.log.length ≤ 1000000
  ops : ∀ x ∈ m.log, x.o.Small
  nodes : m.nodes.length ≤ 1000000
  joined : m.joined.length ≤ 1000000
  left : m.left.length ≤ 1000000
end Go.Proofs.YtnajbkccaclkcaaGreat

namespace Go.Proofs.YtnajbkccaclkcaaGreat

/-- The index of the first node of an identifier; the length, if there is none. -/
def idxN (id : Idt) : List Nd → Nat
  | [] => 0
  | x :: t => if x.id = id then 0 else idxN id t + 1
theorem idxN_le (id : Idt) (l : List Nd) : idxN id l ≤ l.length := by
  induction l with
  | nil => simp [idxN]
  | cons x t ih =>
    simp only [idxN]
    split
    · simp
    · simp; omega
theorem idxN_cons (id : Idt) (x : Nd) (t : List Nd) : idxN id (x :: t) = if x.id = id then 0 else idxN id t + 1 := rfl
def atN (l : List Nd) (id : Idt) : Int := if idxN id l < l.length then (idxN id l : Int) else -1
/-- How many nodes come on that stand behind one of these. -/
def endC : List Idt → List Nd → Nat
  | _, [] => 0
  | U, x :: t => if x.ref ∈ U then endC (U ++ [x.id]) t + 1 else 0
theorem endC_cons (U : List Idt) (x : Nd) (t : List Nd) : endC U (x :: t) = if x.ref ∈ U then endC (U ++ [x.id]) t + 1 else 0 := rfl
theorem endC_le (U : List Idt) (t : List Nd) : endC U t ≤ t.length := by
  induction t generalizing U with
  | nil => simp [endC]
  | cons x t ih =>
    rw [endC_cons]
    split
    · have := ih (U ++ [x.id]); simp; omega
    · simp
/-- How far the siblings go that are passed over. -/
def walkC (id ref : Idt) : List Nd → Nat
  | [] => 0
  | x :: t => if x.ref = ref ∧ ltId id x.id then endC [x.id] t + 1 + walkC id ref (t.drop (endC [x.id] t)) else 0
termination_by l => l.length
decreasing_by simp; omega
theorem walkC_nil (id ref : Idt) : walkC id ref [] = 0 := by rw [walkC]
theorem walkC_cons (id ref : Idt) (x : Nd) (t : List Nd) : walkC id ref (x :: t) = if x.ref = ref ∧ ltId id x.id then endC [x.id] t + 1 + walkC id ref (t.drop (endC [x.id] t)) else 0 := by rw [walkC]
theorem walkC_le (id ref : Idt) (l : List Nd) : walkC id ref l ≤ l.length := by
  obtain ⟨n, hn⟩ : ∃ n, l.length = n := ⟨_, rfl⟩
  induction n using Nat.strongRecOn generalizing l with
  | ind n ih =>
    cases l with
    | nil => rw [walkC_nil]; simp
    | cons x t =>
      rw [walkC_cons]
      split
      · have h1 := endC_le [x.id] t
        have h2 := ih (t.drop (endC [x.id] t)).length (by rw [List.length_drop]; simp at hn; omega) _ rfl
        rw [List.length_drop] at h2
        simp; omega
      · simp
def startN (l : List Nd) (ref : Idt) : Nat := if ref = noId then 0 else idxN ref l + 1
def placeN (l : List Nd) (id ref : Idt) : Nat := startN l ref + walkC id ref (l.drop (startN l ref))
def putN (l : List Nd) (i : Nat) (n : Nd) : List Nd := l.take i ++ n :: l.drop i
theorem putN_len (l : List Nd) (i : Nat) (n : Nd) : (putN l i n).length = l.length + 1 := by
  unfold putN
  simp
  omega
theorem idxN_lt {l : List Nd} {id : Idt} : idxN id l < l.length ↔ id ∈ l.map (·.id) := by
  induction l with
  | nil => simp [idxN]
  | cons x t ih =>
    rw [idxN_cons]
    by_cases h : x.id = id
    · simp [h]
    · rw [if_neg h]
      simp only [List.length_cons, List.map_cons, List.mem_cons]
      rw [show (id = x.id) = False from eq_false fun e => h e.symm, false_or, ← ih]
      omega
theorem placeN_le {l : List Nd} {id ref : Idt} (h : ref = noId ∨ ref ∈ l.map (·.id)) : placeN l id ref ≤ l.length := by
  unfold placeN
  have h1 := walkC_le id ref (l.drop (startN l ref))
  rw [List.length_drop] at h1
  have h2 : startN l ref ≤ l.length := by
    unfold startN
    split
    · simp
    · rename_i h0
      rcases h with h | h
      · exact absurd h h0
      · have := idxN_lt.2 h; omega
  omega
end Go.Proofs.YtnajbkccaclkcaaGreat
