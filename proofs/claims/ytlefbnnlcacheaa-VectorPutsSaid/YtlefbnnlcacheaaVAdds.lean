/- The walk of the law VectorAdds: it returns true, whatever the list and the two Dots. Conditions: the Dots lie in memory as DotsAt says. -/
import Derived.Test.YtlefbnnlcacheaaVHave
import Derived.Deep.DrawnRows
namespace Go.Proofs.Ytlefbnnlcacheaa
open Go.RowKit

/-- The cells of a Dot. -/
def dotV (d : Dt) : Array Value := #[.int .i64 d.site, .int .i64 d.seq]
structure AddsAt (w : World) (A B : Option Addr) (l x : List Dt) (d o : Dt) (wr : World) : Prop where
  v : DotsAt wr A l
  x : DotsAt wr B x
  bd : Box wr w.heap.size 25 (dotV d)
  bo : Box wr (w.heap.size + 1) 25 (dotV o)
  k : Kept (fun _ => False) w wr
section
variable {w : World} {A B : Option Addr} {l x : List Dt} {d o : Dt} {w1 w2 : World}
theorem AddsAt.fresh (h : AddsAt w A B l x d o w1) (hk : Kept (fun _ => False) w1 w2) : AddsAt w A B l x d o w2 := ⟨h.v.fresh hk, h.x.fresh hk, h.bd.kept hk id, h.bo.kept hk id, h.k.trans hk fun _ _ e => e⟩
theorem AddsAt.cells (h : AddsAt w A B l x d o w1) : w1.cell? ⟨w.heap.size, 0, none⟩ = some (.int .i64 d.site) ∧ w1.cell? ⟨w.heap.size, 1, none⟩ = some (.int .i64 d.seq) ∧ w1.cell? ⟨w.heap.size + 1, 0, none⟩ = some (.int .i64 o.site) ∧ w1.cell? ⟨w.heap.size + 1, 1, none⟩ = some (.int .i64 o.seq) :=
  ⟨by simpa [dotV] using h.bd.cell 0, by simpa [dotV] using h.bd.cell 1, by simpa [dotV] using h.bo.cell 0, by simpa [dotV] using h.bo.cell 1⟩
theorem AddsAt.S (h : AddsAt w A B l x d o w1) : w1.cell? ⟨w.heap.size, 0, none⟩ = some (.int .i64 d.site) ∧ w1.cell? ⟨w.heap.size, 1, none⟩ = some (.int .i64 d.seq) ∧ w1.cell? ⟨w.heap.size + 1, 0, none⟩ = some (.int .i64 o.site) ∧ w1.cell? ⟨w.heap.size + 1, 1, none⟩ = some (.int .i64 o.seq) ∧ Hid (AddsAt w A B l x d o w1) :=
  ⟨h.cells.1, h.cells.2.1, h.cells.2.2.1, h.cells.2.2.2, Lib.hid h⟩
theorem AddsAt.ofS (h : w1.cell? ⟨w.heap.size, 0, none⟩ = some (.int .i64 d.site) ∧ w1.cell? ⟨w.heap.size, 1, none⟩ = some (.int .i64 d.seq) ∧ w1.cell? ⟨w.heap.size + 1, 0, none⟩ = some (.int .i64 o.site) ∧ w1.cell? ⟨w.heap.size + 1, 1, none⟩ = some (.int .i64 o.seq) ∧ Hid (AddsAt w A B l x d o w1)) : AddsAt w A B l x d o w1 := h.2.2.2.2.out
theorem AddsAt.drew (h : AddsAt w A B l x d o w1) : AddsAt w A B l x d o w1.drew := h.fresh (Kept.refl _ _).drew
theorem AddsAt.drawn (n : Nat) (h : AddsAt w A B l x d o w1) : AddsAt w A B l x d o (w1.drewN n) := h.fresh (Kept.drewN_eq n)
end

/-- what Add makes of a row -/
structure AddLaw (l : List Dt) (d : Dt) (r : List Int) : Prop where
  row : Row r
  e : addE l d = 0
  v : addV l d = vec r
  sum : sumR r 17 = sumR (says l) 17 + 1
  cov : coversR r (says l) = true
  no : hasV l d = false
  has : ∀ o, hasV (vec r) o = (hasV l o || decide (o.site = d.site ∧ o.seq = d.seq))
theorem sum_set (r : List Int) (hr : r.length = 17) (i : Nat) (x : Int) (k : Nat) (hk : k ≤ 17) : sumR (r.set i x) k = sumR r k + if i < k then x - rg r i else 0 := by
  induction k with
  | zero => simp [sumR]
  | succ k ih =>
    have := ih (by omega)
    unfold sumR
    by_cases hi : i < 17
    · rw [this, rg_set _ _ _ _ (by omega)]
      by_cases h1 : k = i
      · subst h1
        rw [if_pos rfl, if_neg (by omega), if_pos (by omega)]
        omega
      · rw [if_neg h1]
        by_cases h2 : i < k
        · rw [if_pos h2, if_pos (by omega)]; omega
        · rw [if_neg h2, if_neg (by omega)]; omega
    · rw [this, if_neg (by omega), if_neg (by omega)]
      have : r.set i x = r := by rw [List.set_eq_of_length_le (by omega)]
      rw [this]
      omega
theorem add_law {l : List Dt} {d : Dt} (h1 : siteB d.site = true) (h2 : 1 ≤ d.seq) (h3 : d.seq ≤ 2147483647) (h4 : d.seq = getV l d.site + 1) : AddLaw l d ((says l).set d.site.toNat d.seq) := by
  have hs : 1 ≤ d.site ∧ d.site ≤ 16 := by simpa [siteB] using h1
  have hr := Row.says l
  have hl := hr.len
  have hg : getV l d.site = rg (says l) d.site.toNat := by unfold getV; rw [h1]; rfl
  have hrow : Row ((says l).set d.site.toNat d.seq) := hr.set _ (by omega) (by omega) _ (by omega) (by omega)
  have he : addE l d = 0 := by rw [addE, if_neg (by simp [h1]; omega), if_neg (by omega), if_neg (fun h => h h4)]
  refine ⟨hrow, he, if_pos he, ?_, ?_, ?_, fun o => ?_⟩
  · rw [sum_set _ hl _ _ 17 (Nat.le_refl _), if_pos (by omega)]
    omega
  · rw [covers_iff]
    intro i _
    rw [rg_set _ _ _ _ (by omega)]
    split
    · rename_i e; subst e; omega
    · omega
  · simp [hasV]; omega
  · unfold hasV getV
    rw [says_vec hrow]
    by_cases ho : siteB o.site = true
    · have hso : 1 ≤ o.site ∧ o.site ≤ 16 := by simpa [siteB] using ho
      rw [if_pos ho, if_pos ho, rg_set _ _ _ _ (by omega), Bool.eq_iff_iff]
      by_cases he : o.site.toNat = d.site.toNat
      · have hse : o.site = d.site := by omega
        rw [if_pos he, he, ← hg]
        simp only [decide_eq_true_eq, Bool.or_eq_true]
        omega
      · rw [if_neg he]
        simp only [decide_eq_true_eq, Bool.or_eq_true]
        omega
    · rw [if_neg ho, if_neg ho, Bool.eq_iff_iff]
      simp only [decide_eq_true_eq, Bool.or_eq_true]
      constructor
      · omega
      · rintro (h | ⟨h, _⟩)
        · omega
        · rw [h] at ho; exact absurd h1 ho
set_option maxRecDepth 100000 in
set_option maxHeartbeats 6400000 in
theorem Adds_walk (A : Option Addr) (l : List Dt) (c : Nat) (d o : Dt) (w : World) (hl : DotsAt w A l) :
    Calls Try.prog 5 #[.slice A l.length c, .agg #[.int .i64 d.site, .int .i64 d.seq], .agg #[.int .i64 o.site, .int .i64 o.seq]] w (KnownEnd w) := by
  by_cases h4 : 4000 < l.length
  · go_enter Try.func5, Try.ntmps5
    go_wp2_with (fail)
    refine (known_any _).mono ?_
    rintro e w1 ⟨rfl, hk⟩
    have HK := Lib.hid ((((Kept.refl (fun _ => False) w).alloc _).alloc _).trans hk fun _ _ e => e)
    clear hk
    go_wp2
    go_ret
    exact ⟨rfl, HK.out⟩
  have hlen : l.length ≤ 4611686018427387904 := by omega
  have HZ := Lib.hid (show AddsAt w A none l [] d o ((w.alloc (.cells (dotV d) 25)).alloc (.cells (dotV o) 25)) from by
    have hk := ((Kept.refl (fun _ => False) w).alloc (.cells (dotV d) 25)).alloc (.cells (dotV o) 25)
    refine ⟨hl.fresh hk, DotsAt.nil, (Box.new w _ _).alloc _, ?_, hk⟩
    have := Box.new (w.alloc (.cells (dotV d) 25)) 25 (dotV o)
    simpa using this)
  obtain ⟨n, hn⟩ : ∃ n, getV l d.site = n := ⟨_, rfl⟩
  have hnb : 0 ≤ n ∧ n ≤ 2147483647 := by
    rw [← hn]
    unfold getV
    split
    · exact (Row.says l).bd _
    · omega
  have HN := Lib.hid hn
  obtain ⟨nb1, nb2⟩ := hnb
  have hcase : (siteB d.site = false ∨ d.seq < 1) ∨ ((siteB d.site = true ∧ 1 ≤ d.seq) ∧ (2147483647 < d.seq ∨ (d.seq ≤ 2147483647 ∧ d.seq ≠ n + 1) ∨ (d.seq ≤ 2147483647 ∧ d.seq = n + 1))) := by
    cases siteB d.site <;> simp <;> omega
  clear hl hn
  obtain ⟨dsite, dseq⟩ := d
  obtain ⟨osite, oseq⟩ := o
  replace HZ := Lib.hid (show AddsAt w A none l [] ⟨dsite, dseq⟩ ⟨osite, oseq⟩ ((w.alloc (.cells #[.int .i64 dsite, .int .i64 dseq] 25)).alloc (.cells #[.int .i64 osite, .int .i64 oseq] 25)) from HZ.out)
  rcases hcase with h1 | ⟨⟨hs, hq⟩, h2 | ⟨h2, h3⟩ | ⟨h2, h3⟩⟩
  · have HE := Lib.hid (show addE l ⟨dsite, dseq⟩ = 1 ∧ addV l ⟨dsite, dseq⟩ = [] from by
      have e : addE l ⟨dsite, dseq⟩ = 1 := if_pos h1
      exact ⟨e, if_neg (by rw [e]; decide)⟩)
    have hc : dsite < 1 ∨ (1 ≤ dsite ∧ 16 < dsite) ∨ (1 ≤ dsite ∧ dsite ≤ 16 ∧ dseq < 1) := by
      rcases h1 with h1 | h1
      · simp [siteB] at h1; omega
      · simp only at h1; omega
    clear h1
    rcases hc with h1 | ⟨h1, h2⟩ | ⟨h1, h2, h3⟩
    all_goals as_aux_lemma =>
      go_enter Try.func5, Try.ntmps5
      go_wp2_with (fail)
      generalize (w.alloc (.cells #[.int .i64 dsite, .int .i64 dseq] 25)).alloc (.cells #[.int .i64 osite, .int .i64 oseq] 25) = W at HZ ⊢
      obtain ⟨x0, x1, y0, y1⟩ := HZ.out.cells
      simp only at x0 x1 y0 y1
      refine (Get_any A l c dsite _ HZ.out.v hlen).mono ?_
      rw [HN.out]
      rintro e w0 ⟨rfl, hk⟩
      have HZ' := Lib.hid (HZ.out.fresh hk)
      clear hk HZ x0 x1 y0 y1
      have HZ := HZ'
      clear HZ'
      obtain ⟨x0, x1, y0, y1⟩ := HZ.out.cells
      simp only at x0 x1 y0 y1
      go_wp2_with (fail)
      refine (Add_any A l c ⟨dsite, dseq⟩ _ HZ.out.v hlen).mono ?_
      rw [HE.out.1, HE.out.2]
      rintro e w9 ⟨B, cB, rfl, -, hk⟩
      have HZ' := Lib.hid (HZ.out.fresh hk)
      clear hk HZ x0 x1 y0 y1
      have HZ := HZ'
      clear HZ'
      obtain ⟨x0, x1, y0, y1⟩ := HZ.out.cells
      simp only at x0 x1 y0 y1
      go_wp2_with (fail)
      refine (known_any _).mono ?_
      rintro e w2 ⟨rfl, hk⟩
      have HF := Lib.hid (HZ.out.k.trans hk fun _ _ e => e)
      clear hk HZ
      go_wp2
      go_ret
      exact ⟨rfl, HF.out⟩
  · have HE := Lib.hid (show addE l ⟨dsite, dseq⟩ = 17 ∧ addV l ⟨dsite, dseq⟩ = [] from by
      have e : addE l ⟨dsite, dseq⟩ = 17 := by
        rw [addE, if_neg (by simp only at hs hq ⊢; simp [hs]; omega)]
        exact if_pos h2
      exact ⟨e, if_neg (by rw [e]; decide)⟩)
    obtain ⟨hs1, hs2⟩ : 1 ≤ dsite ∧ dsite ≤ 16 := by simpa [siteB] using hs
    simp only at hq h2
    clear hs
    go_enter Try.func5, Try.ntmps5
    go_wp2_with (fail)
    generalize (w.alloc (.cells #[.int .i64 dsite, .int .i64 dseq] 25)).alloc (.cells #[.int .i64 osite, .int .i64 oseq] 25) = W at HZ ⊢
    obtain ⟨x0, x1, y0, y1⟩ := HZ.out.cells
    simp only at x0 x1 y0 y1
    refine (Get_any A l c dsite _ HZ.out.v hlen).mono ?_
    rw [HN.out]
    rintro e w0 ⟨rfl, hk⟩
    have HZ' := Lib.hid (HZ.out.fresh hk)
    clear hk HZ x0 x1 y0 y1
    have HZ := HZ'
    clear HZ'
    obtain ⟨x0, x1, y0, y1⟩ := HZ.out.cells
    simp only at x0 x1 y0 y1
    go_wp2_with (fail)
    refine (Add_any A l c ⟨dsite, dseq⟩ _ HZ.out.v hlen).mono ?_
    rw [HE.out.1, HE.out.2]
    rintro e w9 ⟨B, cB, rfl, -, hk⟩
    have HZ' := Lib.hid (HZ.out.fresh hk)
    clear hk HZ x0 x1 y0 y1
    have HZ := HZ'
    clear HZ'
    obtain ⟨x0, x1, y0, y1⟩ := HZ.out.cells
    simp only at x0 x1 y0 y1
    go_wp2_with (fail)
    refine (known_any _).mono ?_
    rintro e w4 ⟨rfl, hk⟩
    have HF := Lib.hid (HZ.out.k.trans hk fun _ _ e => e)
    clear hk HZ
    go_wp2
    go_ret
    exact ⟨rfl, HF.out⟩
  · have HE := Lib.hid (show addE l ⟨dsite, dseq⟩ = 9 ∧ addV l ⟨dsite, dseq⟩ = [] from by
      have e : addE l ⟨dsite, dseq⟩ = 9 := by
        rw [addE, if_neg (by simp only at hs hq ⊢; simp [hs]; omega)]
        rw [if_neg (by simp only at h2 ⊢; omega), if_pos (by rw [HN.out]; exact h3)]
      exact ⟨e, if_neg (by rw [e]; decide)⟩)
    obtain ⟨hs1, hs2⟩ : 1 ≤ dsite ∧ dsite ≤ 16 := by simpa [siteB] using hs
    simp only at hq h2 h3
    have h3' : (dseq != n + 1) = true := by simp [h3]
    clear h3
    clear hs
    go_enter Try.func5, Try.ntmps5
    go_wp2_with (fail)
    generalize (w.alloc (.cells #[.int .i64 dsite, .int .i64 dseq] 25)).alloc (.cells #[.int .i64 osite, .int .i64 oseq] 25) = W at HZ ⊢
    obtain ⟨x0, x1, y0, y1⟩ := HZ.out.cells
    simp only at x0 x1 y0 y1
    refine (Get_any A l c dsite _ HZ.out.v hlen).mono ?_
    rw [HN.out]
    rintro e w0 ⟨rfl, hk⟩
    have HZ' := Lib.hid (HZ.out.fresh hk)
    clear hk HZ x0 x1 y0 y1
    have HZ := HZ'
    clear HZ'
    obtain ⟨x0, x1, y0, y1⟩ := HZ.out.cells
    simp only at x0 x1 y0 y1
    go_wp2_with (fail)
    refine (Add_any A l c ⟨dsite, dseq⟩ _ HZ.out.v hlen).mono ?_
    rw [HE.out.1, HE.out.2]
    rintro e w9 ⟨B, cB, rfl, -, hk⟩
    have HZ' := Lib.hid (HZ.out.fresh hk)
    clear hk HZ x0 x1 y0 y1
    have HZ := HZ'
    clear HZ'
    obtain ⟨x0, x1, y0, y1⟩ := HZ.out.cells
    simp only at x0 x1 y0 y1
    go_wp2_with (fail)
    refine (known_any _).mono ?_
    rintro e w6 ⟨rfl, hk⟩
    have HF := Lib.hid (HZ.out.k.trans hk fun _ _ e => e)
    clear hk HZ
    go_wp2
    go_ret
    exact ⟨rfl, HF.out⟩
  · have hla := add_law (l := l) (d := ⟨dsite, dseq⟩) hs hq h2 (by rw [HN.out]; exact h3)
    obtain ⟨r, hr⟩ : ∃ r, (says l).set dsite.toNat dseq = r := ⟨_, rfl⟩
    have HL := Lib.hid (show AddLaw l ⟨dsite, dseq⟩ r from hr ▸ hla)
    obtain ⟨hs1, hs2⟩ : 1 ≤ dsite ∧ dsite ≤ 16 := by simpa [siteB] using hs
    simp only at hq h2 h3
    have h3' : (dseq != n + 1) = false := by simp [h3]
    clear h3 hs hla hr
    go_enter Try.func5, Try.ntmps5
    go_wp2_with (fail)
    generalize (w.alloc (.cells #[.int .i64 dsite, .int .i64 dseq] 25)).alloc (.cells #[.int .i64 osite, .int .i64 oseq] 25) = W at HZ ⊢
    obtain ⟨x0, x1, y0, y1⟩ := HZ.out.cells
    simp only at x0 x1 y0 y1
    refine (Get_any A l c dsite _ HZ.out.v hlen).mono ?_
    rw [HN.out]
    rintro e w0 ⟨rfl, hk⟩
    have HZ' := Lib.hid (HZ.out.fresh hk)
    clear hk HZ x0 x1 y0 y1
    have HZ := HZ'
    clear HZ'
    obtain ⟨x0, x1, y0, y1⟩ := HZ.out.cells
    simp only at x0 x1 y0 y1
    go_wp2_with (fail)
    refine (Add_any A l c ⟨dsite, dseq⟩ _ HZ.out.v hlen).mono ?_
    rw [HL.out.e, HL.out.v]
    rintro e w9 ⟨B, cB, rfl, ho, hk⟩
    have HZ' := Lib.hid (show AddsAt w A B l (vec r) ⟨dsite, dseq⟩ ⟨osite, oseq⟩ w9 from { HZ.out.fresh hk with x := DotsAt.of_own ho })
    clear hk HZ ho x0 x1 y0 y1
    have HZ := HZ'
    clear HZ'
    obtain ⟨x0, x1, y0, y1⟩ := HZ.out.cells
    simp only at x0 x1 y0 y1
    have hlx := (Sy.vec HL.out.row).len
    go_wp2_with (fail)
    refine (Check_r HZ.out.x HL.out.row).mono ?_
    rintro e w7 ⟨rfl, hk⟩
    have HZ' := Lib.hid (HZ.out.fresh hk)
    clear hk HZ x0 x1 y0 y1
    have HZ := HZ'
    clear HZ'
    obtain ⟨x0, x1, y0, y1⟩ := HZ.out.cells
    simp only at x0 x1 y0 y1
    go_wp2_with (fail)
    refine (Has_any A l c ⟨dsite, dseq⟩ _ HZ.out.v hlen).mono ?_
    rw [HL.out.no]
    rintro e w8 ⟨rfl, hk⟩
    have HZ' := Lib.hid (HZ.out.fresh hk)
    clear hk HZ x0 x1 y0 y1
    have HZ := HZ'
    clear HZ'
    obtain ⟨x0, x1, y0, y1⟩ := HZ.out.cells
    simp only at x0 x1 y0 y1
    go_wp2_with (fail)
    refine (Has_any B (vec r) cB ⟨dsite, dseq⟩ _ HZ.out.x hlx).mono ?_
    rw [HL.out.has, HL.out.no, Bool.false_or, decide_eq_true ⟨rfl, rfl⟩]
    rintro e w9 ⟨rfl, hk⟩
    have HZ' := Lib.hid (HZ.out.fresh hk)
    clear hk HZ x0 x1 y0 y1
    have HZ := HZ'
    clear HZ'
    obtain ⟨x0, x1, y0, y1⟩ := HZ.out.cells
    simp only at x0 x1 y0 y1
    obtain ⟨s, hs⟩ : ∃ s, sumR (says l) 17 = s := ⟨_, rfl⟩
    have HS := Lib.hid hs
    have hsb := sumR_le (Row.says l) 17
    rw [hs] at hsb
    obtain ⟨hsb1, hsb2⟩ := hsb
    clear hs
    go_wp2_with (fail)
    refine (Sum_any B (vec r) cB _ HZ.out.x hlx).mono ?_
    rw [says_vec HL.out.row, HL.out.sum, HS.out]
    rintro e w10 ⟨rfl, hk⟩
    have HZ' := Lib.hid (HZ.out.fresh hk)
    clear hk HZ x0 x1 y0 y1
    have HZ := HZ'
    clear HZ'
    obtain ⟨x0, x1, y0, y1⟩ := HZ.out.cells
    simp only at x0 x1 y0 y1
    go_wp2_with (fail)
    refine (Sum_any A l c _ HZ.out.v hlen).mono ?_
    rw [HS.out]
    rintro e w11 ⟨rfl, hk⟩
    have HZ' := Lib.hid (HZ.out.fresh hk)
    clear hk HZ x0 x1 y0 y1
    have HZ := HZ'
    clear HZ'
    obtain ⟨x0, x1, y0, y1⟩ := HZ.out.cells
    simp only at x0 x1 y0 y1
    go_wp2_with (fail)
    refine (Covers_any B A (vec r) l cB c _ HZ.out.x HZ.out.v hlx hlen).mono ?_
    rw [says_vec HL.out.row, HL.out.cov]
    rintro e w12 ⟨rfl, hk⟩
    have HZ' := Lib.hid (HZ.out.fresh hk)
    clear hk HZ x0 x1 y0 y1
    have HZ := HZ'
    clear HZ'
    obtain ⟨x0, x1, y0, y1⟩ := HZ.out.cells
    simp only at x0 x1 y0 y1
    go_wp2_with (fail)
    obtain ⟨b, hb⟩ : ∃ b, hasV l ⟨osite, oseq⟩ = b := ⟨_, rfl⟩
    obtain ⟨q, hqq⟩ : ∃ q, decide (osite = dsite ∧ oseq = dseq) = q := ⟨_, rfl⟩
    have hx := fun W => eql_dot osite oseq dsite dseq W
    rw [hqq] at hx
    have HO1 := Lib.hid (show hasV (vec r) ⟨osite, oseq⟩ = (b || q) by rw [HL.out.has, hb, hqq])
    have HO2 := Lib.hid hb
    clear hb hqq
    cases b with
    | false =>
      cases q
      all_goals as_aux_lemma =>
        go_region_held3 (fun w' => w'.cell? ⟨w.heap.size, 0, none⟩ = some (.int .i64 dsite) ∧ w'.cell? ⟨w.heap.size, 1, none⟩ = some (.int .i64 dseq) ∧ w'.cell? ⟨w.heap.size + 1, 0, none⟩ = some (.int .i64 osite) ∧ w'.cell? ⟨w.heap.size + 1, 1, none⟩ = some (.int .i64 oseq) ∧ Hid (AddsAt w A B l (vec r) ⟨dsite, dseq⟩ ⟨osite, oseq⟩ w'))
          (first | exact AddsAt.S (Hid.out (by assumption)) | exact AddsAt.S (AddsAt.drawn 1 (Hid.out (by assumption))))
          (first
            | (go_at_call 17; (with_reducible refine (Has_any B (vec r) cB ⟨osite, oseq⟩ _ ?_ hlx).mono ?_); (exact AddsAt.x (AddsAt.ofS (w := w) (A := A) (l := l) (x := vec r) (B := B) (d := ⟨dsite, dseq⟩) (o := ⟨osite, oseq⟩) (by assumption))); rw [HO1.out]; rintro e w13 ⟨rfl, hk⟩; have HZ1 := Lib.hid (AddsAt.fresh (AddsAt.ofS (w := w) (A := A) (l := l) (x := vec r) (B := B) (d := ⟨dsite, dseq⟩) (o := ⟨osite, oseq⟩) (by assumption)) hk); clear hk)
            | (go_at_call 17; (with_reducible refine (Has_any A l c ⟨osite, oseq⟩ _ ?_ hlen).mono ?_); (exact AddsAt.v (AddsAt.ofS (w := w) (A := A) (l := l) (x := vec r) (B := B) (d := ⟨dsite, dseq⟩) (o := ⟨osite, oseq⟩) (by assumption))); rw [HO2.out]; rintro e w14 ⟨rfl, hk⟩; have HZ1 := Lib.hid (AddsAt.fresh (AddsAt.ofS (w := w) (A := A) (l := l) (x := vec r) (B := B) (d := ⟨dsite, dseq⟩) (o := ⟨osite, oseq⟩) (by assumption)) hk); clear hk)
            | (go_at_call 9; refine (known_any _).mono ?_; rintro e w15 ⟨rfl, hk⟩; have HZ2 := Lib.hid (AddsAt.fresh (AddsAt.ofS (w := w) (A := A) (l := l) (x := vec r) (B := B) (d := ⟨dsite, dseq⟩) (o := ⟨osite, oseq⟩) (by assumption)) hk); clear hk))
        all_goals go_wp2
        all_goals go_ret
        all_goals exact ⟨rfl, AddsAt.k (Hid.out ‹Hid (AddsAt w A B l (vec r) ⟨dsite, dseq⟩ ⟨osite, oseq⟩ _)›)⟩
    | true => as_aux_lemma =>
      go_region_with (first
          | (go_at_call 17; (with_reducible refine (Has_any B (vec r) cB ⟨osite, oseq⟩ _ HZ.out.drew.x hlx).mono ?_); rw [HO1.out]; rintro e w13 ⟨rfl, hk⟩; have HZ1 := Lib.hid (HZ.out.drew.fresh hk); obtain ⟨a0, a1, b0, b1⟩ := HZ1.out.cells; clear hk)
          | (go_at_call 17; (with_reducible refine (Has_any A l c ⟨osite, oseq⟩ _ HZ1.out.v hlen).mono ?_); rw [HO2.out]; rintro e w14 ⟨rfl, hk⟩; have HZ2 := Lib.hid (HZ1.out.fresh hk); obtain ⟨c0, c1, d0, d1⟩ := HZ2.out.cells; clear hk)
          | (go_at_call 9; refine (known_any _).mono ?_; rintro e w15 ⟨rfl, hk⟩; have HZ3 := Lib.hid (HZ2.out.fresh hk); clear hk))
      all_goals go_wp2
      all_goals go_ret
      all_goals exact ⟨rfl, HZ3.out.k⟩
end Go.Proofs.Ytlefbnnlcacheaa
