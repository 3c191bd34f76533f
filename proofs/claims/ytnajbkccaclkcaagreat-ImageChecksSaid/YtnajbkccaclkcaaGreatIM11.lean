/- A region that draws its order, all operations but the last ones quiet in a class of worlds, the last ones in one forced order. No program in sight; no condition. · The small functions of the references of image (hearsayref11.IsID, lower; hearsayref1.IsRune; hearsayref16.site, rising). Conditions: the lists lie in memory; at most a million. · hearsayref11.at, end walked. Conditions: the nodes lie in memory; at most a million. -/
import Derived.Test.YtnajbkccaclkcaaGreatIM0
import Derived.StillTail
import Derived.Deep.Quiet
import Derived.BigQuiet
import Derived.Test.YtnajbkccaclkcaaGreatIM10
import Derived.Test.YtnajbkccaclkcaaGreatIM9
import Derived.WalkMore
namespace Go.Proofs.YtnajbkccaclkcaaGreat
open Go

section
variable {P : Program} {ops : Array Oper} {md : Region.Mode} {C : World → Prop}
def wpAnyLQ (P : Program) (md : Region.Mode) (ops : Array Oper) (C : World → Prop) (n : Nat) (L : Array Bool → Act → Prop) : Nat → Array Bool → Act → Prop
  | 0, listed, a => L listed a
  | f + 1, listed, a => Region.ready md ops listed ≠ [] ∧ ∀ i ∈ Region.ready md ops listed, i < n ∧ qOp P ops C i (wpAnyLQ P md ops C n L f (listed.setIfInBounds i true)) a
theorem wpAny_of_headQ {n g : Nat} {L : Array Bool → Act → Prop} {Q' : Exit → Act → World → Prop} (hL : ∀ listed a w, C w → L listed a → wpAny P md ops Q' g listed a w) :
    ∀ (f : Nat) (listed : Array Bool) (a : Act) (w : World), C w → wpAnyLQ P md ops C n L f listed a → wpAny P md ops Q' (f + g) listed a w
  | 0, listed, a, w, hw, h => by rw [Nat.zero_add]; exact hL _ _ _ hw h
  | f + 1, listed, a, w, hw, h => by
    rw [show f + 1 + g = (f + g) + 1 by omega]
    exact ⟨fun h0 => absurd h0 h.1, fun i hi => wpOp_of_qOp hw (fun a' w' hw' h' => wpAny_of_headQ hL f _ a' w' hw' h') (h.2 i hi).2⟩
theorem wpAnyLQ_first {n i : Nat} {oi : Oper} {v : Value} {L : Array Bool → Act → Prop} (hi : ops[i]? = some oi) (hsel : ∀ (j : Nat) (o : Oper) cs b, ops[j]? = some o → o.op ≠ .select cs b)
    (hs : Region.sinkB md ops n = true) (hc : Region.chainB md ops n = true) (hn : n < ops.size) (hin : i < n) (hdone : ∀ listed a, L listed a → ∀ j ∈ Region.ready md ops listed, n ≤ j) :
    ∀ (f : Nat) (listed : Array Bool) (a : Act), HeadInv md ops n listed →
      (∀ j oj, ops[j]? = some oj → j ≠ i → listed.getD j true = false → (∀ e ∈ oj.after, Region.binds md e = true → e.on ≠ i) → oi.apart ops oj = true) →
      i ∈ Region.ready md ops listed → YieldsIn P ops C oi v a →
      wpAnyLQ P md ops C n L f (listed.setIfInBounds i true) (a.put oi.dst v) → wpAnyLQ P md ops C n L (f + 1) listed a := by
  intro f
  induction f with
  | zero =>
    intro listed a inv _ hr hy H
    have hun := (mem_ready.1 hr).1
    refine ⟨fun h => (by rw [h] at hr; cases hr), fun j hj => ?_⟩
    have hjn : j < n := Nat.lt_of_not_le fun h => tail_waits hs hc hn inv _ i rfl hin hun j h hj
    refine ⟨hjn, ?_⟩
    by_cases hji : j = i
    · subst hji; exact hy.qOp hi H
    · have := hdone _ _ H j (ready_mono hj hji)
      omega
  | succ f ih =>
    intro listed a inv hfree hr hy H
    have hun := (mem_ready.1 hr).1
    refine ⟨fun h => (by rw [h] at hr; cases hr), fun j hj => ?_⟩
    have hjn : j < n := Nat.lt_of_not_le fun h => tail_waits hs hc hn inv _ i rfl hin hun j h hj
    refine ⟨hjn, ?_⟩
    by_cases hji : j = i
    · subst hji; exact hy.qOp hi H
    · have h1 := (H.2 j (ready_mono hj hji)).2
      obtain ⟨hjun, oj, hoj, hall⟩ := mem_ready.1 hj
      have hnot : ∀ e ∈ oj.after, Region.binds md e = true → e.on ≠ i := fun e he hb heq => by
        have h1 := hall e he hb
        rw [heq, getD_both hun] at h1
        cases h1
      have h2 := qOp_put hoj (hfree j oj hoj hji hjun hnot) (fun cs b => hsel i oi cs b hi) (fun cs b => hsel j oj cs b hoj) hy h1
      have hfree' : ∀ k ok, ops[k]? = some ok → k ≠ i → (listed.setIfInBounds j true).getD k true = false →
          (∀ e ∈ ok.after, Region.binds md e = true → e.on ≠ i) → oi.apart ops ok = true := fun k ok hk hki hun hno => by
        refine hfree k ok hk hki ?_ hno
        by_cases hjk : j = k
        · subst hjk; exact hjun
        · rw [getD_set_ne true hjk] at hun; exact hun
      refine qOp_mono (fun a' h3 => ih (listed.setIfInBounds j true) a' (inv.set hj hjn) hfree' (ready_mono hr (Ne.symm hji)) h3.1 ?_) h2
      rw [Array.setIfInBounds_comm _ _ hji]
      exact h3.2
theorem wpAnyLQ_lex {n g : Nat} {Lq : Act → Prop} (hsel : Region.noSelect ops = true) (hs : Region.sinkB md ops n = true) (hc : Region.chainB md ops n = true) (hn : n < ops.size) :
    ∀ (l : List Oper) (k : Nat) (listed : Array Bool) (a : Act), (∀ j, j < l.length → l[j]? = ops[k + j]?) → k + l.length = n → HeadInv md ops n listed →
    Region.lexHead md ops g l.length k listed = true → wpQuiet P ops C Lq l a → wpAnyLQ P md ops C n (fun listed' a' => Region.seqB md ops g n listed' = true ∧ Lq a') l.length listed a
  | [], k, listed, a, _, hk, _, hB, h => by
    obtain rfl : k = n := by simpa using hk
    exact ⟨by simpa [Region.lexHead] using hB, h⟩
  | o :: l, k, listed, a, hl, hk, inv, hB, h => by
    have h0 : ops[k]? = some o := by simpa using (hl 0 (by simp)).symm
    simp only [List.length_cons, Region.lexHead, Bool.and_eq_true] at hB
    obtain ⟨⟨hr, hf⟩, hB'⟩ := hB
    have hkn : k < n := by simp only [List.length_cons] at hk; omega
    have hr' : k ∈ Region.ready md ops listed := by simpa using hr
    have hst : qOp P ops C k (wpQuiet P ops C Lq l) a := by unfold qOp; simp only [h0]; exact h
    obtain ⟨v, hy, hK⟩ := yieldsIn_of_qOp h0 hst
    exact wpAnyLQ_first h0 (Region.noSelect_spec hsel) hs hc hn hkn (fun listed' a' hL => seqB_ready hL.1) l.length listed a inv (Region.free_spec h0 hf) hr' hy
      (wpAnyLQ_lex hsel hs hc hn l (k + 1) _ _ (fun j hj => by have := hl (j + 1) (by simp; omega); simpa [Nat.add_assoc, Nat.add_comm 1 j] using this) (by simp only [List.length_cons] at hk; omega) (inv.set hr' hkn) hB' hK)
/-- The first n operations in any order, quiet in the class; the others one behind the other. -/
theorem wp_region_class_tail {id : Nat} {Q : Exit → Act → World → Prop} {a : Act} {w : World} {l : List Oper} (n : Nat) (hm : P.follows .mixedOrders = true) (hB : Region.lexTailB .any l.toArray n = true) (hC : C w.drew)
    (h : wpQuiet P l.toArray C (fun a' => ∀ w', C w' → wpList P l.toArray Q (l.drop n) a' w') (l.take n) a) : (Code.region id l.toArray true).wp P Q a w := by
  simp only [Region.lexTailB, Bool.and_eq_true, decide_eq_true_eq] at hB
  obtain ⟨⟨⟨⟨hsel, hn⟩, hs⟩, hc⟩, hlex⟩ := hB
  have hn' : n < l.length := by simpa using hn
  have htl : (l.take n).length = n := by simp; omega
  have hdl : (l.drop n).length = l.toArray.size - n := by simp
  have inv0 : HeadInv .any l.toArray n (Array.replicate l.toArray.size false) :=
    ⟨by simp, fun j oj _ hl => (by rw [getD_replicate_false] at hl; cases hl), fun t _ ht => getD_in (by simpa using ht) (getD_replicate_false _ _)⟩
  have H := wpAnyLQ_lex (md := .any) (g := l.toArray.size - n) hsel hs hc hn (l.take n) 0 _ a (fun j hj => by
    have hj' : j < n := by rw [htl] at hj; exact hj
    simp [hj']) (by simpa using htl) inv0 (by rw [htl]; exact hlex) h
  refine wp_region_any hm ?_
  have := wpAny_of_headQ (Q' := Q) (g := l.toArray.size - n) (fun listed a' w' hw' hL => by
    have := wpAny_of_seq (md := .any) (Q' := Q) (l.drop n) n listed a' w' (fun j => by simp [List.getElem?_drop]) (by rw [hdl]; exact hL.1) (hL.2 w' hw')
    rwa [hdl] at this) _ _ _ _ hC H
  rw [htl, show n + (l.toArray.size - n) = l.toArray.size by omega] at this
  exact this
end
end Go.Proofs.YtnajbkccaclkcaaGreat

namespace Go.Proofs.YtnajbkccaclkcaaGreat
open Go Go.RowKit

set_option maxRecDepth 100000 in
set_option maxHeartbeats 1600000 in
theorem RIsID_any (i : Idt) (w : World) : Calls Tryz.prog 93 #[idV i] w (BoolPost w (okId i)) := by
  obtain ⟨t, s⟩ := i
  have hk : Kept (fun _ => False) w (w.alloc (.cells #[.int .i64 t, .int .i64 s] 61)) := (Kept.refl _ _).alloc _
  have HK := Lib.hid hk
  have x0 : (w.alloc (.cells #[.int .i64 t, .int .i64 s] 61)).cell? ⟨w.heap.size, 0, none⟩ = some (.int .i64 t) := (Box.new w 61 #[.int .i64 t, .int .i64 s]).cell 0
  have x1 : (w.alloc (.cells #[.int .i64 t, .int .i64 s] 61)).cell? ⟨w.heap.size, 1, none⟩ = some (.int .i64 s) := (Box.new w 61 #[.int .i64 t, .int .i64 s]).cell 1
  clear hk
  unfold idV okId
  by_cases h1 : 1 ≤ t
  · by_cases h2 : t ≤ 2147483647
    · by_cases h3 : 1 ≤ s
      · by_cases h4 : s ≤ 16
        · have hd : decide (1 ≤ t ∧ t ≤ 2147483647 ∧ 1 ≤ s ∧ s ≤ 16) = true := by simp [h1, h2, h3, h4]
          rw [hd]
          clear hd
          go_enter Tryz.func93, Tryz.ntmps93
          go_wp2
          go_ret
          exact ⟨rfl, HK.out⟩
        · have hd : decide (1 ≤ t ∧ t ≤ 2147483647 ∧ 1 ≤ s ∧ s ≤ 16) = false := by simp [h4]
          have h4' : 16 < s := by omega
          rw [hd]
          clear hd
          go_enter Tryz.func93, Tryz.ntmps93
          go_wp2
          go_ret
          exact ⟨rfl, HK.out⟩
      · have hd : decide (1 ≤ t ∧ t ≤ 2147483647 ∧ 1 ≤ s ∧ s ≤ 16) = false := by simp [h3]
        have h3' : s < 1 := by omega
        rw [hd]
        clear hd
        go_enter Tryz.func93, Tryz.ntmps93
        go_wp2
        go_ret
        exact ⟨rfl, HK.out⟩
    · have hd : decide (1 ≤ t ∧ t ≤ 2147483647 ∧ 1 ≤ s ∧ s ≤ 16) = false := by simp [h2]
      have h2' : 2147483647 < t := by omega
      rw [hd]
      clear hd
      go_enter Tryz.func93, Tryz.ntmps93
      go_wp2
      go_ret
      exact ⟨rfl, HK.out⟩
  · have hd : decide (1 ≤ t ∧ t ≤ 2147483647 ∧ 1 ≤ s ∧ s ≤ 16) = false := by simp [h1]
    have h1' : t < 1 := by omega
    rw [hd]
    clear hd
    go_enter Tryz.func93, Tryz.ntmps93
    go_wp2
    go_ret
    exact ⟨rfl, HK.out⟩

set_option maxRecDepth 100000 in
set_option maxHeartbeats 1600000 in
theorem RLower_any (a b : Idt) (w : World) : Calls Tryz.prog 95 #[idV a, idV b] w (BoolPost w (decide (ltId a b))) := by
  obtain ⟨t, s⟩ := a
  obtain ⟨t', s'⟩ := b
  have HK := Lib.hid (((Kept.refl (fun _ => False) w).alloc (.cells #[.int .i64 t, .int .i64 s] 61)).alloc (.cells #[.int .i64 t', .int .i64 s'] 61))
  unfold idV
  have hd : decide (ltId ⟨t, s⟩ ⟨t', s'⟩) = (decide (t < t') || (decide (t = t') && decide (s < s'))) := by
    rw [Bool.eq_iff_iff]
    have : decide (ltId ⟨t, s⟩ ⟨t', s'⟩) = true ↔ (t < t' ∨ t = t' ∧ s < s') := decide_eq_true_iff
    rw [this]
    simp
  rw [hd]
  clear hd
  by_cases h1 : t < t'
  · rw [decide_eq_true h1, Bool.true_or]
    go_enter Tryz.func95, Tryz.ntmps95
    go_wp2_with (fail)
    go_ret
    exact ⟨rfl, HK.out⟩
  · rw [decide_eq_false h1, Bool.false_or]
    by_cases h2 : t = t'
    · subst h2
      rw [decide_eq_true rfl, Bool.true_and]
      by_cases h3 : s < s'
      · rw [decide_eq_true h3]
        go_enter Tryz.func95, Tryz.ntmps95
        go_wp2_with (fail)
        go_ret
        exact ⟨rfl, HK.out⟩
      · rw [decide_eq_false h3]
        go_enter Tryz.func95, Tryz.ntmps95
        go_wp2_with (fail)
        go_ret
        exact ⟨rfl, HK.out⟩
    · have b2 : (t == t') = false := by simp [h2]
      rw [decide_eq_false h2, Bool.false_and]
      clear h2
      go_enter Tryz.func95, Tryz.ntmps95
      go_wp2_with (fail)
      go_ret
      exact ⟨rfl, HK.out⟩
theorem isRuneB_eq (r : Int) : isRuneB r = (decide (0 ≤ r) && decide (r ≤ 1114111) && (decide (r < 55296) || decide (57343 < r))) := by
  unfold isRuneB Utf8.valid
  rw [Bool.eq_iff_iff]
  simp
  omega
theorem RIsRune_any (r : Int) (w : World) : Calls Tryz.prog 94 #[.int .i32 r] w fun e w' => e = .returned (.bool (isRuneB r)) ∧ w' = w := by
  rw [isRuneB_eq]
  by_cases h1 : 0 ≤ r
  · by_cases h2 : r ≤ 1114111
    · by_cases h3 : r < 55296
      · rw [decide_eq_true h1, decide_eq_true h2, decide_eq_true h3]
        go_enter Tryz.func94, Tryz.ntmps94
        go_wp2_with (fail)
        go_ret
        exact ⟨rfl, rfl⟩
      · by_cases h4 : 57343 < r
        · rw [decide_eq_true h1, decide_eq_true h2, decide_eq_true h4]
          have h4' : r > 57343 := h4
          rw [Bool.or_true]
          go_enter Tryz.func94, Tryz.ntmps94
          go_wp2_with (fail)
          go_ret
          exact ⟨rfl, rfl⟩
        · have h4' : ¬ r > 57343 := h4
          rw [decide_eq_true h1, decide_eq_true h2, decide_eq_false h3, decide_eq_false h4]
          go_enter Tryz.func94, Tryz.ntmps94
          go_wp2_with (fail)
          go_ret
          exact ⟨rfl, rfl⟩
    · rw [decide_eq_true h1, decide_eq_false h2]
      go_enter Tryz.func94, Tryz.ntmps94
      go_wp2_with (fail)
      go_ret
      exact ⟨rfl, rfl⟩
  · rw [decide_eq_false h1]
    go_enter Tryz.func94, Tryz.ntmps94
    go_wp2_with (fail)
    go_ret
    exact ⟨rfl, rfl⟩
theorem siteB_eq (n : Int) : siteB n = (decide (1 ≤ n) && decide (n ≤ 16)) := by unfold siteB; rw [Bool.decide_and]
theorem site16_any (n : Int) (w : World) : Calls Tryz.prog 98 #[.int .i64 n] w fun e w' => e = .returned (.bool (siteB n)) ∧ w' = w := by
  rw [siteB_eq]
  by_cases h1 : 1 ≤ n
  · by_cases h2 : n ≤ 16
    · rw [decide_eq_true h1, decide_eq_true h2]
      go_enter Tryz.func98, Tryz.ntmps98
      go_wp2_with (fail)
      go_ret
      exact ⟨rfl, rfl⟩
    · rw [decide_eq_true h1, decide_eq_false h2]
      go_enter Tryz.func98, Tryz.ntmps98
      go_wp2_with (fail)
      go_ret
      exact ⟨rfl, rfl⟩
  · rw [decide_eq_false h1]
    go_enter Tryz.func98, Tryz.ntmps98
    go_wp2_with (fail)
    go_ret
    exact ⟨rfl, rfl⟩
theorem ris_site {n last : Int} (h : 0 ≤ last) : (n ≤ last ∨ 16 < n) ↔ (siteB n = false ∨ n ≤ last) := by
  unfold siteB
  rw [decide_eq_false_iff_not]
  omega
theorem ris_ok {n last : Int} (h : 0 ≤ last) (hs : siteB n = true) (h1 : ¬ n ≤ last) : ¬ (n ≤ last ∨ 16 < n) := fun e => by
  rcases (ris_site h).1 e with e | e
  · rw [hs] at e
    cases e
  · exact h1 e
set_option maxRecDepth 100000 in
set_option maxHeartbeats 2000000 in
theorem rising16_any (A : Option Addr) (l : List Int) (c : Nat) (w : World) (hl : CellsAt w A (ints l)) (hn : l.length ≤ 1000000) :
    Calls Tryz.prog 73 #[.slice A l.length c] w fun r w' => r = .returned (.bool (risFrom 0 l)) ∧ ∃ q, w' = w.drewN q := by
  obtain ⟨N, hN⟩ : ∃ N, l.length = N := ⟨_, rfl⟩
  have HL := Lib.hid hl
  have HN := Lib.hid hN
  rw [hN] at hn ⊢
  clear hl hN
  go_enter Tryz.func73, Tryz.ntmps73
  go_wp2_with (fail)
  go_loopw [3] (fun i wr => ∃ (k q : Nat) (last : Int), i = .int .i64 k ∧ k ≤ N ∧ wr = w.drewN q ∧ 0 ≤ last ∧ (0 < k → l.getD (k - 1) 0 = last ∧ 1 ≤ last) ∧ (k = 0 → last = 0) ∧ risFrom 0 l = risFrom last (l.drop k)) (fun i _ => N - (intOf i).toNat)
  case atStart => exact ⟨0, 0, 0, rfl, Nat.zero_le _, rfl, Int.le_refl _, fun h => absurd h (by omega), fun _ => rfl, rfl⟩
  case round =>
    obtain ⟨k, q, last, rfl, hk, hw, h0, hp, hz, hf⟩ := hrel
    have HF := Lib.hid hf
    have HQ := Lib.hid hw
    have HP := Lib.hid hp
    have HZ := Lib.hid hz
    clear hf hw hp hz
    by_cases hlt : k < N
    · have hin : (k : Int) < (N : Int) := by omega
      have hkl : k < l.length := by rw [HN.out]; exact hlt
      obtain ⟨b, f, rfl, hc⟩ := ints_cell HL.out (by omega)
      have hq := HQ.out
      have c1 : wr.cell? ⟨b, f + k, none⟩ = some (.int .i64 l[k]) := by rw [hq]; exact hc k hkl
      have hd := List.drop_eq_getElem_cons hkl
      obtain ⟨x, hx⟩ : ∃ x, l[k] = x := ⟨_, rfl⟩
      have hgx : l.getD k 0 = x := by simp [List.getD, hkl, hx]
      rw [hx] at c1 hd
      have HGX := Lib.hid hgx
      have HD := Lib.hid (HF.out.trans (congrArg (risFrom last) hd))
      have HS := Lib.hid (fun W => site16_any x W)
      obtain ⟨bs, hbs⟩ : ∃ bs, siteB x = bs := ⟨_, rfl⟩
      rw [hbs] at HS
      have HBS := Lib.hid hbs
      clear hd hx hgx hq hbs
      cases bs with
      | false =>
        as_aux_lemma =>
        have HD2 := Lib.hid (HD.out.trans (if_pos ((ris_site h0).2 (.inl HBS.out))))
        clear HD hc
        go_upto_region 4 with (fail)
        go_quiet ((go_at_call 98; exact Calls.quiet_of_same (HS.out _)))
        go_wp2_with (fail)
        go_ret
        exact ⟨ret_bool HD2.out.symm, q + nq, by rw [HQ.out]; exact dd _ _ _⟩
      | true =>
        have hx1 : 1 ≤ x := by have := HBS.out; unfold siteB at this; simp at this; omega
        by_cases hk0 : 0 < k
        · obtain ⟨P, hP⟩ : ∃ P, k - 1 = P := ⟨_, rfl⟩
          have hPl : P < l.length := by omega
          have c2 : wr.cell? ⟨b, f + P, none⟩ = some (.int .i64 last) := by
            have e := (HP.out hk0).1
            rw [hP] at e
            simp only [List.getD, List.getElem?_eq_getElem hPl, Option.getD_some] at e
            rw [HQ.out, ← e]
            exact hc P hPl
          have hw1 : IntKind.i64.wrap ((k : Int) - 1) = (P : Int) := by rw [IntWalk.i64_in _ ⟨by omega, by omega⟩]; omega
          have hgt : (k : Int) > 0 := by omega
          have hPN : (P : Int) < (N : Int) := by omega
          by_cases h1 : x ≤ last
          · as_aux_lemma =>
            have HD2 := Lib.hid (HD.out.trans (if_pos (.inl h1)))
            clear HD hc hP
            go_upto_region 4 with (fail)
            go_quiet ((go_at_call 98; exact Calls.quiet_of_same (HS.out _)))
            go_wp2_with (fail)
            go_ret
            exact ⟨ret_bool HD2.out.symm, q + nq, by rw [HQ.out]; exact dd _ _ _⟩
          · as_aux_lemma =>
            have HD2 := Lib.hid (HD.out.trans (if_neg (ris_ok h0 HBS.out h1)))
            clear HD hc hP
            go_upto_region 4 with (fail)
            go_quiet ((go_at_call 98; exact Calls.quiet_of_same (HS.out _)))
            go_wp2_with (fail)
            go_roundw
            case rel => exact ⟨k + 1, q + nq, x, by go_num, by omega, by rw [HQ.out]; exact dd _ _ _, by omega, fun _ => ⟨HGX.out, hx1⟩, fun e => by omega, HD2.out⟩
            case measure => simp [intOf]; omega
        · as_aux_lemma =>
          have hgt : ¬ (k : Int) > 0 := by omega
          have hl0 := HZ.out (by omega)
          have HD2 := Lib.hid (HD.out.trans (if_neg (ris_ok h0 HBS.out (by omega))))
          clear HD hc hl0
          go_upto_region 4 with (fail)
          go_quiet ((go_at_call 98; exact Calls.quiet_of_same (HS.out _)))
          go_wp2_with (fail)
          go_roundw
          case rel => exact ⟨k + 1, q + nq, x, by go_num, by omega, by rw [HQ.out]; exact dd _ _ _, by omega, fun _ => ⟨HGX.out, hx1⟩, fun e => by omega, HD2.out⟩
          case measure => simp [intOf]; omega
    · have hin : ¬ (k : Int) < (N : Int) := by omega
      go_wp2_with (fail)
      go_ret
      rw [HF.out, List.drop_eq_nil_of_le (by rw [HN.out]; omega)]
      exact ⟨rfl, q, HQ.out⟩
end Go.Proofs.YtnajbkccaclkcaaGreat

namespace Go.Proofs.YtnajbkccaclkcaaGreat
open Go Go.RowKit

def idc (l : List Idt) : List Value := l.flatMap fun i => [.int .i64 i.time, .int .i64 i.site]
theorem idc_len (l : List Idt) : (idc l).length = l.length * 2 := by
  induction l with
  | nil => rfl
  | cons x l ih =>
    have e : idc (x :: l) = [.int .i64 x.time, .int .i64 x.site] ++ idc l := rfl
    rw [e, List.length_append, ih, List.length_cons]
    simp; omega
theorem idc_app (l r : List Idt) : idc (l ++ r) = idc l ++ idc r := by simp [idc]
theorem idc_get (l : List Idt) (k : Nat) (hk : k < l.length) : (idc l)[k * 2]? = some (.int .i64 l[k].time) ∧ (idc l)[k * 2 + 1]? = some (.int .i64 l[k].site) := by
  induction l generalizing k with
  | nil => simp at hk
  | cons x l ih =>
    have e : idc (x :: l) = .int .i64 x.time :: .int .i64 x.site :: idc l := rfl
    rw [e]
    cases k with
    | zero => simp
    | succ k =>
      have := ih k (by simpa using hk)
      rw [show (k + 1) * 2 = k * 2 + 1 + 1 by omega, show k * 2 + 1 + 1 + 1 = (k * 2 + 1) + 1 + 1 by omega]
      simpa using this
theorem info_idt : (Tryz.prog.info? 61).map (fun i => (i.zero, i.size, i.bytes)) = some (some (.agg #[.int .i64 0, .int .i64 0]), 2, 16) := by kernel_rfl
theorem eltIds : Elt Tryz.prog 172 61 2 16 := .of Tryz.underlying172 info_idt rfl (by decide) (by decide)

set_option maxRecDepth 100000 in
set_option maxHeartbeats 1600000 in
theorem at_any (A : Option Addr) (l : List Nd) (c : Nat) (id : Idt) (w : World) (hl : CellsAt w A (nds l)) (hn : l.length ≤ 1000000) : Calls Tryz.prog 96 #[.agg #[.slice A l.length c], .agg #[.int .i64 id.time, .int .i64 id.site]] w (IntPost w (atN l id)) := by
  obtain ⟨it, is⟩ := id
  obtain ⟨N, hN⟩ : ∃ N, l.length = N := ⟨_, rfl⟩
  rw [hN] at hn ⊢
  have HN := Lib.hid hN
  have HL := Lib.hid hl
  clear hl hN
  simp only
  go_enter Tryz.func96, Tryz.ntmps96
  go_upto_region 1 with (fail)
  have hk : Kept (fun _ => False) w ((w.alloc (.cells #[.slice A N c] 155)).alloc (.cells #[.int .i64 it, .int .i64 is] 61)) := ((Kept.refl _ _).alloc _).alloc _
  have hb1 := (Box.new w 155 #[.slice A N c]).alloc (.cells #[.int .i64 it, .int .i64 is] 61)
  have hb2 := Box.new (w.alloc (.cells #[.slice A N c] 155)) 61 #[.int .i64 it, .int .i64 is]
  rw [World.size_alloc] at hb2
  generalize (w.alloc (.cells #[.slice A N c] 155)).alloc (.cells #[.int .i64 it, .int .i64 is] 61) = w2 at hk hb1 hb2 ⊢
  obtain ⟨g, hg⟩ : ∃ g, w.heap.size = g := ⟨_, rfl⟩
  rw [hg] at hb1 hb2 ⊢
  have HB1 := Lib.hid hb1
  have HB2 := Lib.hid hb2
  have HK := Lib.hid hk
  clear hb1 hb2 hk hg
  go_wp2_with (fail)
  go_loopw [5] (fun i wr => ∃ k : Nat, i = .int .i64 k ∧ k ≤ N ∧ Kept (fun _ => False) w2 wr ∧ idxN ⟨it, is⟩ l = k + idxN ⟨it, is⟩ (l.drop k)) (fun i _ => N - (intOf i).toNat)
  case atStart => exact ⟨0, rfl, Nat.zero_le _, Kept.refl _ _, by simp⟩
  case round =>
    obtain ⟨k, rfl, hk, hkw, hf⟩ := hrel
    have HF := Lib.hid hf
    have HKW := Lib.hid hkw
    have d0 : wr.cell? ⟨g, 0, none⟩ = some (.slice A N c) := by simpa using (HB1.out.kept hkw id).cell 0
    clear hf hkw
    by_cases hlt : k < N
    · as_aux_lemma =>
      have hin : (k : Int) < (N : Int) := by omega
      have hkl : k < l.length := by rw [HN.out]; exact hlt
      obtain ⟨b, f, hA, hc⟩ := HL.out.some_ (by rw [nds_len]; omega)
      subst hA
      have hr := nd_range (w := wr) (fun j u hj => HKW.out.cellF (HK.out.cellF (hc j u hj))) k hkl
      have hd := List.drop_eq_getElem_cons hkl
      obtain ⟨x, hx⟩ : ∃ x, l[k] = x := ⟨_, rfl⟩
      rw [hx] at hr hd
      have HD := Lib.hid ((HF.out.trans (congrArg (fun z => k + idxN ⟨it, is⟩ z) hd)))
      obtain ⟨⟨xt, xs⟩, ⟨rt, rs⟩, ru, st⟩ := x
      have x0 : wr.cell? ⟨b, f + k * 6, none⟩ = some (.int .i64 xt) := by simpa using hr 0 _ rfl
      have x1 : wr.cell? ⟨b, f + k * 6 + 1, none⟩ = some (.int .i64 xs) := hr 1 _ rfl
      have y0 : wr.cell? ⟨g + 1, 0, none⟩ = some (.int .i64 it) := by simpa using (HB2.out.kept HKW.out id).cell 0
      have y1 : wr.cell? ⟨g + 1, 1, none⟩ = some (.int .i64 is) := by simpa using (HB2.out.kept HKW.out id).cell 1
      have aI := Tryz.isAgg61
      have zI := Tryz.sizeOf61
      clear hr hd hx hc HF
      have hcase : (xt = it ∧ xs = is) ∨ ((xt = it ∧ (xs == is) = false) ∨ (xt == it) = false) ∧ ¬ (xt = it ∧ xs = is) := by
        by_cases h1 : xt = it
        · by_cases h2 : xs = is
          · exact .inl ⟨h1, h2⟩
          · exact .inr ⟨.inl ⟨h1, by simp [h2]⟩, fun e => h2 e.2⟩
        · exact .inr ⟨.inr (by simp [h1]), fun e => h1 e.1⟩
      rcases hcase with ⟨rfl, rfl⟩ | ⟨hcase, hne⟩
      · have hres : idxN ⟨xt, xs⟩ l = k := by
          have := HD.out
          rw [idxN_cons, if_pos rfl] at this
          exact this
        have hfin : atN l ⟨xt, xs⟩ = (k : Int) := by unfold atN; rw [hres, if_pos hkl]
        have HR := Lib.hid hfin
        clear hres hfin
        go_upto_region 4 with (fail)
        go_quiet (fail)
        go_wp2_with (fail)
        go_ret
        exact ⟨ret_int HR.out.symm, HK.out.trans (HKW.out.drewN nq) fun _ _ e => e⟩
      · have hres : idxN ⟨it, is⟩ l = k + 1 + idxN ⟨it, is⟩ (l.drop (k + 1)) := by
          have := HD.out
          rw [idxN_cons, if_neg (fun e => hne (by injection e with e1 e2; exact ⟨e1, e2⟩))] at this
          omega
        have HR := Lib.hid hres
        clear hres hne
        rcases hcase with ⟨rfl, b2⟩ | b2
        · go_upto_region 4 with (fail)
          go_quiet (fail)
          go_wp2_with (fail)
          go_roundw
          case rel => exact ⟨k + 1, by go_num, by omega, HKW.out.drewN nq, HR.out⟩
          case measure => simp [intOf]; omega
        · go_upto_region 4 with (fail)
          go_quiet (fail)
          go_wp2_with (fail)
          go_roundw
          case rel => exact ⟨k + 1, by go_num, by omega, HKW.out.drewN nq, HR.out⟩
          case measure => simp [intOf]; omega
    · as_aux_lemma =>
      have hin : ¬ (k : Int) < (N : Int) := by omega
      have hfin : atN l ⟨it, is⟩ = -1 := by
        have := HF.out
        unfold atN
        rw [if_neg (by have := HN.out; omega)]
      have HR := Lib.hid hfin
      clear hfin
      go_wp2_with (fail)
      go_ret
      exact ⟨ret_int HR.out.symm, HK.out.trans HKW.out fun _ _ e => e⟩
end Go.Proofs.YtnajbkccaclkcaaGreat
