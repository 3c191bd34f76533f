/- A guarded operation whose guard is met. No condition. · One thing of an operation is turned about its limits: when it is one still. No program. -/
import Derived.Test.YtnlklhlnnoihiaaMO39
import Derived.Test.YtnlklhlnnoihiaaMO26
namespace Go.Proofs.Ytnlklhlnnoihiaa
open Go Go.RowKit

theorem wpList_unguard {P : Program} {ops : Array Oper} {Q : Exit → Act → World → Prop} {a : Act} {w : World} {rest : List Oper} {o : Oper} (hw : Region.wanted o (yielded ops a.tmps) = true) (h : wpList P ops Q ({ o with guard := none } :: rest) a w) : wpList P ops Q (o :: rest) a w := by
  unfold wpList at h ⊢
  rw [if_pos hw]
  rw [if_pos (by rfl)] at h
  exact h
end Go.Proofs.Ytnlklhlnnoihiaa

namespace Go.Proofs.Ytnlklhlnnoihiaa
open Go

/-- What an insert has. -/
def InsP (o : Opr) : Prop := o.gone.length = 0 ∧ o.site = 0 ∧ 0 < cnt o.text ∧ cnt o.text ≤ 1024 ∧ badAt o.text < 0 ∧ o.id.site = o.dot.site ∧
  (1 ≤ o.id.time ∧ o.id.time ≤ 2147483647 ∧ 1 ≤ o.id.site ∧ o.id.site ≤ 16 ∧ (cnt o.text : Int) - 1 ≤ 2147483647 - o.id.time) ∧
  ((o.ref.time = 0 ∧ o.ref.site = 0) ∨ (1 ≤ o.ref.time ∧ o.ref.time ≤ 2147483647 ∧ 1 ≤ o.ref.site ∧ o.ref.site ≤ 16)) ∧ o.ref.time < o.id.time
def BareP (o : Opr) : Prop := o.id.time = 0 ∧ o.id.site = 0 ∧ o.ref.time = 0 ∧ o.ref.site = 0 ∧ o.text = ⟨#[]⟩
def OkP (o : Opr) : Prop := (1 ≤ o.dot.site ∧ o.dot.site ≤ 16 ∧ 1 ≤ o.dot.seq ∧ o.dot.seq ≤ 2147483647) ∧ checkV o.deps = 0 ∧ getV o.deps o.dot.site = o.dot.seq - 1 ∧
  ((o.kind = 1 ∧ InsP o) ∨ (o.kind = 2 ∧ BareP o ∧ o.site = 0 ∧ 0 < o.gone.length ∧ o.gone.length ≤ 1024 ∧ chkR [] o.gone = 0) ∨
    (o.kind = 3 ∧ BareP o ∧ o.gone.length = 0 ∧ 1 ≤ o.site ∧ o.site ≤ 16) ∨ (o.kind = 4 ∧ BareP o ∧ o.gone.length = 0 ∧ o.site = 0))
theorem id_eq (a : Idt) (t s : Int) : a = ⟨t, s⟩ ↔ a.time = t ∧ a.site = s := by
  obtain ⟨x, y⟩ := a
  simp
theorem afterI_no (i : Idt) (n : Int) : afterI i n = noId ↔ ¬ (okId i = true ∧ 0 ≤ n ∧ n ≤ 2147483647 - i.time) := by
  unfold afterI
  split
  · rename_i h
    have := (okId_iff i).1 h.1
    simp only [noId, Idt.mk.injEq]
    constructor
    · rintro ⟨_, h2⟩; omega
    · exact fun e => absurd h e
  · rename_i h
    simp [h]
theorem afterI_same (i : Idt) : afterI i 0 = i ↔ i = noId ∨ okId i = true := by
  unfold afterI
  split
  · rename_i h
    obtain ⟨t, s⟩ := i
    simp [h.1]
  · rename_i h
    have h' : ¬ okId i = true := fun e => h ⟨e, by omega, by have := (okId_iff i).1 e; omega⟩
    simp only [h', or_false, Bool.false_eq_true]
    exact eq_comm
theorem bareB_iff (o : Opr) (s : Int) : bareB o s = true ↔ BareP o ∧ o.site = s := by
  unfold bareB sameRest BareP
  simp only [Bool.and_eq_true, decide_eq_true_eq, noId, id_eq]
  constructor
  · rintro ⟨⟨a, b⟩, ⟨c, d⟩, e, f⟩; exact ⟨⟨a, b, c, d, e⟩, f⟩
  · rintro ⟨⟨a, b, c, d, e⟩, f⟩; exact ⟨⟨a, b⟩, ⟨c, d⟩, e, f⟩
theorem insB_iff (o : Opr) : insB o = true ↔ InsP o := by
  unfold insB sameRest InsP
  simp only [Bool.and_eq_true, decide_eq_true_eq, Bool.or_eq_true, Bool.not_eq_true', decide_eq_false_iff_not, afterI_no, afterI_same, Classical.not_not, okId_iff, true_and]
  simp only [noId, id_eq]
  constructor
  · rintro ⟨a, b, c, d, e, f, ⟨⟨i1, i2, i3, i4⟩, i5, i6⟩, r, t⟩
    exact ⟨a, b, c, d, e, f, ⟨i1, i2, i3, i4, i6⟩, by rcases r with r | r | r <;> first | exact .inl r | exact .inr r, t⟩
  · rintro ⟨a, b, c, d, e, f, ⟨i1, i2, i3, i4, i6⟩, r, t⟩
    exact ⟨a, b, c, d, e, f, ⟨⟨i1, i2, i3, i4⟩, by omega, i6⟩, by rcases r with r | r; exact .inl r; exact .inr (.inr r), t⟩
theorem okOp_iff (o : Opr) : okOp o = true ↔ OkP o := by
  unfold okOp OkP rightB
  simp only [Bool.and_eq_true, decide_eq_true_eq, and_assoc]
  have hr : (sameRest o.id o.ref o.text o.site noId noId ⟨#[]⟩ 0 = true) = (bareB o 0 = true) := rfl
  refine and_congr_right fun _ => and_congr_right fun _ => and_congr_right fun _ => and_congr_right fun _ => and_congr_right fun _ => and_congr_right fun _ => ?_
  by_cases h1 : o.kind = 1
  · simp [h1, insB_iff]
  rw [if_neg h1]
  by_cases h2 : o.kind = 2
  · rw [if_pos h2]
    simp only [removeB, Bool.and_eq_true, decide_eq_true_eq, hr, bareB_iff, and_assoc]
    simp [h2]
  rw [if_neg h2]
  by_cases h3 : o.kind = 3
  · rw [if_pos h3]
    simp only [joinB, Bool.and_eq_true, decide_eq_true_eq, bareB_iff, and_true]
    simp [h3]
    exact and_left_comm
  rw [if_neg h3]
  by_cases h4 : o.kind = 4
  · rw [if_pos h4]
    simp only [Bool.and_eq_true, decide_eq_true_eq, bareB_iff]
    simp [h4]
    exact and_left_comm
  · simp [h1, h2, h3, h4]
theorem okOp_dec (o : Opr) (p : Bool) (h : OkP o ↔ p = true) : okOp o = p := by
  rw [Bool.eq_iff_iff, okOp_iff, h]
theorem cnt_nil : cnt ⟨#[]⟩ = 0 := rfl
theorem chkR_bad (r : Rn) (hr : okRn r = false) : ∀ (l p : List Rn), chkR p (l ++ [r]) ≠ 0
  | [], p => by
    show (if stepR p r = 0 then chkR (p ++ [r]) [] else stepR p r) ≠ 0
    have : stepR p r = 1 := by unfold stepR; rw [if_pos hr]
    rw [this, if_neg (by decide)]
    decide
  | q :: l, p => by
    show (if stepR p q = 0 then chkR (p ++ [q]) (l ++ [r]) else stepR p q) ≠ 0
    split
    · exact chkR_bad r hr l _
    · assumption
section
variable {o : Opr} (h : OkP o) (v : Int)
include h
theorem edge0 : okOp { o with kind := v } = decide (v = o.kind) := by
  refine okOp_dec _ _ ?_
  rw [decide_eq_true_eq]
  obtain ⟨h1, h2, h3, h4⟩ := h
  have hT : o.text = ⟨#[]⟩ → cnt o.text = 0 := fun e => by rw [e]; exact cnt_nil
  constructor
  · rintro ⟨_, _, _, k4⟩
    simp only [InsP, BareP] at h4 k4
    rcases h4 with ⟨a, b⟩ | ⟨a, b⟩ | ⟨a, b⟩ | ⟨a, b⟩ <;> rcases k4 with ⟨c, d⟩ | ⟨c, d⟩ | ⟨c, d⟩ | ⟨c, d⟩ <;> first | omega | (have := hT b.1.2.2.2.2; omega) | (have := hT d.1.2.2.2.2; omega)
  · rintro rfl
    exact ⟨h1, h2, h3, h4⟩
theorem edge1 : okOp { o with dot := ⟨o.dot.site, v⟩ } = decide (v = o.dot.seq) := by
  refine okOp_dec _ _ ?_
  rw [decide_eq_true_eq]
  obtain ⟨h1, h2, h3, h4⟩ := h
  constructor
  · rintro ⟨_, _, k3, _⟩
    simp only at k3
    omega
  · rintro rfl
    exact ⟨h1, h2, h3, h4⟩
theorem edge2 : okOp { o with site := v } = (decide (v = o.site) || decide (o.kind = 3) && decide (1 ≤ v ∧ v ≤ 16)) := by
  refine okOp_dec _ _ ?_
  simp only [Bool.or_eq_true, Bool.and_eq_true, decide_eq_true_eq]
  obtain ⟨h1, h2, h3, h4⟩ := h
  unfold OkP
  simp only [InsP, BareP] at h4 ⊢
  refine ⟨fun ⟨_, _, _, k4⟩ => ?_, fun hv => ⟨h1, h2, h3, ?_⟩⟩
  · omega
  · rcases hv with rfl | ⟨a, b⟩
    · exact h4
    · rcases h4 with ⟨c, d⟩ | ⟨c, d⟩ | ⟨c, d⟩ | ⟨c, d⟩
      · omega
      · omega
      · exact .inr (.inr (.inl ⟨c, d.1, d.2.1, b⟩))
      · omega
theorem edge3 : okOp { o with id := ⟨v, o.id.site⟩ } = (decide (v = o.id.time) || decide (o.kind = 1) && decide (o.ref.time < v ∧ 1 ≤ v ∧ v ≤ 2147483647 - (cnt o.text : Int) + 1)) := by
  refine okOp_dec _ _ ?_
  simp only [Bool.or_eq_true, Bool.and_eq_true, decide_eq_true_eq]
  obtain ⟨h1, h2, h3, h4⟩ := h
  unfold OkP
  simp only [InsP, BareP] at h4 ⊢
  refine ⟨fun ⟨_, _, _, k4⟩ => ?_, fun hv => ⟨h1, h2, h3, ?_⟩⟩
  · omega
  · rcases hv with rfl | ⟨a, b⟩
    · exact h4
    · rcases h4 with ⟨c, d⟩ | ⟨c, d⟩ | ⟨c, d⟩ | ⟨c, d⟩
      · exact .inl ⟨c, by omega⟩
      · omega
      · omega
      · omega
theorem edge4 : okOp { o with id := ⟨o.id.time, v⟩ } = decide (v = o.id.site) := by
  refine okOp_dec _ _ ?_
  simp only [decide_eq_true_eq]
  obtain ⟨h1, h2, h3, h4⟩ := h
  unfold OkP
  simp only [InsP, BareP] at h4 ⊢
  refine ⟨fun ⟨_, _, _, k4⟩ => ?_, fun hv => ⟨h1, h2, h3, ?_⟩⟩
  · omega
  · subst hv; exact h4
theorem edge5 : okOp { o with ref := ⟨v, o.ref.site⟩ } = (decide (v = o.ref.time) || decide (o.kind = 1) && (decide (v < o.id.time) && (decide (v = 0 ∧ o.ref.site = 0) || decide (1 ≤ v ∧ 1 ≤ o.ref.site)))) := by
  refine okOp_dec _ _ ?_
  simp only [Bool.or_eq_true, Bool.and_eq_true, decide_eq_true_eq]
  obtain ⟨h1, h2, h3, h4⟩ := h
  unfold OkP
  simp only [InsP, BareP] at h4 ⊢
  refine ⟨fun ⟨_, _, _, k4⟩ => ?_, fun hv => ⟨h1, h2, h3, ?_⟩⟩
  · omega
  · rcases hv with rfl | ⟨a, b⟩
    · exact h4
    · rcases h4 with ⟨c, d⟩ | ⟨c, d⟩ | ⟨c, d⟩ | ⟨c, d⟩
      · exact .inl ⟨c, by omega⟩
      · omega
      · omega
      · omega
theorem edge6 : okOp { o with ref := ⟨o.ref.time, v⟩ } = (decide (v = o.ref.site) || decide (o.kind = 1) && (decide (v = 0 ∧ o.ref.time = 0) || decide (1 ≤ o.ref.time ∧ 1 ≤ v ∧ v ≤ 16))) := by
  refine okOp_dec _ _ ?_
  simp only [Bool.or_eq_true, Bool.and_eq_true, decide_eq_true_eq]
  obtain ⟨h1, h2, h3, h4⟩ := h
  unfold OkP
  simp only [InsP, BareP] at h4 ⊢
  refine ⟨fun ⟨_, _, _, k4⟩ => ?_, fun hv => ⟨h1, h2, h3, ?_⟩⟩
  · omega
  · rcases hv with rfl | ⟨a, b⟩
    · exact h4
    · rcases h4 with ⟨c, d⟩ | ⟨c, d⟩ | ⟨c, d⟩ | ⟨c, d⟩
      · exact .inl ⟨c, by omega⟩
      · omega
      · omega
      · omega
theorem edge7 {t : ByteArray} (ht : t ≠ ⟨#[]⟩) (hb : badAt o.text < 0 → 0 ≤ badAt t) : okOp { o with text := t } = false := by
  refine okOp_dec _ _ ⟨?_, fun e => by cases e⟩
  obtain ⟨h1, h2, h3, h4⟩ := h
  rintro ⟨_, _, _, k4⟩
  simp only [InsP, BareP] at h4 k4
  rcases h4 with ⟨a, b⟩ | ⟨a, b⟩ | ⟨a, b⟩ | ⟨a, b⟩ <;> rcases k4 with ⟨c, d⟩ | ⟨c, d⟩ | ⟨c, d⟩ | ⟨c, d⟩ <;> first | omega | exact absurd d.1.2.2.2.2 ht
theorem edge8 : okOp { o with text := ⟨#[]⟩ } = decide (o.text = ⟨#[]⟩) := by
  refine okOp_dec _ _ ?_
  simp only [decide_eq_true_eq]
  obtain ⟨h1, h2, h3, h4⟩ := h
  have h0 := cnt_nil
  refine ⟨fun ⟨_, _, _, k4⟩ => ?_, fun hv => ?_⟩
  · simp only [InsP, BareP] at h4 k4
    rcases h4 with ⟨a, b⟩ | ⟨a, b⟩ | ⟨a, b⟩ | ⟨a, b⟩
    · omega
    · exact b.1.2.2.2.2
    · exact b.1.2.2.2.2
    · exact b.1.2.2.2.2
  · have e : ({ o with text := ⟨#[]⟩ } : Opr) = o := by
      obtain ⟨d, dl, k, i, r, t, g, s⟩ := o
      simp only at hv ⊢
      rw [hv]
    rw [e]
    exact ⟨h1, h2, h3, h4⟩
theorem edge9 : okOp { o with gone := o.gone ++ [⟨⟨v, 0⟩, 1⟩] } = false := by
  refine okOp_dec _ _ ⟨?_, fun e => by cases e⟩
  obtain ⟨h1, h2, h3, h4⟩ := h
  rintro ⟨_, _, _, k4⟩
  simp only [InsP, BareP, List.length_append, List.length_cons, List.length_nil] at h4 k4
  rcases k4 with ⟨c, d⟩ | ⟨c, d⟩ | ⟨c, d⟩ | ⟨c, d⟩
  · omega
  · refine absurd d.2.2.2.2 (chkR_bad ⟨⟨v, 0⟩, 1⟩ ?_ o.gone [])
    unfold okRn okId
    simp
  · omega
  · omega
theorem edge10 : okOp { o with dot := ⟨v, o.dot.seq⟩ } = (decide (v = o.dot.site) || !decide (o.kind = 1) && decide (1 ≤ v ∧ v ≤ 16 ∧ getV o.deps v = o.dot.seq - 1)) := by
  refine okOp_dec _ _ ?_
  simp only [Bool.or_eq_true, Bool.and_eq_true, Bool.not_eq_true', decide_eq_false_iff_not, decide_eq_true_eq]
  obtain ⟨h1, h2, h3, h4⟩ := h
  unfold OkP
  simp only [InsP, BareP] at h4 ⊢
  refine ⟨fun ⟨_, _, k3, k4⟩ => ?_, fun hv => ?_⟩
  · omega
  · rcases hv with rfl | ⟨a, b1, b2, b3⟩
    · exact ⟨h1, h2, h3, h4⟩
    · refine ⟨⟨b1, b2, h1.2.2⟩, h2, b3, ?_⟩
      rcases h4 with ⟨c, d⟩ | ⟨c, d⟩ | ⟨c, d⟩ | ⟨c, d⟩
      · exact absurd c a
      · exact .inr (.inl ⟨c, d⟩)
      · exact .inr (.inr (.inl ⟨c, d⟩))
      · exact .inr (.inr (.inr ⟨c, d⟩))
end
section
variable {o : Opr} (h : OkP o) (v : Int)
include h
theorem edgeP0 : okOp { o with kind := v } = true ↔ v = o.kind := by rw [edge0 h]; simp
theorem edgeP1 : okOp { o with dot := ⟨o.dot.site, v⟩ } = true ↔ v = o.dot.seq := by rw [edge1 h]; simp
theorem edgeP2 : okOp { o with site := v } = true ↔ (v = o.site ∨ o.kind = 3 ∧ 1 ≤ v ∧ v ≤ 16) := by rw [edge2 h]; simp
theorem edgeP3 : okOp { o with id := ⟨v, o.id.site⟩ } = true ↔ (v = o.id.time ∨ o.kind = 1 ∧ o.ref.time < v ∧ 1 ≤ v ∧ v ≤ 2147483647 - (cnt o.text : Int) + 1) := by rw [edge3 h]; simp
theorem edgeP4 : okOp { o with id := ⟨o.id.time, v⟩ } = true ↔ v = o.id.site := by rw [edge4 h]; simp
theorem edgeP5 : okOp { o with ref := ⟨v, o.ref.site⟩ } = true ↔ (v = o.ref.time ∨ o.kind = 1 ∧ v < o.id.time ∧ (v = 0 ∧ o.ref.site = 0 ∨ 1 ≤ v ∧ 1 ≤ o.ref.site)) := by rw [edge5 h]; simp
theorem edgeP6 : okOp { o with ref := ⟨o.ref.time, v⟩ } = true ↔ (v = o.ref.site ∨ o.kind = 1 ∧ (v = 0 ∧ o.ref.time = 0 ∨ 1 ≤ o.ref.time ∧ 1 ≤ v ∧ v ≤ 16)) := by rw [edge6 h]; simp
theorem edgeP10 : okOp { o with dot := ⟨v, o.dot.seq⟩ } = true ↔ (v = o.dot.site ∨ ¬ o.kind = 1 ∧ 1 ≤ v ∧ v ≤ 16 ∧ getV o.deps v = o.dot.seq - 1) := by rw [edge10 h]; simp
end
/-- A byte that begins a rune of two, at a text's end. -/
def torn (s : ByteArray) : ByteArray := s ++ ⟨#[0xc3]⟩
theorem torn_size (s : ByteArray) : (torn s).size = s.size + 1 := by unfold torn; rw [ByteArray.size_append]; rfl
theorem byt_torn_lt (s : ByteArray) (k : Nat) (h : k < s.size) : byt (torn s) k = byt s k := by
  have h' : k < (torn s).size := by rw [torn_size]; omega
  rw [← byt_get h', ← byt_get h]
  congr 1
  exact ByteArray.getElem_append_left h
theorem byt_torn_end (s : ByteArray) : byt (torn s) s.size = 195 := by
  have h' : s.size < (torn s).size := by rw [torn_size]; omega
  rw [← byt_get h']
  have h2 : ∀ h : s.size < (s ++ (⟨#[0xc3]⟩ : ByteArray)).size, (s ++ (⟨#[0xc3]⟩ : ByteArray))[s.size]'h = 0xc3 := fun h => by
    rw [ByteArray.getElem_append_right (Nat.le_refl _)]
    simp only [Nat.sub_self]
    rfl
  have : (torn s)[s.size]'h' = 0xc3 := h2 h'
  rw [this]
  rfl
theorem torn_bad (s : ByteArray) : bad (torn s) s.size = true := by
  unfold bad
  rw [dec_eq, byt_torn_end, byt_end (k := s.size + 1) (by rw [torn_size]; omega), byt_end (k := s.size + 2) (by rw [torn_size]; omega), byt_end (k := s.size + 3) (by rw [torn_size]; omega)]
  rfl
theorem torn_dec {s : ByteArray} {i : Nat} (hi : i < s.size) (hb : bad s i = false) : dec (torn s) i = dec s i := by
  have hz : ∀ k, byt s k / 64 = 2 → byt (torn s) k = byt s k := fun k hk => by
    rcases Nat.lt_or_ge k s.size with h | h
    · exact byt_torn_lt s k h
    · rw [byt_end h] at hk; omega
  have hb' : dec s i ≠ (65533, 1) := of_decide_eq_false hb
  have z1 := hz (i + 1)
  have z2 := hz (i + 2)
  have z3 := hz (i + 3)
  rw [dec_eq] at hb' ⊢
  rw [dec_eq, byt_torn_lt s i hi]
  generalize byt (torn s) (i + 1) = b' at *
  generalize byt (torn s) (i + 2) = c' at *
  generalize byt (torn s) (i + 3) = d' at *
  generalize byt s (i + 1) = b at *
  generalize byt s (i + 2) = c at *
  generalize byt s (i + 3) = d at *
  unfold dec4 at hb' ⊢
  split at hb'
  · rename_i h0
    simp only [if_pos h0]
  rename_i h0
  split at hb'
  · rename_i h1
    rw [z1 h1.1.2]
    simp only [if_neg h0, if_pos h1]
  rename_i h1
  split at hb'
  · rename_i h2
    rw [z1 h2.1.2.1, z2 h2.1.2.2]
    simp only [if_neg h0, if_neg h1, if_pos h2]
  rename_i h2
  split at hb'
  · rename_i h3
    rw [z1 h3.1.2.1, z2 h3.1.2.2.1, z3 h3.1.2.2.2]
  · exact absurd rfl hb'
theorem torn_first (s : ByteArray) (f : Nat) : ∀ n i, s.size - i ≤ n → i ≤ s.size → (torn s).size ≤ i + f → firstBad (pcs s f i) < 0 → 0 ≤ firstBad (pcs (torn s) f i) := by
  intro n
  induction n with
  | zero =>
    intro i h1 h2 h3 _
    obtain rfl : i = s.size := by omega
    rw [pcs_step (by rw [torn_size]; omega) h3]
    unfold firstBad
    rw [torn_bad]
    simp
  | succ n ih =>
    intro i h1 h2 h3 h4
    rcases Nat.lt_or_ge i s.size with hi | hi
    · rw [pcs_step hi (by rw [torn_size] at h3; omega)] at h4
      rw [pcs_step (by rw [torn_size]; omega) h3]
      unfold firstBad at h4 ⊢
      have hb : bad s i = false := by
        cases hb : bad s i with
        | false => rfl
        | true => rw [hb] at h4; simp at h4; omega
      have hd := torn_dec hi hb
      have hb' : bad (torn s) i = false := by
        unfold bad at hb ⊢
        rw [hd]; exact hb
      have hp := dec_pos s i
      have hf := dec_fits hi
      rw [hb', hd]
      rw [hb] at h4
      simp only [Bool.not_false, if_true] at h4 ⊢
      exact ih _ (by omega) (by omega) (by omega) h4
    · obtain rfl : i = s.size := by omega
      rw [pcs_step (by rw [torn_size]; omega) h3]
      unfold firstBad
      rw [torn_bad]
      simp
theorem torn_badAt (s : ByteArray) (h : badAt s < 0) : 0 ≤ badAt (torn s) := by
  unfold badAt cuts at h ⊢
  rw [torn_size]
  rw [← pcs_more _ _ (by omega)] at h
  exact torn_first s _ s.size 0 (by omega) (by omega) (by rw [torn_size]; omega) h
theorem torn_ne (s : ByteArray) : torn s ≠ ⟨#[]⟩ := fun e => by
  have := torn_size s
  rw [e] at this
  have h0 : (⟨#[]⟩ : ByteArray).size = 0 := rfl
  omega
end Go.Proofs.Ytnlklhlnnoihiaa
