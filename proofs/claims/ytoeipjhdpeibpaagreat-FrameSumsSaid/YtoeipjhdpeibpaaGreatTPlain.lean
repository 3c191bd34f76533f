/- Texts: how the model cuts one into runes, and how the document does: the same. No program. -/
import Derived.Laws.RangeAny
import Derived.Lib.OthersKept
namespace Go.Proofs.YtoeipjhdpeibpaaGreat
open Go

/-- A byte of a text; 0 behind its end. -/
def byt (s : ByteArray) (k : Nat) : Nat := (s.get! k).toNat
theorem byt_lt (s : ByteArray) (k : Nat) : byt s k < 256 := (s.get! k).toNat_lt
theorem byt_end {s : ByteArray} {k : Nat} (h : s.size ≤ k) : byt s k = 0 := by
  obtain ⟨bs⟩ := s
  have h1 : bs.size ≤ k := h
  have h' : ¬ k < bs.size := by omega
  show ((bs[k]! : UInt8)).toNat = 0
  rw [getElem!_neg bs k h']
  rfl
theorem byt_get {s : ByteArray} {k : Nat} (h : k < s.size) : (s[k]'h).toNat = byt s k := by
  have := get_at s k h
  rw [Nat.add_zero] at this
  rw [byt, this]

/-- The rune that four bytes begin with, as the model says. -/
def dec4 (a b c d : Nat) : Nat × Nat :=
  if a < 128 then (a, 1)
  else if (a / 32 = 6 ∧ b / 64 = 2) ∧ 128 ≤ a % 32 * 64 + b % 64 then (a % 32 * 64 + b % 64, 2)
  else if (a / 16 = 14 ∧ b / 64 = 2 ∧ c / 64 = 2) ∧ 2048 ≤ a % 16 * 4096 + b % 64 * 64 + c % 64 ∧ (a % 16 * 4096 + b % 64 * 64 + c % 64 < 55296 ∨ 57344 ≤ a % 16 * 4096 + b % 64 * 64 + c % 64 ∧ a % 16 * 4096 + b % 64 * 64 + c % 64 ≤ 1114111) then (a % 16 * 4096 + b % 64 * 64 + c % 64, 3)
  else if (a / 8 = 30 ∧ b / 64 = 2 ∧ c / 64 = 2 ∧ d / 64 = 2) ∧ 65536 ≤ a % 8 * 262144 + b % 64 * 4096 + c % 64 * 64 + d % 64 ∧ (a % 8 * 262144 + b % 64 * 4096 + c % 64 * 64 + d % 64 < 55296 ∨ 57344 ≤ a % 8 * 262144 + b % 64 * 4096 + c % 64 * 64 + d % 64 ∧ a % 8 * 262144 + b % 64 * 4096 + c % 64 * 64 + d % 64 ≤ 1114111) then (a % 8 * 262144 + b % 64 * 4096 + c % 64 * 64 + d % 64, 4)
  else (65533, 1)
/-- Does a byte go on a rune? -/
def goesOn (b : Nat) : Bool := decide (128 ≤ b ∧ b ≤ 191)
/-- How many bytes the rune has that four bytes begin with, as the document says; 0: none begins. -/
def beg4 (a b c d : Nat) : Nat :=
  if a ≤ 127 then 1
  else if (194 ≤ a ∧ a ≤ 223) ∧ goesOn b then 2
  else if (a = 224 ∧ 160 ≤ b ∨ 225 ≤ a ∧ a ≤ 236 ∨ a = 237 ∧ b ≤ 159 ∨ 238 ≤ a ∧ a ≤ 239) ∧ goesOn b ∧ goesOn c then 3
  else if (a = 240 ∧ 144 ≤ b ∨ 241 ≤ a ∧ a ≤ 243 ∨ a = 244 ∧ b ≤ 143) ∧ goesOn b ∧ goesOn c ∧ goesOn d then 4
  else 0
theorem goesOn_iff (b : Nat) : goesOn b = true ↔ 128 ≤ b ∧ b ≤ 191 := by simp [goesOn]
theorem two_iff (a b : Nat) (ha : a < 256) (hb : b < 256) : ((a / 32 = 6 ∧ b / 64 = 2) ∧ 128 ≤ a % 32 * 64 + b % 64) ↔ (194 ≤ a ∧ a ≤ 223) ∧ 128 ≤ b ∧ b ≤ 191 := by omega
theorem three_iff (a b c : Nat) (ha : a < 256) (hb : b < 256) (hc : c < 256) : ((a / 16 = 14 ∧ b / 64 = 2 ∧ c / 64 = 2) ∧ 2048 ≤ a % 16 * 4096 + b % 64 * 64 + c % 64 ∧ (a % 16 * 4096 + b % 64 * 64 + c % 64 < 55296 ∨ 57344 ≤ a % 16 * 4096 + b % 64 * 64 + c % 64 ∧ a % 16 * 4096 + b % 64 * 64 + c % 64 ≤ 1114111)) ↔
    (a = 224 ∧ 160 ≤ b ∨ 225 ≤ a ∧ a ≤ 236 ∨ a = 237 ∧ b ≤ 159 ∨ 238 ≤ a ∧ a ≤ 239) ∧ (128 ≤ b ∧ b ≤ 191) ∧ 128 ≤ c ∧ c ≤ 191 := by omega
theorem four_iff (a b c d : Nat) (ha : a < 256) (hb : b < 256) (hc : c < 256) (hd : d < 256) : ((a / 8 = 30 ∧ b / 64 = 2 ∧ c / 64 = 2 ∧ d / 64 = 2) ∧ 65536 ≤ a % 8 * 262144 + b % 64 * 4096 + c % 64 * 64 + d % 64 ∧ (a % 8 * 262144 + b % 64 * 4096 + c % 64 * 64 + d % 64 < 55296 ∨ 57344 ≤ a % 8 * 262144 + b % 64 * 4096 + c % 64 * 64 + d % 64 ∧ a % 8 * 262144 + b % 64 * 4096 + c % 64 * 64 + d % 64 ≤ 1114111)) ↔
    (a = 240 ∧ 144 ≤ b ∨ 241 ≤ a ∧ a ≤ 243 ∨ a = 244 ∧ b ≤ 143) ∧ (128 ≤ b ∧ b ≤ 191) ∧ (128 ≤ c ∧ c ≤ 191) ∧ 128 ≤ d ∧ d ≤ 191 := by omega
theorem beg_dec (a b c d : Nat) (ha : a < 256) (hb : b < 256) (hc : c < 256) (hd : d < 256) : (dec4 a b c d = (65533, 1) ∧ beg4 a b c d = 0) ∨ (dec4 a b c d ≠ (65533, 1) ∧ beg4 a b c d = (dec4 a b c d).2) := by
  unfold dec4 beg4
  simp only [goesOn_iff, ← two_iff a b ha hb, ← three_iff a b c ha hb hc, ← four_iff a b c d ha hb hc hd]
  by_cases h0 : a < 128
  · right
    simp only [if_pos h0, if_pos (show a ≤ 127 by omega)]
    exact ⟨fun e => by injection e; omega, trivial⟩
  simp only [if_neg h0, if_neg (show ¬ a ≤ 127 by omega)]
  by_cases h1 : (a / 32 = 6 ∧ b / 64 = 2) ∧ 128 ≤ a % 32 * 64 + b % 64
  · right
    simp only [if_pos h1]
    exact ⟨fun e => by simp at e, trivial⟩
  simp only [if_neg h1]
  by_cases h2 : (a / 16 = 14 ∧ b / 64 = 2 ∧ c / 64 = 2) ∧ 2048 ≤ a % 16 * 4096 + b % 64 * 64 + c % 64 ∧ (a % 16 * 4096 + b % 64 * 64 + c % 64 < 55296 ∨ 57344 ≤ a % 16 * 4096 + b % 64 * 64 + c % 64 ∧ a % 16 * 4096 + b % 64 * 64 + c % 64 ≤ 1114111)
  · right
    simp only [if_pos h2]
    exact ⟨fun e => by simp at e, trivial⟩
  simp only [if_neg h2]
  by_cases h3 : (a / 8 = 30 ∧ b / 64 = 2 ∧ c / 64 = 2 ∧ d / 64 = 2) ∧ 65536 ≤ a % 8 * 262144 + b % 64 * 4096 + c % 64 * 64 + d % 64 ∧ (a % 8 * 262144 + b % 64 * 4096 + c % 64 * 64 + d % 64 < 55296 ∨ 57344 ≤ a % 8 * 262144 + b % 64 * 4096 + c % 64 * 64 + d % 64 ∧ a % 8 * 262144 + b % 64 * 4096 + c % 64 * 64 + d % 64 ≤ 1114111)
  · right
    simp only [if_pos h3]
    exact ⟨fun e => by simp at e, trivial⟩
  · left
    simp only [if_neg h3]
    exact ⟨trivial, trivial⟩

/-- The rune at a place, as the model cuts. -/
def dec (s : ByteArray) (i : Nat) : Nat × Nat := Utf8.decode s i
theorem valid_iff (v : Nat) : Utf8.valid (v : Int) = true ↔ v < 55296 ∨ 57344 ≤ v ∧ v ≤ 1114111 := by
  unfold Utf8.valid
  simp only [Bool.or_eq_true, Bool.and_eq_true, decide_eq_true_eq]
  omega
/-- The same, its tests nested as the model's. -/
def decM (a b c d : Nat) : Nat × Nat :=
  if a < 128 then (a, 1)
  else if a / 32 = 6 ∧ b / 64 = 2 then (if 128 ≤ a % 32 * 64 + b % 64 then (a % 32 * 64 + b % 64, 2) else (65533, 1))
  else if a / 16 = 14 ∧ b / 64 = 2 ∧ c / 64 = 2 then (if 2048 ≤ a % 16 * 4096 + b % 64 * 64 + c % 64 ∧ (a % 16 * 4096 + b % 64 * 64 + c % 64 < 55296 ∨ 57344 ≤ a % 16 * 4096 + b % 64 * 64 + c % 64 ∧ a % 16 * 4096 + b % 64 * 64 + c % 64 ≤ 1114111) then (a % 16 * 4096 + b % 64 * 64 + c % 64, 3) else (65533, 1))
  else if a / 8 = 30 ∧ b / 64 = 2 ∧ c / 64 = 2 ∧ d / 64 = 2 then (if 65536 ≤ a % 8 * 262144 + b % 64 * 4096 + c % 64 * 64 + d % 64 ∧ (a % 8 * 262144 + b % 64 * 4096 + c % 64 * 64 + d % 64 < 55296 ∨ 57344 ≤ a % 8 * 262144 + b % 64 * 4096 + c % 64 * 64 + d % 64 ∧ a % 8 * 262144 + b % 64 * 4096 + c % 64 * 64 + d % 64 ≤ 1114111) then (a % 8 * 262144 + b % 64 * 4096 + c % 64 * 64 + d % 64, 4) else (65533, 1))
  else (65533, 1)
theorem nest {α : Type} {p1 q1 p2 q2 p3 q3 : Prop} [Decidable p1] [Decidable q1] [Decidable p2] [Decidable q2] [Decidable p3] [Decidable q3] (h12 : p1 → ¬ p2) (h13 : p1 → ¬ p3) (h23 : p2 → ¬ p3) (x1 x2 x3 z : α) :
    (if p1 then (if q1 then x1 else z) else if p2 then (if q2 then x2 else z) else if p3 then (if q3 then x3 else z) else z) = (if p1 ∧ q1 then x1 else if p2 ∧ q2 then x2 else if p3 ∧ q3 then x3 else z) := by
  by_cases a1 : p1 <;> by_cases a2 : p2 <;> by_cases a3 : p3 <;> by_cases b1 : q1 <;> by_cases b2 : q2 <;> by_cases b3 : q3 <;> simp_all
theorem decM_eq (a b c d : Nat) : decM a b c d = dec4 a b c d := by
  unfold decM dec4
  rw [nest (by omega) (by omega) (by omega)]
theorem dec_eq (s : ByteArray) (i : Nat) : dec s i = dec4 (byt s i) (byt s (i + 1)) (byt s (i + 2)) (byt s (i + 3)) := by
  have h : ∀ k, (i + k < s.size ∧ (s.get! (i + k)).toNat / 64 = 2) ↔ byt s (i + k) / 64 = 2 := fun k => by
    by_cases hk : i + k < s.size
    · simp [hk, byt]
    · have e := byt_end (s := s) (k := i + k) (by omega)
      rw [e]
      simp [hk]
  rw [← decM_eq]
  unfold dec Utf8.decode decM
  simp only [Bool.and_eq_true, decide_eq_true_eq, beq_iff_eq, h, Utf8.runeError, ge_iff_le, valid_iff]
  simp only [and_assoc]
  rfl
/-- Does no rune begin at a place? -/
def bad (s : ByteArray) (i : Nat) : Bool := decide (dec s i = (65533, 1))
def begN (s : ByteArray) (i : Nat) : Nat := beg4 (byt s i) (byt s (i + 1)) (byt s (i + 2)) (byt s (i + 3))
theorem beg_bad (s : ByteArray) (i : Nat) : begN s i = if bad s i then 0 else (dec s i).2 := by
  have h := beg_dec _ _ _ _ (byt_lt s i) (byt_lt s (i + 1)) (byt_lt s (i + 2)) (byt_lt s (i + 3))
  unfold begN bad
  rw [dec_eq]
  rcases h with ⟨h1, h2⟩ | ⟨h1, h2⟩
  · rw [if_pos (by simpa using h1), h2]
  · rw [if_neg (by simpa using h1), h2]
theorem dec_pos (s : ByteArray) (i : Nat) : 1 ≤ (dec s i).2 ∧ (dec s i).2 ≤ 4 := by
  rw [dec_eq]
  unfold dec4
  repeat' split
  all_goals exact ⟨by simp, by simp⟩
theorem dec_fits {s : ByteArray} {i : Nat} (h : i < s.size) : i + (dec s i).2 ≤ s.size := by
  have hz : ∀ k, byt s k / 64 = 2 → k < s.size := fun k hk => by
    rcases Nat.lt_or_ge k s.size with h | h
    · exact h
    · rw [byt_end h] at hk; omega
  rw [dec_eq]
  unfold dec4
  split
  · exact h
  split
  · rename_i h1; have := hz _ h1.1.2; exact this
  split
  · rename_i h1; have := hz _ h1.1.2.2; exact this
  split
  · rename_i h1; have := hz _ h1.1.2.2.2; exact this
  · exact h

/-- The pieces of a text: where each begins, how many bytes it has, whether it is a rune. -/
def pcs (s : ByteArray) : Nat → Nat → List (Nat × Nat × Bool)
  | 0, _ => []
  | f + 1, i => if i < s.size then (i, (dec s i).2, !bad s i) :: pcs s f (i + (dec s i).2) else []
theorem pcs_end {s : ByteArray} {i : Nat} (f : Nat) (h : s.size ≤ i) : pcs s f i = [] := by
  cases f with
  | zero => rfl
  | succ f => rw [pcs, if_neg (by omega)]
theorem pcs_more {s : ByteArray} : ∀ (f i : Nat), s.size ≤ i + f → pcs s (f + 1) i = pcs s f i
  | 0, i, h => by rw [pcs_end _ (by omega), pcs_end _ (by omega)]
  | f + 1, i, h => by
    rw [pcs]
    conv => rhs; rw [pcs]
    split
    · rw [pcs_more f _ (by have := dec_pos s i; omega)]
    · rfl
def cuts (s : ByteArray) : List (Nat × Nat × Bool) := pcs s s.size 0
def cnt (s : ByteArray) : Nat := (cuts s).length
def firstBad : List (Nat × Nat × Bool) → Int
  | [] => -1
  | (i, _, ok) :: l => if ok then firstBad l else i
def badAt (s : ByteArray) : Int := firstBad (cuts s)
theorem pcs_len (s : ByteArray) : ∀ f i, (pcs s f i).length ≤ f
  | 0, _ => Nat.le_refl _
  | f + 1, i => by
    rw [pcs]
    split
    · have := pcs_len s f (i + (dec s i).2)
      simp only [List.length_cons]
      omega
    · simp
theorem cnt_le (s : ByteArray) : cnt s ≤ s.size := pcs_len s _ _
/-- One step of a walk through them. -/
theorem pcs_step {s : ByteArray} {i f : Nat} (h : i < s.size) (hf : s.size ≤ i + f) : pcs s f i = (i, (dec s i).2, !bad s i) :: pcs s f (i + (dec s i).2) := by
  obtain ⟨f, rfl⟩ : ∃ k, f = k + 1 := ⟨f - 1, by omega⟩
  rw [pcs, if_pos h, pcs_more f _ (by have := dec_pos s i; omega)]
end Go.Proofs.YtoeipjhdpeibpaaGreat
