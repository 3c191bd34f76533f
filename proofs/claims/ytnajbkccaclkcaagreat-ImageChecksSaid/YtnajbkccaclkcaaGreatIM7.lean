/- The plain law of numbers as bytes: seven bits a byte, the lowest first; no program in sight. · What a stamp's Writer and a row of bytes are in memory. · Opening an argument that is a Dot, a run, bytes. No condition. -/
import Derived.Test.YtnajbkccaclkcaaGreatRows
import Derived.Test.YtnajbkccaclkcaaGreatIM0
import Derived.Laws.Tables
import Derived.Laws.Rows
import Derived.Deep.RegionLaw
import Derived.Deep.RegionHeld3
import Derived.Deep.CutBlock
import Derived.Deep.AppendLies
import Derived.Maps.AppendAt
import Derived.Lib.SmallJoins
import Derived.Test.YtnajbkccaclkcaaGreatIM6
namespace Go.Proofs.YtnajbkccaclkcaaGreat

/-- the bytes of a number -/
def enc (v : Nat) : List Int := if v < 128 then [(v : Int)] else ((v % 128 + 128 : Nat) : Int) :: enc (v / 128)
decreasing_by omega
theorem enc_small {v : Nat} (h : v < 128) : enc v = [(v : Int)] := by rw [enc, if_pos h]
theorem enc_big {v : Nat} (h : ¬ v < 128) : enc v = ((v % 128 + 128 : Nat) : Int) :: enc (v / 128) := by rw [enc, if_neg h]
def wrB (l : List Int) (e v : Int) : List Int := if e ≠ 0 then l else if v < 0 then l else l ++ enc v.toNat
def wrE (e v : Int) : Int := if e ≠ 0 then e else if v < 0 then 1 else 0
theorem wr_err {l : List Int} {e v : Int} (h : e ≠ 0) : wrB l e v = l ∧ wrE e v = e := ⟨if_pos h, if_pos h⟩
theorem wr_neg {l : List Int} {v : Int} (h : v < 0) : wrB l 0 v = l ∧ wrE 0 v = 1 := ⟨by rw [wrB, if_neg (by decide), if_pos h], by rw [wrE, if_neg (by decide), if_pos h]⟩
theorem wr_ok {l : List Int} {v : Nat} : wrB l 0 v = l ++ enc v ∧ wrE 0 v = 0 := ⟨by rw [wrB, if_neg (by decide), if_neg (by omega)]; rfl, by rw [wrE, if_neg (by decide), if_neg (by omega)]⟩

theorem enc_pos (v : Nat) : 0 < (enc v).length := by
  by_cases h : v < 128
  · rw [enc_small h]; simp
  · rw [enc_big h]; simp
theorem enc_len (n : Nat) : ∀ v : Nat, v < 128 ^ (n + 1) → (enc v).length ≤ n + 1 := by
  induction n with
  | zero => intro v h; rw [enc_small (by simpa using h)]; simp
  | succ n ih =>
    intro v h
    by_cases h1 : v < 128
    · rw [enc_small h1]; simp
    · rw [enc_big h1]
      have := ih (v / 128) (by rw [Nat.div_lt_iff_lt_mul (by decide)]; rwa [Nat.pow_succ] at h)
      simp only [List.length_cons]
      omega
def isByte (l : List Int) : Prop := ∀ b ∈ l, 0 ≤ b ∧ b < 256
theorem enc_byte (v : Nat) : isByte (enc v) := by
  induction v using Nat.strongRecOn with
  | ind v ih =>
    by_cases h : v < 128
    · rw [enc_small h]
      intro b hb
      simp at hb
      omega
    · rw [enc_big h]
      intro b hb
      rcases List.mem_cons.1 hb with rfl | hb
      · omega
      · exact ih (v / 128) (by omega) b hb

/-- a number taken: from place n of a row, v so far: the error, the number, how many bytes it took -/
def takeFrom (n v : Nat) : List Int → Int × Nat × Nat
  | [] => (5, 0, 0)
  | c :: t => if 128 ≤ c then (if n = 8 then (6, 0, 0) else takeFrom (n + 1) (v + (c - 128).toNat * 128 ^ n) t) else if c = 0 ∧ 0 < n then (6, 0, 0) else (0, v + c.toNat * 128 ^ n, n + 1)
end Go.Proofs.YtnajbkccaclkcaaGreat

namespace Go.Proofs.YtnajbkccaclkcaaGreat
open Go.RowKit

def bys (l : List Int) : List Value := l.map (Value.int .u8)
theorem bys_len (l : List Int) : (bys l).length = l.length := by simp [bys]
theorem bys_get (l : List Int) (k : Nat) (h : k < l.length) : (bys l)[k]? = some (.int .u8 l[k]) := by simp [bys, h]
theorem bys_app (l m : List Int) : bys (l ++ m) = bys l ++ bys m := by simp [bys]
theorem bys_one (l : List Int) : ∀ u ∈ bys l, u.oneCell' = true := by
  intro u hu
  simp only [bys, List.mem_map] at hu
  obtain ⟨d, _, rfl⟩ := hu
  rfl
def BytesAt (w : World) (A : Option Addr) (l : List Int) : Prop := ∀ k (h : k < l.length), ∃ ad, A = some ad ∧ w.cell? (ad.add k) = some (.int .u8 l[k])
structure WriterAt (w : World) (base g : Nat) (sv : Value) (l : List Int) (e : Int) : Prop where
  box : Box w g 39 #[sv, .int .i64 e]
  row : w.ownsRow base 5 1 sv l.length (bys l)
  base_le : base ≤ g
def OwnsW (b : Nat) (fv : Value) (k : Nat) : Prop := k = b ∨ fv.ownBlock = some k
def MovedW (w : World) (fv fv' : Value) : Prop := ∀ k, fv'.ownBlock = some k → fv.ownBlock = some k ∨ w.heap.size ≤ k

section
variable {w w' : World} {A : Option Addr} {l : List Int} {S : Nat → Prop} {base g : Nat} {sv : Value} {e : Int}
theorem BytesAt.kept (h : BytesAt w A l) (hk : Kept S w w') (hA : ∀ a, A = some a → ¬ S a.block) : BytesAt w' A l := fun k hlt => by
  obtain ⟨ad, he, h0⟩ := h k hlt
  have hb : (ad.add k).block = ad.block := by unfold Addr.add; split <;> rfl
  refine ⟨ad, he, ?_⟩
  rw [World.cell?_of_block (w := w) (hk.block _ (World.block_lt_of_cell? w _ h0) (by rw [hb]; exact hA ad he))]
  exact h0
theorem BytesAt.fresh (h : BytesAt w A l) (hk : Kept (fun _ => False) w w') : BytesAt w' A l := h.kept hk fun _ _ => id
theorem BytesAt.nil : BytesAt w A [] := fun k h => absurd h (by simp)
theorem BytesAt.of_own {n c : Nat} (h : w.ownsRow base 5 1 (.slice A n c) n (bys l)) : BytesAt w A l := fun k hlt => by
  have hz := h.1
  rw [bys_len] at hz
  rcases h.2 with ⟨_, h0⟩ | ⟨g, cap, cur, hv, _⟩
  · omega
  · injection hv with hA
    subst hA
    exact ⟨_, rfl, h.cells (g := g) rfl _ _ (bys_get l k hlt)⟩
theorem WriterAt.kept (h : WriterAt w base g sv l e) (hk : Kept S w w') (h1 : ∀ k, OwnsW g sv k → ¬ S k) : WriterAt w' base g sv l e :=
  ⟨h.box.kept hk (h1 g (.inl rfl)), hk.own h.row fun k e => h1 k (.inr e), h.base_le⟩
theorem WriterAt.fresh (h : WriterAt w base g sv l e) (hk : Kept (fun _ => False) w w') : WriterAt w' base g sv l e := h.kept hk fun _ _ => id
theorem WriterAt.own_lt (h : WriterAt w base g sv l e) : ∀ k, OwnsW g sv k → base ≤ k ∧ k < w.heap.size := by
  rintro k (rfl | hk)
  · exact ⟨h.base_le, h.box.lt⟩
  · exact h.row.lt k hk
theorem WriterAt.form (h : WriterAt w base g sv l e) : ∃ A c, sv = .slice A l.length c := by
  rcases Go.Joins.ownsRow_forms h.row with ⟨rfl, h0⟩ | ⟨g, cap, rfl⟩
  · exact ⟨none, 0, by rw [h0]⟩
  · exact ⟨_, _, rfl⟩
end
theorem info_byte : (Tryz.prog.info? 5).map (fun i => (i.zero, i.size, i.bytes)) = some (some (.int .u8 0), 1, 1) := by kernel_rfl

def WPost (w : World) (base g : Nat) (sv : Value) (l : List Int) (e : Int) (r : Ending) (w' : World) : Prop :=
  r = .returned (.tuple #[]) ∧ ∃ sv', WriterAt w' base g sv' l e ∧ Kept (OwnsW g sv) w w' ∧ MovedW w sv sv'
theorem WPost.same {w w' : World} {base g : Nat} {sv : Value} {l : List Int} {e : Int} {r : Ending} (hr : r = .returned (.tuple #[])) (h : WriterAt w' base g sv l e) (hk : Kept (OwnsW g sv) w w') : WPost w base g sv l e r w' :=
  ⟨hr, sv, h, hk, fun _ h => .inl h⟩
end Go.Proofs.YtnajbkccaclkcaaGreat

namespace Go.Proofs.YtnajbkccaclkcaaGreat
open Go.ChangeShapes Go.WideShapes Go.ChangeAt Go.RowKit Go.Deep

section
variable {H : Type} {enc : TypeId × Value → H} {w : World} {base : Nat} {spare : Nat → Bool} {held : Bool}
set_option maxRecDepth 100000 in
theorem open_dot {b0 : Nat} {r : Reach} {v : Value} {d : DataW H} {p : List MemPlace}
    (hv : Value.okWide Tryz.prog w r b0 59 v) (h : DataW.Trod enc Tryz.prog w base spare held 59 v d p) : ∃ x : Dt, v = .agg #[.int .i64 x.site, .int .i64 x.seq] := by
  obtain ⟨cs, rfl, hsz⟩ := okWide_struct Tryz.underlying59 hv
  obtain ⟨fuel, hf⟩ := h
  obtain ⟨x, hx⟩ := trod_dot hf
  refine ⟨x, ?_⟩
  have : cs.toList = (#[.int .i64 x.site, .int .i64 x.seq] : Array Value).toList := hx
  rw [Array.toList_inj.1 this]
set_option maxRecDepth 100000 in
theorem open_run {b0 : Nat} {r : Reach} {v : Value} {d : DataW H} {p : List MemPlace}
    (hv : Value.okWide Tryz.prog w r b0 68 v) (h : DataW.Trod enc Tryz.prog w base spare held 68 v d p) : ∃ x : Rn, v = .agg #[.int .i64 x.id.time, .int .i64 x.id.site, .int .i64 x.count] ∧ inI x.count := by
  obtain ⟨cs, rfl, hsz⟩ := okWide_struct Tryz.underlying68 hv
  obtain ⟨fuel, hf⟩ := h
  obtain ⟨x, hx, hi⟩ := trod_run hf
  refine ⟨x, ?_, hi⟩
  have : cs.toList = (#[.int .i64 x.id.time, .int .i64 x.id.site, .int .i64 x.count] : Array Value).toList := hx
  rw [Array.toList_inj.1 this]
set_option maxRecDepth 100000 in
theorem open_bytes {b0 : Nat} {r : Reach} {v : Value} {d : DataW H} {p : List MemPlace}
    (hv : Value.okWide Tryz.prog w r b0 37 v) (h : DataW.Trod enc Tryz.prog w base spare held 37 v d p) :
    ∃ (A : Option Addr) (c : Nat) (l : List Int), v = .slice A l.length c ∧ BytesAt w A l ∧ isByte l ∧ (l.length ≤ c ∧ c ≤ maxLen) ∧ (A = none → c = 0) := by
  obtain ⟨a0, len0, cap0, rfl⟩ := okWide_slice Tryz.underlying37 hv
  obtain ⟨fuel, hf⟩ := h
  rcases open_ints Tryz.underlying37 Tryz.underlying5 (by kernel_rfl) hf with ⟨hc, _⟩ | ⟨a, len, cap, zs, hc, hb, hl, hm, hz, hx, hi, hw⟩
  · simp only [Value.cells] at hc
    injection hc with hc _
    injection hc with e1 e2 e3
    subst e1 e2 e3
    exact ⟨none, 0, [], rfl, fun k h => absurd h (by simp), fun x (hx : x ∈ []) => absurd hx (by simp), by simp [maxLen], fun _ => rfl⟩
  · simp only [Value.cells] at hc
    injection hc with hc _
    injection hc with e1 e2 e3
    subst e1 e2 e3
    have hlz : len0 ≤ zs.length := by rw [hz]; split <;> omega
    have hll : (zs.take len0).length = len0 := by rw [List.length_take]; omega
    refine ⟨some a, cap0, zs.take len0, by rw [hll], fun k hk => ⟨a, rfl, ?_⟩, fun b hb => ?_, ⟨by omega, hm⟩, fun e => by cases e⟩
    · rw [hll] at hk
      rw [hi k (by omega)]
      simp [List.getD]
      rw [List.getElem?_eq_getElem (by omega)]
      rfl
    · have := hw b (List.mem_of_mem_take hb)
      simp [Lit.wf] at this
      have h1 : IntKind.u8.min = 0 := rfl
      have h2 : IntKind.u8.max = 255 := rfl
      rw [h1, h2] at this
      omega
end
end Go.Proofs.YtnajbkccaclkcaaGreat
