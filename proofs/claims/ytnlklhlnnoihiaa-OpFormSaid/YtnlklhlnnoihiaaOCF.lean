/- A guarded operation whose guard is met. No condition. · Encode and Decode in a form that laws use; bytes of one operation are no beginning of another's. Conditions: what is handed in lies in memory. · What is taken without an error was laid so: the converse of there and back. No program in sight but for the words. · The walk of OpForm: it is true. Conditions: the bytes lie in memory. · The row's last step for a law: it returns true, and below the old heap's end nothing has turned: so each argument reads as it did. No condition. · OpForm returns true for any bytes, number and bytes behind, and leaves what was there as it was. No condition. -/
import Derived.Test.YtnlklhlnnoihiaaMO39
import Derived.Test.YtnlklhlnnoihiaaRows
import Derived.Test.YtnlklhlnnoihiaaMO1
import Derived.ProofKit
import Derived.OpenShut
import Derived.Test.YtnlklhlnnoihiaaMO12
namespace Go.Proofs.Ytnlklhlnnoihiaa
open Go Go.RowKit

theorem wpList_unguard {P : Program} {ops : Array Oper} {Q : Exit → Act → World → Prop} {a : Act} {w : World} {rest : List Oper} {o : Oper} (hw : Region.wanted o (yielded ops a.tmps) = true) (h : wpList P ops Q ({ o with guard := none } :: rest) a w) : wpList P ops Q (o :: rest) a w := by
  unfold wpList at h ⊢
  rw [if_pos hw]
  rw [if_pos (by rfl)] at h
  exact h
end Go.Proofs.Ytnlklhlnnoihiaa

namespace Go.Proofs.Ytnlklhlnnoihiaa
open Go Go.RowKit

def encL (o : Opr) : List Int := if okOp o = true then encOp o else []
theorem encL_ok {o : Opr} (h : okOp o = true) : encL o = encOp o := if_pos h
theorem encL_no {o : Opr} (h : okOp o = false) : encL o = [] := if_neg (by rw [h]; decide)
theorem opE_ok {o : Opr} (h : okOp o = true) : opE o = 0 := if_pos h
theorem opE_no {o : Opr} (h : okOp o = false) : opE o = 10 := if_neg (by rw [h]; decide)
/-- Bytes in memory. -/
structure BsAt (w : World) (A : Option Addr) (l : List Int) : Prop where
  b : BytesAt w A l
  n : A = none → l = []
  lt : ∀ a, A = some a → a.block < w.heap.size
theorem BsAt.fresh {w w' : World} {A : Option Addr} {l : List Int} (h : BsAt w A l) (hk : Kept (fun _ => False) w w') : BsAt w' A l := ⟨h.b.fresh hk, h.n, fun a ha => Nat.lt_of_lt_of_le (h.lt a ha) hk.size⟩
theorem BsAt.of_own {w : World} {base c : Nat} {A : Option Addr} {l : List Int} (h : w.ownsRow base 5 1 (.slice A l.length c) l.length (bys l)) : BsAt w A l := by
  refine ⟨BytesAt.of_own h, fun e => ?_, fun a ha => ?_⟩
  · subst e
    rcases h.2 with ⟨_, h'⟩ | ⟨g, cap, cur, h', -⟩
    · exact List.eq_nil_of_length_eq_zero h'
    · injection h' with h'; cases h'
  · subst ha
    exact (h.lt a.block rfl).2
theorem BsAt.none (w : World) : BsAt w none [] := ⟨fun k hk => absurd hk (by simp), fun _ => rfl, fun a ha => by cases ha⟩
theorem encOp_byte (o : Opr) : isByte (encOp o) := by
  unfold encOp encT
  refine isByte_app (encs_byte _) (isByte_app (encs_byte _) ?_)
  split
  · exact isByte_app (encs_byte _) (isByte_app (enc_byte _) (tb_byte _))
  split
  · exact encs_byte _
  split
  · exact encs_byte _
  · intro b hb; cases hb
theorem encOp_pos (o : Opr) : 0 < (encOp o).length := by
  unfold encOp encs
  have := enc_pos o.kind.toNat
  simp only [List.flatMap_cons, List.length_append]
  omega
def EncS (w : World) (o : Opr) (r : Ending) (w' : World) : Prop := ∃ A c, r = .returned (.tuple #[.slice A (encL o).length c, .int .i64 (opE o)]) ∧ BsAt w' A (encL o) ∧ w'.ownsRow w.heap.size 5 1 (.slice A (encL o).length c) (encL o).length (bys (encL o)) ∧ Kept (fun _ => False) w w'
theorem EncS_any (x : Lop) (w : World) (hx : x.At w) (hs : x.o.Small) : Calls Try.prog 33 #[.agg x.c] w (EncS w x.o) := by
  refine (OpEncode_any x w hx hs).mono fun r w' h => ?_
  unfold EncPost at h
  cases hok : okOp x.o with
  | true =>
    rw [if_pos hok] at h
    obtain ⟨A, c, rfl, ho, hk⟩ := h
    unfold EncS
    rw [encL_ok hok, opE_ok hok]
    exact ⟨A, c, rfl, BsAt.of_own ho, ho, hk⟩
  | false =>
    rw [if_neg (by rw [hok]; decide)] at h
    obtain ⟨rfl, hk⟩ := h
    unfold EncS
    rw [encL_no hok, opE_no hok]
    exact ⟨none, 0, rfl, BsAt.none _, World.ownsRow_nil _ _ _ _, hk⟩
def DecS (w : World) (x : Int × Opr) (r : Ending) (w' : World) : Prop := ∃ (y : Lop) (gc : Nat), r = .returned (.tuple #[.agg y.c, .int .i64 x.1]) ∧ y.o = x.2 ∧ y.At w' ∧ y.gc = y.o.gone.length ∧ w'.ownsRow w.heap.size 23 2 y.dV y.o.deps.length (dots y.o.deps) ∧ w'.ownsRow w.heap.size 32 3 (.slice y.gA y.o.gone.length gc) y.o.gone.length (runs y.o.gone) ∧ Kept (fun _ => False) w w'
theorem DecS_any (A : Option Addr) (b : List Int) (c : Nat) (w : World) (hb : BsAt w A b) (hlen : b.length ≤ 100000000) (hby : isByte b) (hsm : (takeR ⟨b, 0⟩).1 = 0 → (takeR ⟨b, 0⟩).2.1.Small) :
    Calls Try.prog 20 #[.slice A b.length c] w (DecS w (decO b)) := by
  refine (OpDecode_any A b c w hb.b hb.n hlen hby hsm).mono fun r w' h => ?_
  obtain ⟨dA, dc, gA, gc, rfl, hd, hg, hk⟩ := h
  exact ⟨⟨(decO b).2, dA, dc, gA, (decO b).2.gone.length⟩, gc, rfl, rfl, ⟨DotsAt.of_own hd, RunsAt.of_own hg⟩, rfl, hd, hg, hk⟩
theorem DecS_enc (x : Opr) (A : Option Addr) (c : Nat) (w : World) (hb : BsAt w A (encL x)) (hok : okOp x = true) (hs : x.Small) : Calls Try.prog 20 #[.slice A (encL x).length c] w (DecS w (0, x)) := by
  have h := takeR_enc hok hs []
  rw [List.append_nil] at h
  rw [encL_ok hok] at hb ⊢
  have := DecS_any A (encOp x) c w hb (Nat.le_trans (encOp_len x hok hs) (by decide)) (encOp_byte x) (fun _ => by rw [h]; exact hs)
  rwa [decO_enc hok hs] at this
theorem enc_begins {x y : Opr} (hx : okOp x = true) (hy : okOp y = true) (sx : x.Small) (sy : y.Small) {t : List Int} (h : encOp y = encOp x ++ t) : x = y := by
  have h1 := takeR_enc hx sx t
  have h2 := takeR_enc hy sy []
  rw [List.append_nil, h, h1] at h2
  injection h2 with _ h2
  injection h2 with h2 _
theorem enc_take {x y : Opr} (hx : okOp x = true) (hy : okOp y = true) (sx : x.Small) (sy : y.Small) {n : Nat} (hn : n = min (encOp x).length (encOp y).length) (h : (encOp x).take n = (encOp y).take n) : x = y := by
  rcases Nat.le_total (encOp x).length (encOp y).length with hl | hl
  · rw [Nat.min_eq_left hl] at hn
    subst hn
    rw [List.take_length] at h
    exact enc_begins hx hy sx sy (t := (encOp y).drop (encOp x).length) (by conv => lhs; rw [← List.take_append_drop (encOp x).length (encOp y), ← h])
  · rw [Nat.min_eq_right hl] at hn
    subst hn
    rw [List.take_length] at h
    exact (enc_begins hy hx sy sx (t := (encOp x).drop (encOp y).length) (by conv => lhs; rw [← List.take_append_drop (encOp y).length (encOp x), h])).symm
end Go.Proofs.Ytnlklhlnnoihiaa

namespace Go.Proofs.Ytnlklhlnnoihiaa
open Go Go.RowKit

theorem take_bd (l : List Int) : ∀ (n acc v k : Nat), isByte l → n ≤ 8 → acc < 128 ^ n → takeFrom n acc l = (0, v, k) → v < 128 ^ 9 := by
  induction l with
  | nil => intro n acc v k _ _ _ h; rw [take_nil] at h; injection h with h; cases h
  | cons c t ih =>
    intro n acc v k hb hn ha h
    obtain ⟨hc0, hc1⟩ := hb c (by simp)
    have hbt : isByte t := fun x hx => hb x (by simp [hx])
    have hp : 128 ^ (n + 1) = 128 ^ n * 128 := Nat.pow_succ ..
    by_cases h1 : 128 ≤ c
    · by_cases h8 : n = 8
      · subst h8; rw [take_long h1] at h; injection h with h; cases h
      · rw [take_more' h1 h8] at h
        refine ih _ _ _ _ hbt (by omega) ?_ h
        have hle : (c - 128).toNat * 128 ^ n ≤ 127 * 128 ^ n := Nat.mul_le_mul_right _ (by omega)
        omega
    · by_cases h0 : c = 0 ∧ 0 < n
      · obtain ⟨rfl, hn⟩ := h0
        rw [take_zero hn] at h; injection h with h; cases h
      · rw [take_end h1 h0] at h
        injection h with _ h
        injection h with hv hk
        subst hv
        have hle : c.toNat * 128 ^ n ≤ 127 * 128 ^ n := Nat.mul_le_mul_right _ (by omega)
        have hm : 128 ^ (n + 1) ≤ 128 ^ 9 := Nat.pow_le_pow_right (by decide) (by omega)
        omega
theorem Rd.nx_ok {s : Rd} (h : s.nx.e = 0) : s.e = 0 := by
  by_cases he : s.e = 0
  · exact he
  · rw [(Rd.stop he).2] at h; exact absurd h he
theorem Rd.nt_ok {s : Rd} (h : s.nt.e = 0) : s.e = 0 := by
  by_cases he : s.e = 0
  · exact he
  · rw [Rd.stopT he] at h; exact absurd h he
theorem Rd.val_bd (s : Rd) (hb : isByte s.l) (hn : s.nx.e = 0) : s.val ≤ 9223372036854775807 := by
  have he := Rd.nx_ok hn
  obtain ⟨l, e⟩ := s
  simp only at hb he
  subst he
  rcases ht : takeFrom 0 0 l with ⟨er, v, k⟩
  have h1 : (⟨l, 0⟩ : Rd).val = v := by simp [Rd.val, ht]
  have h2 : (⟨l, 0⟩ : Rd).nx = ⟨l.drop k, er⟩ := by simp [Rd.nx, ht]
  rw [h2] at hn
  simp only at hn
  subst hn
  have := take_bd l 0 0 v k hb (by decide) (by decide) ht
  rw [h1]
  have e : (128 : Nat) ^ 9 = 9223372036854775808 := by decide
  omega
theorem Rd.step {s : Rd} (hb : isByte s.l) (hn : s.nx.e = 0) : s.l = enc s.val ++ s.nx.l ∧ isByte s.nx.l ∧ s.val ≤ 9223372036854775807 :=
  ⟨(Rd.inv hb (Rd.nx_ok hn) hn).1, (Rd.inv hb (Rd.nx_ok hn) hn).2, Rd.val_bd s hb hn⟩
theorem tb_strOf {xs : List Int} (h : isByte xs) : tb (strOfNums xs) = xs := by
  unfold tb
  rw [strOfNums_data, List.map_map]
  conv => rhs; rw [← List.map_id xs]
  apply List.map_congr_left
  intro x hx
  obtain ⟨h0, h1⟩ := h x hx
  have : (UInt8.ofNat x.toNat).toNat = x.toNat := by
    rw [UInt8.toNat_ofNat']
    omega
  show ((UInt8.ofNat x.toNat).toNat : Int) = x
  rw [this]
  omega
theorem Rd.inv_text {s : Rd} (hb : isByte s.l) (hn : s.nt.e = 0) : s.l = enc s.txt.size ++ tb s.txt ++ s.nt.l ∧ isByte s.nt.l ∧ s.txt.size ≤ s.l.length := by
  have he := Rd.nt_ok hn
  unfold Rd.nt at hn ⊢
  rw [if_neg (fun e => e he)] at hn ⊢
  by_cases h1 : s.nx.e = 0
  · rw [if_neg (fun e => e h1)] at hn ⊢
    obtain ⟨i1, i2, -⟩ := Rd.step hb h1
    by_cases h2 : s.val ≤ s.nx.l.length
    · rw [if_pos h2] at hn ⊢
      have ht : s.txt = strOfNums (s.nx.l.take s.val) := by unfold Rd.txt; rw [if_pos ⟨he, h1, h2⟩]
      have hbt : isByte (s.nx.l.take s.val) := fun b hb => i2 b (List.mem_of_mem_take hb)
      have hs : s.txt.size = s.val := by rw [ht, strOfNums_size, List.length_take]; omega
      refine ⟨?_, fun b hb => i2 b (List.mem_of_mem_drop hb), ?_⟩
      · rw [hs, ht, tb_strOf hbt, List.append_assoc, List.take_append_drop]
        exact i1
      · rw [hs, i1, List.length_append]
        omega
    · rw [if_neg h2] at hn; cases hn
  · rw [if_pos h1] at hn
    exact absurd hn h1
theorem takeRuns_inv : ∀ (k : Nat) (acc : List Rn) (s : Rd), isByte s.l → (takeRuns k acc s).2.e = 0 → ∃ U, (takeRuns k acc s).1 = acc ++ U ∧ U.length = k ∧ s.l = encs (goneNums U) ++ (takeRuns k acc s).2.l ∧ isByte (takeRuns k acc s).2.l ∧ ∀ r ∈ U, inI r.count
  | 0, acc, s, hb, _ => ⟨[], by simp [takeRuns], rfl, by simp [takeRuns, goneNums, encs], hb, fun r hr => absurd hr (by simp)⟩
  | k + 1, acc, s, hb, h => by
    unfold takeRuns at h ⊢
    by_cases h3 : s.nx.nx.nx.e = 0
    · rw [if_neg (fun e => e h3)] at h ⊢
      have h2 := Rd.nx_ok h3
      have h1 := Rd.nx_ok h2
      obtain ⟨i1, b1, v1⟩ := Rd.step hb h1
      obtain ⟨i2, b2, v2⟩ := Rd.step b1 h2
      obtain ⟨i3, b3, v3⟩ := Rd.step b2 h3
      obtain ⟨U, e1, e2, e3, e4, e5⟩ := takeRuns_inv k _ _ b3 h
      refine ⟨⟨⟨s.val, s.nx.val⟩, s.nx.nx.val⟩ :: U, ?_, by simp [e2], ?_, e4, fun r hr => ?_⟩
      · rw [e1]; simp
      · rw [i1, i2, i3, e3]
        simp [goneNums, encs]
      · rcases List.mem_cons.1 hr with rfl | hr
        · unfold inI
          simp only
          omega
        · exact e5 r hr
    · rw [if_pos h3] at h
      exact absurd h h3
theorem intoV_inv {o o' : Opr} {s s' : Rd} (hb : isByte s.l) (hs : s.e = 0) (_hk : 1 ≤ o.kind ∧ o.kind ≤ 4) (hg : o.gone = []) (ht : o.text.size = 0) (h : intoV o s = (0, o', s')) (hl : s.l.length ≤ 1000000) :
    s.l = encT o' ++ s'.l ∧ isByte s'.l ∧ s'.e = 0 ∧ o'.kind = o.kind ∧ o'.dot = o.dot ∧ o'.deps = o.deps ∧ (∀ r ∈ o'.gone, inI r.count) ∧ o'.gone.length ≤ 1024 ∧ o'.text.size ≤ 1000000 := by
  unfold intoV at h
  by_cases k1 : o.kind = 1
  · rw [if_pos k1] at h
    injection h with h0 h
    injection h with ho hs'
    subst ho hs'
    have h4 := Rd.nt_ok h0
    have h3 := Rd.nx_ok h4
    have h2 := Rd.nx_ok h3
    obtain ⟨i1, b1, v1⟩ := Rd.step hb h2
    obtain ⟨i2, b2, v2⟩ := Rd.step b1 h3
    obtain ⟨i3, b3, v3⟩ := Rd.step b2 h4
    obtain ⟨i4, b4, v4⟩ := Rd.inv_text b3 h0
    refine ⟨?_, b4, h0, rfl, rfl, rfl, by rw [hg]; simp, by rw [hg]; simp, ?_⟩
    · unfold encT
      rw [if_pos k1]
      simp only [Int.toNat_natCast]
      conv => lhs; rw [i1, i2, i3, i4]
      simp [encs]
    · have : s.nx.nx.nx.l.length ≤ s.l.length := by
        rw [i1, i2, i3]
        simp only [List.length_append]
        omega
      show s.nx.nx.nx.txt.size ≤ _
      omega
  rw [if_neg k1] at h
  by_cases k2 : o.kind = 2
  · rw [if_pos k2] at h
    injection h with h0 h
    injection h with ho hs'
    subst ho hs'
    unfold intoR at h0 ⊢
    by_cases h1 : s.nx.e = 0
    · rw [if_neg (fun e => e h1)] at h0 ⊢
      by_cases h2 : 1024 < s.val
      · rw [if_pos h2] at h0; cases h0
      · rw [if_neg h2] at h0 ⊢
        obtain ⟨i1, b1, v1⟩ := Rd.step hb h1
        obtain ⟨U, e1, e2, e3, e4, e5⟩ := takeRuns_inv _ _ _ b1 h0
        simp only [List.nil_append] at e1
        simp only [e1]
        refine ⟨?_, e4, h0, trivial, trivial, trivial, e5, by omega, by omega⟩
        unfold encT
        simp only [if_neg k1, if_pos k2]
        rw [e2]
        conv => lhs; rw [i1, e3]
        simp [encs]
    · rw [if_pos h1] at h0
      exact absurd h0 h1
  rw [if_neg k2] at h
  by_cases k3 : o.kind = 3
  · rw [if_pos k3] at h
    injection h with h0 h
    injection h with ho hs'
    subst ho hs'
    obtain ⟨i1, b1, v1⟩ := Rd.step hb h0
    refine ⟨?_, b1, h0, rfl, rfl, rfl, by rw [hg]; simp, by rw [hg]; simp, by show o.text.size ≤ _; omega⟩
    unfold encT
    simp only [if_neg k1, if_neg k2, if_pos k3, Int.toNat_natCast, encs_one]
    exact i1
  · rw [if_neg k3] at h
    injection h with h0 h
    injection h with ho hs'
    subst ho hs'
    refine ⟨?_, hb, hs, rfl, rfl, rfl, by rw [hg]; simp, by rw [hg]; simp, by omega⟩
    unfold encT
    rw [if_neg k1, if_neg k2, if_neg k3]
    rfl
theorem takeR_inv {b : List Int} {o : Opr} {s : Rd} (hb : isByte b) (hl : b.length ≤ 1000000) (h : takeR ⟨b, 0⟩ = (0, o, s)) : b = encOp o ++ s.l ∧ isByte s.l ∧ s.e = 0 ∧ o.Small := by
  unfold takeR at h
  by_cases h1 : (⟨b, 0⟩ : Rd).nx.e = 0
  · rw [if_neg (fun e => e h1)] at h
    by_cases h2 : (⟨b, 0⟩ : Rd).val < 1 ∨ 4 < (⟨b, 0⟩ : Rd).val
    · rw [if_pos h2] at h; injection h with h; cases h
    rw [if_neg h2] at h
    by_cases h3 : (⟨b, 0⟩ : Rd).nx.nx.nx.e = 0
    · rw [if_neg (fun e => e h3)] at h
      have h4 := Rd.nx_ok h3
      obtain ⟨i1, b1, v1⟩ := Rd.step (s := ⟨b, 0⟩) hb h1
      obtain ⟨i2, b2, v2⟩ := Rd.step b1 h4
      obtain ⟨i3, b3, v3⟩ := Rd.step b2 h3
      generalize hs3 : (⟨b, 0⟩ : Rd).nx.nx.nx = s3 at *
      obtain ⟨l3, e3⟩ := s3
      simp only at h3 b3 i3
      subst h3
      by_cases h5 : (takeV ⟨l3, 0⟩).1 = 0
      · rw [if_neg (fun e => e h5)] at h
        rcases hv : takeV ⟨l3, 0⟩ with ⟨er, V, s4⟩
        rw [hv] at h h5
        simp only at h h5
        subst h5
        obtain ⟨j1, j2, j3, j4⟩ := takeV_inv b3 hv
        have hb4 : isByte s4.l := fun x hx => b3 x (by rw [j1]; exact List.mem_append_right _ hx)
        have hl3 : l3.length ≤ b.length := by
          have e0 : b = (⟨b, 0⟩ : Rd).l := rfl
          rw [e0, i1, i2, i3]
          simp only [List.length_append]
          omega
        have hl4 : s4.l.length ≤ 1000000 := by
          have : s4.l.length ≤ l3.length := by rw [j1, List.length_append]; omega
          omega
        obtain ⟨k1, k2, k3, k4, k5, k6, k7, k8, k9⟩ := intoV_inv hb4 j2 (by simp only; omega) rfl rfl h hl4
        refine ⟨?_, k2, k3, ⟨k7, by rw [k6]; exact Nat.le_trans j4 (by decide), by omega, k9⟩⟩
        unfold encOp
        rw [k4, k5, k6]
        simp only [Int.toNat_natCast]
        have e0 : b = (⟨b, 0⟩ : Rd).l := rfl
        conv => lhs; rw [e0, i1, i2, i3, j1, k1]
        simp [encs]
      · rw [if_pos h5] at h
        injection h with h
        exact absurd h h5
    · rw [if_pos h3] at h
      injection h with h
      exact absurd h h3
  · rw [if_pos h1] at h
    injection h with h
    exact absurd h h1
theorem takeR_small {b : List Int} (hb : isByte b) (hl : b.length ≤ 1000000) (h : (takeR ⟨b, 0⟩).1 = 0) : (takeR ⟨b, 0⟩).2.1.Small := by
  rcases hr : takeR ⟨b, 0⟩ with ⟨er, o, s⟩
  rw [hr] at h
  simp only at h
  subst h
  exact (takeR_inv hb hl hr).2.2.2
theorem decO_inv {b : List Int} {o : Opr} (hb : isByte b) (hl : b.length ≤ 1000000) (h : decO b = (0, o)) : b = encOp o ∧ okOp o = true ∧ o.Small := by
  unfold decO takeO at h
  rcases hr : takeR ⟨b, 0⟩ with ⟨er, o', s⟩
  rw [hr] at h
  simp only at h
  by_cases he : er = 0
  · subst he
    simp only [ne_eq, not_true_eq_false, if_false] at h
    by_cases hok : okOp o' = true
    · simp only [if_pos hok, not_true_eq_false, if_false] at h
      obtain ⟨h1, h2, h3, h4⟩ := takeR_inv hb hl hr
      by_cases hz : 0 < s.l.length
      · rw [if_pos hz] at h; injection h with h; cases h
      · rw [if_neg hz] at h
        injection h with _ h
        subst h
        have : s.l = [] := List.eq_nil_of_length_eq_zero (by omega)
        rw [this, List.append_nil] at h1
        exact ⟨h1, hok, h4⟩
    · simp only [if_neg hok] at h
      rw [if_pos (by decide)] at h
      injection h with h
      cases h
  · simp only [if_pos he] at h
    injection h with h
    exact absurd h he
end Go.Proofs.Ytnlklhlnnoihiaa

namespace Go.Proofs.Ytnlklhlnnoihiaa
open Go Go.RowKit

theorem decO_err {b : List Int} (h : (decO b).1 ≠ 0) : (decO b).2 = zeroO := by
  unfold decO at h ⊢
  split
  · rfl
  · rename_i h1
    rw [if_neg h1] at h
    split
    · rfl
    · rename_i h2
      rw [if_neg h2] at h
      exact absurd rfl h
theorem decO_more {o : Opr} (hok : okOp o = true) (hs : o.Small) {t : List Int} : (decO (encOp o ++ t)).1 = 0 ↔ t = [] := by
  unfold decO
  rw [takeO_enc hok hs t]
  simp only [ne_eq, not_true_eq_false, if_false]
  split
  · rename_i h
    constructor
    · intro e; simp at e
    · intro e; rw [e] at h; simp at h
  · rename_i h
    exact ⟨fun _ => List.eq_nil_of_length_eq_zero (by omega), fun _ => rfl⟩
theorem decO_cut {b : List Int} (hb : isByte b) (hl : b.length ≤ 1000000) {o : Opr} (h : decO b = (0, o)) {k : Nat} (hk : k < b.length) : (decO (b.take k)).1 ≠ 0 := by
  intro e
  obtain ⟨h1, h2, h3⟩ := decO_inv hb hl h
  rcases hd : decO (b.take k) with ⟨e', o'⟩
  rw [hd] at e
  simp only at e
  subst e
  obtain ⟨g1, g2, g3⟩ := decO_inv (fun x hx => hb x (List.mem_of_mem_take hx)) (by rw [List.length_take]; omega) hd
  have := enc_begins g2 h2 g3 h3 (t := b.drop k) (by rw [← g1, ← h1, List.take_append_drop])
  subst this
  rw [← h1] at g1
  have := congrArg List.length g1
  rw [List.length_take] at this
  omega
theorem DecB_any (A : Option Addr) (b : List Int) (c : Nat) (w : World) (hb : BytesAt w A b) (hlen : b.length ≤ 1000000) (hby : isByte b) : Calls Try.prog 20 #[.slice A b.length c] w (DecS w (decO b)) := by
  refine (OpDecode_any A b c w hb (fun e => ?_) (by omega) hby (fun h => takeR_small hby hlen h)).mono fun r w' h => ?_
  · subst e
    rcases Nat.eq_zero_or_pos b.length with h0 | h0
    · exact List.eq_nil_of_length_eq_zero h0
    · obtain ⟨ad, e, _⟩ := hb 0 h0
      cases e
  · obtain ⟨dA, dc, gA, gc, rfl, hd, hg, hk⟩ := h
    exact ⟨⟨(decO b).2, dA, dc, gA, (decO b).2.gone.length⟩, gc, rfl, rfl, ⟨DotsAt.of_own hd, RunsAt.of_own hg⟩, rfl, hd, hg, hk⟩
theorem own_emptyB (w : World) : (w.alloc (.cells #[] 5)).ownsRow w.heap.size 5 1 (.slice (some ⟨w.heap.size, 0, none⟩) 0 0) 0 [] := ⟨rfl, .inr ⟨w.heap.size, 0, #[], rfl, Nat.le_refl _, heap_alloc_new w _, Nat.le_refl _, by decide, rfl, rfl⟩⟩
theorem BytesAt.srcs {w : World} {A : Option Addr} {l : List Int} (h : BytesAt w A l) : ∀ j u, (bys l)[j]? = some u → ∃ ad, A = some ad ∧ w.cell? (ad.add j) = some u := fun j u hj => by
  have hl : j < l.length := by
    have := (List.getElem?_eq_some_iff.1 hj).1
    rwa [bys_len] at this
  obtain ⟨ad, rfl, hc⟩ := h j hl
  refine ⟨ad, rfl, ?_⟩
  rw [hc, ← bys_get l j hl, hj]
theorem BytesAt.nilness {w : World} {A : Option Addr} {l : List Int} {c : Nat} (h : BytesAt w A l) (hc : A = none → c = 0) : A = none → l.length = 0 ∧ c = 0 := by
  rintro rfl
  refine ⟨?_, hc rfl⟩
  rcases Nat.eq_zero_or_pos l.length with h0 | h0
  · exact h0
  · obtain ⟨ad, e, _⟩ := h 0 h0
    cases e
def zeroL : Lop := ⟨zeroO, none, 0, none, 0⟩
theorem zeroL_at (w : World) : zeroL.At w := ⟨DotsAt.nil, RunsAt.nil⟩
theorem bys_join (l m : List Int) : bys l ++ bys m = bys (l ++ m) := by simp [bys]
set_option maxRecDepth 100000 in
set_option maxHeartbeats 3200000 in
theorem Form_walk (A : Option Addr) (b : List Int) (c : Nat) (cut : Int) (B : Option Addr) (m : List Int) (d : Nat) (w : World) (hb : BytesAt w A b) (hm : BytesAt w B m) (hby : isByte b) (hmy : isByte m) (hbc : b.length ≤ c) (hbn : A = none → c = 0) (hmn : B = none → d = 0) :
    Calls Try.prog 7 #[.slice A b.length c, .int .i64 cut, .slice B m.length d] w (KnownPost w) := by
  have HB := Lib.hid hb
  have HM := Lib.hid hm
  have HBY := Lib.hid hby
  have HMY := Lib.hid hmy
  have HBN := Lib.hid hbn
  have HMN := Lib.hid hmn
  have HK0 := Lib.hid (Kept.refl (fun _ => False) w)
  clear hb hm hby hmy hbn hmn
  by_cases h1 : 60000 < b.length
  · have h1' : (60000 : Int) < (b.length : Int) := by omega
    go_enter Try.func7, Try.ntmps7
    go_wp2_with (fail)
    refine (Known8_any w).mono ?_
    rintro r k1 ⟨rfl, hk⟩
    have HK1 := Lib.hid (HK0.out.trans hk fun _ _ e => e)
    clear hk
    go_wp2_with (fail)
    go_ret
    exact ⟨rfl, HK1.out⟩
  have h1' : ¬ (60000 : Int) < (b.length : Int) := by omega
  by_cases h2 : 60000 < m.length
  · have h2' : (60000 : Int) < (m.length : Int) := by omega
    go_enter Try.func7, Try.ntmps7
    go_wp2_with (fail)
    refine (Known8_any w).mono ?_
    rintro r k1 ⟨rfl, hk⟩
    have HK1 := Lib.hid (HK0.out.trans hk fun _ _ e => e)
    clear hk
    go_wp2_with (fail)
    go_ret
    exact ⟨rfl, HK1.out⟩
  have h2' : ¬ (60000 : Int) < (m.length : Int) := by omega
  obtain ⟨er, o, hdec⟩ : ∃ er o, decO b = (er, o) := ⟨_, _, rfl⟩
  have HDC := Lib.hid hdec
  have HD1 := Lib.hid (fun W (h : BytesAt W A b) => DecB_any A b c W h (by omega) HBY.out)
  rw [hdec] at HD1
  clear hdec
  go_enter Try.func7, Try.ntmps7
  go_wp2_with (fail)
  refine (HD1.out w HB.out).mono ?_
  rintro r w1 ⟨z, gc, rfl, hzo, hz, -, -, -, hk⟩
  have HK1 := Lib.hid hk
  have HB1 := Lib.hid (HB.out.fresh hk)
  have HM1 := Lib.hid (HM.out.fresh hk)
  have HZO := Lib.hid hzo
  have HZL := Lib.hid hz
  have HSZ := Lib.hid (show z.c.size = 11 from rfl)
  have HON := Lib.hid (show z.c.all (·.oneCell') = true from Opr.cells_one _ _ _ _ _)
  obtain ⟨zs, hzs⟩ : ∃ zs, z.c = zs := ⟨_, rfl⟩
  have HZS := Lib.hid hzs
  rw [hzs] at HSZ HON ⊢
  clear hk hzo hz hzs HD1 HB HM HK0
  have hka : Kept (fun _ => False) w1 (w1.alloc (.cells zeroC 30)) := (Kept.refl _ _).alloc _
  have HBX := Lib.hid (Box.new w1 30 zeroC)
  go_wp2_with (refine wpList_store_box rfl 30 _ _ rfl w1.heap.size zs rfl rfl 30 zeroC HBX.out (by rw [HSZ.out]; exact size_op) HSZ.out.symm HON.out ?_; intro w2 HX2 hk2; refine Hid.out ?_)
  refine Lib.hid ?_
  have hk12 : Kept (fun _ => False) w1 w2 := hka.trans hk2 fun k hk e => by omega
  have HK2 := Lib.hid (HK1.out.trans hk12 fun _ _ e => e)
  have HB2 := Lib.hid (HB1.out.fresh hk12)
  have HM2 := Lib.hid (HM1.out.fresh hk12)
  have HL2 := Lib.hid (HZL.out.fresh hk12)
  obtain ⟨N, hN⟩ : ∃ N, w1.heap.size = N := ⟨_, rfl⟩
  rw [hN] at HX2 ⊢
  clear hka hk2 hk12 HBX HK1 HB1 HM1 HZL hN
  by_cases her : er = 0
  · subst her
    have HIV := Lib.hid (decO_inv HBY.out (by omega) HDC.out)
    have HZS1 := Lib.hid (show z.o.Small by rw [HZO.out]; exact HIV.out.2.2)
    have HZK := Lib.hid (show okOp z.o = true by rw [HZO.out]; exact HIV.out.2.1)
    have HZB := Lib.hid (show encL z.o = b by rw [encL_ok HZK.out, HZO.out]; exact HIV.out.1.symm)
    have hpos : 0 < b.length := by rw [HIV.out.1]; exact encOp_pos _
    obtain ⟨ad, hA, -⟩ := HB2.out 0 hpos
    subst hA
    have HE := Lib.hid (fun W h => EncS_any z W h HZS1.out)
    have HC := Lib.hid (fun W h => show Calls Try.prog _ #[.agg z.c] W (IntPost W 0) by have := Check_lop z W h HZS1.out; rwa [opE_ok HZK.out] at this)
    rw [HZS.out] at HE HC
    unfold EncS at HE
    rw [HZB.out, opE_ok HZK.out] at HE
    go_wp2_with (refine wpList_load_op rfl _ rfl N rfl _ zs HSZ.out HX2.out ?_)
    refine (HE.out w2 HL2.out).mono ?_
    rintro r w3 ⟨E, e, rfl, hbe, -, hk⟩
    have HBE := Lib.hid (hbe.b)
    have HK3 := Lib.hid (HK2.out.trans hk fun _ _ e => e)
    have HB3 := Lib.hid (HB2.out.fresh hk)
    have HM3 := Lib.hid (HM2.out.fresh hk)
    have HL3 := Lib.hid (HL2.out.fresh hk)
    have HX3 := Lib.hid (HX2.out.kept hk id)
    clear hbe hk HE HK2 HB2 HM2 HL2 HX2
    go_wp2_with (fail)
    refine (Bytes8_any (some ad) E b b c e w3 HB3.out HBE.out (by omega)).mono ?_
    rw [decide_eq_true rfl]
    unfold SamePost
    rintro r w4 ⟨rfl, hk⟩
    have HK4 := Lib.hid (HK3.out.trans hk fun _ _ e => e)
    have HB4 := Lib.hid (HB3.out.fresh hk)
    have HM4 := Lib.hid (HM3.out.fresh hk)
    have HL4 := Lib.hid (HL3.out.fresh hk)
    have HX4 := Lib.hid (HX3.out.kept hk id)
    clear hk HBE HK3 HB3 HM3 HL3 HX3
    go_wp2_with (refine wpList_unguard rfl ?_; refine wpList_load_op rfl _ rfl N rfl _ zs HSZ.out HX4.out ?_)
    refine (HC.out w4 HL4.out).mono ?_
    unfold IntPost
    rintro r w5 ⟨rfl, hk⟩
    have HK5 := Lib.hid (HK4.out.trans hk fun _ _ e => e)
    have HB5 := Lib.hid (HB4.out.fresh hk)
    have HM5 := Lib.hid (HM4.out.fresh hk)
    clear hk HC HK4 HB4 HM4 HL4 HX4
    have hne : ¬ b = [] := fun e => by rw [e] at hpos; simp at hpos
    have hr1 := Int.tmod_lt_of_pos cut (show (0 : Int) < (b.length : Int) by omega)
    have hr2 := Int.lt_tmod_of_pos cut (show (0 : Int) < (b.length : Int) by omega)
    obtain ⟨rm, hrm⟩ : ∃ rm, cut.tmod (b.length : Int) = rm := ⟨_, rfl⟩
    rw [hrm] at hr1 hr2
    go_upto_if 60 with (fail)
    clear hrm
    go_cut [1] (fun v wx => (∃ k : Nat, v = .int .i64 k ∧ k < b.length) ∧ w5 = wx)
    case first =>
      by_cases hneg : rm < 0
      · obtain ⟨j, hj⟩ : ∃ j : Nat, rm + (b.length : Int) = j := ⟨(rm + b.length).toNat, by omega⟩
        have hw : IntKind.i64.wrap (rm + (b.length : Int)) = (j : Int) := by rw [hj]; exact IntWalk.i64_in _ ⟨by omega, by omega⟩
        go_wp2
        go_meet
        case rel => exact ⟨⟨j, rfl, by omega⟩, rfl⟩
      · obtain ⟨j, rfl⟩ : ∃ j : Nat, rm = j := ⟨rm.toNat, by omega⟩
        go_wp2
        go_meet
        case rel => exact ⟨⟨j, rfl, by omega⟩, rfl⟩
    case rest =>
    obtain ⟨⟨k, rfl, hkl⟩, rfl⟩ := hcut
    clear hr1 hr2
    have HTK := Lib.hid (show BytesAt w5 (some ad) (b.take k) from fun j hj => by rw [List.length_take] at hj; rw [List.getElem_take]; exact HB5.out j (by omega))
    have HTN := Lib.hid (decO_cut HBY.out (by omega) HDC.out hkl)
    have HD2 := Lib.hid (DecB_any (some ad) (b.take k) c w5 HTK.out (by rw [List.length_take]; omega) fun x hx => HBY.out x (List.mem_of_mem_take hx))
    rw [show (b.take k).length = k by rw [List.length_take]; omega] at HD2
    obtain ⟨e2, o2, hd2⟩ : ∃ e2 o2, decO (b.take k) = (e2, o2) := ⟨_, _, rfl⟩
    rw [hd2] at HD2 HTN
    have he2 : ¬ e2 = 0 := HTN.out
    have hkc : k ≤ c := by omega
    clear HTK HTN hd2
    go_wp2_with (fail)
    refine HD2.out.mono ?_
    rintro r w6 ⟨z2, gc2, rfl, -, -, -, -, -, hk⟩
    have HK6 := Lib.hid (HK5.out.trans hk fun _ _ e => e)
    have HB6 := Lib.hid (HB5.out.fresh hk)
    have HM6 := Lib.hid (HM5.out.fresh hk)
    generalize z2.c = zs2
    have hke : Kept (fun _ => False) w6 (w6.alloc (.cells #[] 5)) := (Kept.refl _ _).alloc _
    have HEM := Lib.hid (own_emptyB w6)
    have HBE := Lib.hid (HB6.out.fresh hke)
    clear hk HD2 HK5 HB5 HM5
    go_wp2_with (at_builtin; refine wpList_append_kit eltBytes rfl _ _ rfl w6.heap.size _ 0 [] rfl HEM.out (some ad) b.length c (bys b) rfl (fun e => by cases e) (by rw [bys_len]; omega) HBE.out.srcs (bys_one b) (by omega) (by simp) ?_)
    intro A1 c1 w7 HO7 HK7 _
    have hk7 : Kept (fun _ => False) w6 w7 := hke.trans HK7.out fun k hk e => absurd (show w6.heap.size = k by simpa [Value.ownBlock] using e) (by omega)
    have hs7 := hk7.size
    have HM7 := Lib.hid (HM6.out.fresh hk7)
    have HNM := Lib.hid (HM7.out.nilness HMN.out)
    go_wp2_with (at_builtin; refine wpList_append_kit eltBytes rfl _ _ rfl w6.heap.size _ b.length (bys b) rfl HO7.out B m.length d (bys m) rfl HNM.out (by rw [bys_len]; omega) HM7.out.srcs (bys_one m) (by omega) hs7 ?_)
    intro A2 c2 w8 HO8 HK8 _
    have hk8 : Kept (fun _ => False) w6 w8 := hk7.trans HK8.out fun k hk e => by have := (HO7.out.lt k e).1; omega
    have HK9 := Lib.hid (HK6.out.trans hk8 fun _ _ e => e)
    have HO9 := Lib.hid (show w8.ownsRow w6.heap.size 5 1 (.slice A2 (b ++ m).length c2) (b ++ m).length (bys (b ++ m)) by rw [← bys_join, List.length_append]; exact HO8.out)
    have HD3 := Lib.hid (DecB_any A2 (b ++ m) c2 w8 (BytesAt.of_own HO9.out) (by rw [List.length_append]; omega) (isByte_app HBY.out HMY.out))
    have HE3 := Lib.hid (show (decO (b ++ m)).1 = 0 ↔ m = [] by have := decO_more (t := m) HIV.out.2.1 HIV.out.2.2; rwa [← HIV.out.1] at this)
    obtain ⟨e3, o3, hd3⟩ : ∃ e3 o3, decO (b ++ m) = (e3, o3) := ⟨_, _, rfl⟩
    rw [hd3] at HD3 HE3
    rw [List.length_append] at HD3
    have he3 : e3 = 0 ↔ m = [] := HE3.out
    clear hd3 HE3 hk7 hk8 hke HO7 HO8 HK7 HK8 HM7 HNM HEM HBE HB6 HM6 HK6
    go_wp2_with (fail)
    refine HD3.out.mono ?_
    rintro r w9 ⟨z3, gc3, rfl, -, -, -, -, -, hk⟩
    have HK10 := Lib.hid (HK9.out.trans hk fun _ _ e => e)
    generalize z3.c = zs3
    clear hk HD3 HK9
    by_cases hmm : m = []
    · obtain rfl := he3.2 hmm
      subst hmm
      clear he3
      go_wp2_with (fail)
      refine (Known8_any w9).mono ?_
      rintro r k2 ⟨rfl, hk⟩
      have HK11 := Lib.hid (HK10.out.trans hk fun _ _ e => e)
      clear hk
      go_wp2_with (fail)
      go_ret
      exact ⟨rfl, HK11.out⟩
    · have he4 : ¬ e3 = 0 := fun e => hmm (he3.1 e)
      have hml : 0 < m.length := List.length_pos_iff.2 hmm
      have hb1 : ((m.length : Int) == 0) = false := by simpa using hmm
      have hb2 : (e3 == 0) = false := by simpa using he4
      clear he3
      go_wp2_with (fail)
      refine (Known8_any w9).mono ?_
      rintro r k2 ⟨rfl, hk⟩
      have HK11 := Lib.hid (HK10.out.trans hk fun _ _ e => e)
      clear hk
      go_wp2_with (fail)
      go_ret
      exact ⟨rfl, HK11.out⟩
  · have HZZ := Lib.hid (show z.o = zeroO by rw [HZO.out]; have h := decO_err (b := b) (by rw [HDC.out]; exact her); rwa [HDC.out] at h)
    have hcall0 := fun W h => Same8_any z zeroL W h (zeroL_at W) (by rw [HZZ.out]; decide) (by rw [HZZ.out]; decide)
    rw [HZS.out] at hcall0
    have HSM := Lib.hid hcall0
    clear hcall0
    go_wp2_with (refine wpList_load_op rfl _ rfl N rfl _ zs HSZ.out HX2.out ?_)
    refine (HSM.out w2 HL2.out).mono ?_
    rintro r w3 ⟨bb, rfl, hbb, hk⟩
    obtain rfl : bb = true := hbb.2 HZZ.out
    have HK3 := Lib.hid (HK2.out.trans hk fun _ _ e => e)
    clear hk hbb HSM
    go_wp2_with (fail)
    refine (Known8_any w3).mono ?_
    rintro r k3 ⟨rfl, hk⟩
    have HK4 := Lib.hid (HK3.out.trans hk fun _ _ e => e)
    clear hk
    go_wp2_with (fail)
    go_ret
    exact ⟨rfl, HK4.out⟩
end Go.Proofs.Ytnlklhlnnoihiaa

namespace Go.Proofs.Ytnlklhlnnoihiaa
open Go.ChangeShapes Go.WideShapes Go.ChangeAt Go.RowKit

theorem own : ownKnob Try.prog.godebug = none := by kernel_rfl
theorem laidOut : laidOutB Try.prog = true := by kernel_rfl

section
variable {H : Type} {enc : TypeId × Value → H} {P : Program}
theorem trodAll_below (hl : laidOutB P = true) {W W' : World} (hb : Below W.heap.size W W') : ∀ (ts : List TypeId) (vs : List Value) (ds : List (DataW H)) (ps : List MemPlace),
    (∀ t ∈ ts, P.readableRec t = true ∧ t < P.types.size) → DataW.TrodAll enc P W 0 (fun _ => true) true ts vs ds ps → (∀ x ∈ ps, x.block < W.heap.size) →
    DataW.TrodAll enc P W' 0 (fun b => decide (b < W.heap.size)) true ts vs ds ps
  | [], vs, ds, ps, _, h, _ => by cases vs <;> cases ds <;> simp_all [DataW.TrodAll]
  | t :: ts, vs, ds, ps, hall, h, hlt => by
    obtain ⟨v, vs', d, ds', p, q, rfl, rfl, rfl, h0, h1⟩ := trodAll_cons h
    have ht := hall t (by simp)
    exact trodAll_cons_mk (Below.trod hl ht.1 ht.2 h0 hb fun x hx => hlt x (by simp [hx])) (trodAll_below hl hb ts vs' ds' q (fun t ht => hall t (by simp [ht])) h1 fun x hx => hlt x (by simp [hx]))

theorem law_post {f : Func} {s : ChangeSpec} {W W' : World} {args : Array Value} {ds gs : List (DataW H)} {before : List MemPlace} {tb : TypeId}
    (hW : DataW.Whole enc P f.params.toList s.vars false W args.toList ds gs before) (hvars : s.vars = []) (hl : laidOutB P = true) (hall : f.params.toList.all (fun t => P.readableRec t && decide (t < P.types.size)) = true)
    (hrt : f.resultTypes = #[tb]) (htb : P.underlying tb = some .bool) (hsp : s.fn H ds = { results := [.lit (.bool true)], args := ds }) (hb : Below W.heap.size W W') : s.post enc P f false true false false W args (.bool true) W' := by
  have hlt : ∀ p ∈ before, p.block < W.heap.size := fun p hp => hW.lt p hp
  have hW' := hW
  obtain ⟨p, q, hA, hV, rfl, _, _⟩ := hW
  rw [hvars] at hV
  obtain ⟨rfl, rfl⟩ := trodVars_none hV
  have hall' : ∀ t ∈ f.params.toList, P.readableRec t = true ∧ t < P.types.size := fun t ht => by
    have := List.all_eq_true.1 hall t ht
    simpa using this
  refine ⟨ds, [], p ++ [], [], p, [], hW', ?_, ?_, ?_, hb.frame _, fun h => by cases h⟩
  · rw [List.append_nil, hsp, hrt]
    exact trodAll_cons_mk (shut_bool htb true) trodAll_mk0
  · rw [List.append_nil, hsp]
    exact trodAll_below hl hb _ _ _ _ hall' hA fun x hx => hlt x (by simp [hx])
  · rw [List.append_nil, hsp, hvars]
    rfl
end
end Go.Proofs.Ytnlklhlnnoihiaa

namespace Go.Proofs.Ytnlklhlnnoihiaa.opForm
open Go.ChangeShapes Go.WideShapes Go.ChangeAt Go.RowKit
open Go.ChangeMaps (open_string)

set_option maxRecDepth 100000 in
theorem lifted (os : Os) (started : os.Started) (H : Type) (enc : TypeId × Value → H) :
    ReturnsInHanded {} Try.checked os 7 .any (Rows.opFormSpec.pre6 enc Try.prog Try.f7 Rows.opFormRow.domain false) (Rows.opFormSpec.post enc Try.prog Try.f7 false true false false) := by
  refine returnsInHanded_of_change (C := Try.checked) own started (by kernel_rfl) Try.func7
    (ChangeSpec.witness6 (enc := enc) (C := Try.checked) false ⟨#[], #[.slice none 0 0, .int .i64 0, .slice none 0 0], []⟩ 8 (by kernel_rfl) (by kernel_rfl) (by kernel_rfl) (by kernel_rfl)) ?_
  intro W base args ds gs before hval0 hW _ _
  have hval : ∀ (j : Nat) t v, Try.f7.params[j]? = some t → args[j]? = some v → Value.okWide Try.prog W .any base t v := hval0
  have hW' := hW
  obtain ⟨p, q, hA0, hV, rfl, hfz, hnd⟩ := hW
  have hA : DataW.TrodAll enc Try.prog W 0 (fun _ => true) true Try.f7.params.toList args.toList ds p := hA0
  rw [Try.params7] at hA hval
  obtain ⟨v0, vs0, d0, ds0, p0, q0, hargs, rfl, rfl, h0, r0⟩ := trodAll_cons hA
  obtain ⟨v1, vs1, d1, ds1, p1, q1, rfl, rfl, rfl, h1, r1⟩ := trodAll_cons r0
  obtain ⟨v2, vs2, d2, ds2, p2, q2, rfl, rfl, rfl, h2, r2⟩ := trodAll_cons r1
  obtain ⟨rfl, rfl, rfl⟩ := trodAll_nil r2
  obtain rfl : args = #[v0, v1, v2] := by cases args; simp_all
  obtain ⟨A0, c0, b, rfl, hs0, hby0, hm0, hn0⟩ := open_bytes (hval 0 41 v0 rfl rfl) h0
  obtain ⟨cut, rfl, _, _, w1⟩ := open_int Try.underlying3 (hval 1 3 v1 rfl rfl) h1
  obtain ⟨A2, c2, m, rfl, hs2, hby2, hm2, hn2⟩ := open_bytes (hval 2 41 v2 rfl rfl) h2
  refine (Form_walk A0 b c0 cut A2 m c2 W hs0 hs2 hby0 hby2 hm0.1 hn0 hn2).mono fun e W' ⟨he, hk⟩ => ?_
  subst he
  exact ⟨_, rfl, law_post hW' rfl laidOut (by kernel_rfl) rfl Try.underlying4 rfl (hk.below (Nat.le_refl _) fun _ h => h.elim)⟩

theorem proved : Rows.OpFormSaid :=
  OpenClaim.holds_of_wide 7 Try.f7 rfl rfl rfl rfl rfl rfl rfl ⟨rfl, rfl, rfl, rfl, rfl⟩ rfl rfl rfl rfl rfl (by kernel_rfl) Try.func7 (by kernel_rfl)
    (of_decide_eq_true (by kernel_rfl)) (by unfold Func.isWrapper; first | (rw [if_pos (by decide +kernel)]; kernel_rfl) | (rw [if_neg (by decide +kernel)]; exact ⟨rfl, rfl⟩))
    (fun os started H enc _ => lifted os started H enc)
#print axioms proved
end Go.Proofs.Ytnlklhlnnoihiaa.opForm
