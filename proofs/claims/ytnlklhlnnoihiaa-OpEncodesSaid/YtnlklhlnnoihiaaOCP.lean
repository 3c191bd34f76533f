/- A guarded operation whose guard is met. No condition. · Encode and Decode in a form that laws use; bytes of one operation are no beginning of another's. Conditions: what is handed in lies in memory. · What is taken without an error was laid so: the converse of there and back. No program in sight but for the words. · How many bytes an operation is laid as. No program. · A Writer made since a world: what is laid with it; the reference's Encode. Conditions: what is handed in lies in memory. · The walk of OpEncodes: it is true. Conditions: the operation lies in memory. -/
import Derived.Test.YtnlklhlnnoihiaaMO39
import Derived.Test.YtnlklhlnnoihiaaMO32
namespace Go.Proofs.Ytnlklhlnnoihiaa
open Go Go.RowKit

theorem wpList_unguard {P : Program} {ops : Array Oper} {Q : Exit → Act → World → Prop} {a : Act} {w : World} {rest : List Oper} {o : Oper} (hw : Region.wanted o (yielded ops a.tmps) = true) (h : wpList P ops Q ({ o with guard := none } :: rest) a w) : wpList P ops Q (o :: rest) a w := by
  unfold wpList at h ⊢
  rw [if_pos hw]
  rw [if_pos (by rfl)] at h
  exact h
end Go.Proofs.Ytnlklhlnnoihiaa

namespace Go.Proofs.Ytnlklhlnnoihiaa
open Go Go.RowKit

def encL (o : Opr) : List Int := if okOp o = true then encOp o else []
theorem encL_ok {o : Opr} (h : okOp o = true) : encL o = encOp o := if_pos h
theorem encL_no {o : Opr} (h : okOp o = false) : encL o = [] := if_neg (by rw [h]; decide)
theorem opE_ok {o : Opr} (h : okOp o = true) : opE o = 0 := if_pos h
theorem opE_no {o : Opr} (h : okOp o = false) : opE o = 10 := if_neg (by rw [h]; decide)
/-- Bytes in memory. -/
structure BsAt (w : World) (A : Option Addr) (l : List Int) : Prop where
  b : BytesAt w A l
  n : A = none → l = []
  lt : ∀ a, A = some a → a.block < w.heap.size
theorem BsAt.fresh {w w' : World} {A : Option Addr} {l : List Int} (h : BsAt w A l) (hk : Kept (fun _ => False) w w') : BsAt w' A l := ⟨h.b.fresh hk, h.n, fun a ha => Nat.lt_of_lt_of_le (h.lt a ha) hk.size⟩
theorem BsAt.of_own {w : World} {base c : Nat} {A : Option Addr} {l : List Int} (h : w.ownsRow base 5 1 (.slice A l.length c) l.length (bys l)) : BsAt w A l := by
  refine ⟨BytesAt.of_own h, fun e => ?_, fun a ha => ?_⟩
  · subst e
    rcases h.2 with ⟨_, h'⟩ | ⟨g, cap, cur, h', -⟩
    · exact List.eq_nil_of_length_eq_zero h'
    · injection h' with h'; cases h'
  · subst ha
    exact (h.lt a.block rfl).2
theorem BsAt.none (w : World) : BsAt w none [] := ⟨fun k hk => absurd hk (by simp), fun _ => rfl, fun a ha => by cases ha⟩
theorem encOp_byte (o : Opr) : isByte (encOp o) := by
  unfold encOp encT
  refine isByte_app (encs_byte _) (isByte_app (encs_byte _) ?_)
  split
  · exact isByte_app (encs_byte _) (isByte_app (enc_byte _) (tb_byte _))
  split
  · exact encs_byte _
  split
  · exact encs_byte _
  · intro b hb; cases hb
theorem encOp_pos (o : Opr) : 0 < (encOp o).length := by
  unfold encOp encs
  have := enc_pos o.kind.toNat
  simp only [List.flatMap_cons, List.length_append]
  omega
def EncS (w : World) (o : Opr) (r : Ending) (w' : World) : Prop := ∃ A c, r = .returned (.tuple #[.slice A (encL o).length c, .int .i64 (opE o)]) ∧ BsAt w' A (encL o) ∧ w'.ownsRow w.heap.size 5 1 (.slice A (encL o).length c) (encL o).length (bys (encL o)) ∧ Kept (fun _ => False) w w'
theorem EncS_any (x : Lop) (w : World) (hx : x.At w) (hs : x.o.Small) : Calls Try.prog 33 #[.agg x.c] w (EncS w x.o) := by
  refine (OpEncode_any x w hx hs).mono fun r w' h => ?_
  unfold EncPost at h
  cases hok : okOp x.o with
  | true =>
    rw [if_pos hok] at h
    obtain ⟨A, c, rfl, ho, hk⟩ := h
    unfold EncS
    rw [encL_ok hok, opE_ok hok]
    exact ⟨A, c, rfl, BsAt.of_own ho, ho, hk⟩
  | false =>
    rw [if_neg (by rw [hok]; decide)] at h
    obtain ⟨rfl, hk⟩ := h
    unfold EncS
    rw [encL_no hok, opE_no hok]
    exact ⟨none, 0, rfl, BsAt.none _, World.ownsRow_nil _ _ _ _, hk⟩
def DecS (w : World) (x : Int × Opr) (r : Ending) (w' : World) : Prop := ∃ (y : Lop) (gc : Nat), r = .returned (.tuple #[.agg y.c, .int .i64 x.1]) ∧ y.o = x.2 ∧ y.At w' ∧ y.gc = y.o.gone.length ∧ w'.ownsRow w.heap.size 23 2 y.dV y.o.deps.length (dots y.o.deps) ∧ w'.ownsRow w.heap.size 32 3 (.slice y.gA y.o.gone.length gc) y.o.gone.length (runs y.o.gone) ∧ Kept (fun _ => False) w w'
theorem DecS_any (A : Option Addr) (b : List Int) (c : Nat) (w : World) (hb : BsAt w A b) (hlen : b.length ≤ 100000000) (hby : isByte b) (hsm : (takeR ⟨b, 0⟩).1 = 0 → (takeR ⟨b, 0⟩).2.1.Small) :
    Calls Try.prog 20 #[.slice A b.length c] w (DecS w (decO b)) := by
  refine (OpDecode_any A b c w hb.b hb.n hlen hby hsm).mono fun r w' h => ?_
  obtain ⟨dA, dc, gA, gc, rfl, hd, hg, hk⟩ := h
  exact ⟨⟨(decO b).2, dA, dc, gA, (decO b).2.gone.length⟩, gc, rfl, rfl, ⟨DotsAt.of_own hd, RunsAt.of_own hg⟩, rfl, hd, hg, hk⟩
theorem DecS_enc (x : Opr) (A : Option Addr) (c : Nat) (w : World) (hb : BsAt w A (encL x)) (hok : okOp x = true) (hs : x.Small) : Calls Try.prog 20 #[.slice A (encL x).length c] w (DecS w (0, x)) := by
  have h := takeR_enc hok hs []
  rw [List.append_nil] at h
  rw [encL_ok hok] at hb ⊢
  have := DecS_any A (encOp x) c w hb (Nat.le_trans (encOp_len x hok hs) (by decide)) (encOp_byte x) (fun _ => by rw [h]; exact hs)
  rwa [decO_enc hok hs] at this
theorem enc_begins {x y : Opr} (hx : okOp x = true) (hy : okOp y = true) (sx : x.Small) (sy : y.Small) {t : List Int} (h : encOp y = encOp x ++ t) : x = y := by
  have h1 := takeR_enc hx sx t
  have h2 := takeR_enc hy sy []
  rw [List.append_nil, h, h1] at h2
  injection h2 with _ h2
  injection h2 with h2 _
theorem enc_take {x y : Opr} (hx : okOp x = true) (hy : okOp y = true) (sx : x.Small) (sy : y.Small) {n : Nat} (hn : n = min (encOp x).length (encOp y).length) (h : (encOp x).take n = (encOp y).take n) : x = y := by
  rcases Nat.le_total (encOp x).length (encOp y).length with hl | hl
  · rw [Nat.min_eq_left hl] at hn
    subst hn
    rw [List.take_length] at h
    exact enc_begins hx hy sx sy (t := (encOp y).drop (encOp x).length) (by conv => lhs; rw [← List.take_append_drop (encOp x).length (encOp y), ← h])
  · rw [Nat.min_eq_right hl] at hn
    subst hn
    rw [List.take_length] at h
    exact (enc_begins hy hx sy sx (t := (encOp x).drop (encOp y).length) (by conv => lhs; rw [← List.take_append_drop (encOp y).length (encOp x), h])).symm
end Go.Proofs.Ytnlklhlnnoihiaa

namespace Go.Proofs.Ytnlklhlnnoihiaa
open Go Go.RowKit

theorem take_bd (l : List Int) : ∀ (n acc v k : Nat), isByte l → n ≤ 8 → acc < 128 ^ n → takeFrom n acc l = (0, v, k) → v < 128 ^ 9 := by
  induction l with
  | nil => intro n acc v k _ _ _ h; rw [take_nil] at h; injection h with h; cases h
  | cons c t ih =>
    intro n acc v k hb hn ha h
    obtain ⟨hc0, hc1⟩ := hb c (by simp)
    have hbt : isByte t := fun x hx => hb x (by simp [hx])
    have hp : 128 ^ (n + 1) = 128 ^ n * 128 := Nat.pow_succ ..
    by_cases h1 : 128 ≤ c
    · by_cases h8 : n = 8
      · subst h8; rw [take_long h1] at h; injection h with h; cases h
      · rw [take_more' h1 h8] at h
        refine ih _ _ _ _ hbt (by omega) ?_ h
        have hle : (c - 128).toNat * 128 ^ n ≤ 127 * 128 ^ n := Nat.mul_le_mul_right _ (by omega)
        omega
    · by_cases h0 : c = 0 ∧ 0 < n
      · obtain ⟨rfl, hn⟩ := h0
        rw [take_zero hn] at h; injection h with h; cases h
      · rw [take_end h1 h0] at h
        injection h with _ h
        injection h with hv hk
        subst hv
        have hle : c.toNat * 128 ^ n ≤ 127 * 128 ^ n := Nat.mul_le_mul_right _ (by omega)
        have hm : 128 ^ (n + 1) ≤ 128 ^ 9 := Nat.pow_le_pow_right (by decide) (by omega)
        omega
theorem Rd.nx_ok {s : Rd} (h : s.nx.e = 0) : s.e = 0 := by
  by_cases he : s.e = 0
  · exact he
  · rw [(Rd.stop he).2] at h; exact absurd h he
theorem Rd.nt_ok {s : Rd} (h : s.nt.e = 0) : s.e = 0 := by
  by_cases he : s.e = 0
  · exact he
  · rw [Rd.stopT he] at h; exact absurd h he
theorem Rd.val_bd (s : Rd) (hb : isByte s.l) (hn : s.nx.e = 0) : s.val ≤ 9223372036854775807 := by
  have he := Rd.nx_ok hn
  obtain ⟨l, e⟩ := s
  simp only at hb he
  subst he
  rcases ht : takeFrom 0 0 l with ⟨er, v, k⟩
  have h1 : (⟨l, 0⟩ : Rd).val = v := by simp [Rd.val, ht]
  have h2 : (⟨l, 0⟩ : Rd).nx = ⟨l.drop k, er⟩ := by simp [Rd.nx, ht]
  rw [h2] at hn
  simp only at hn
  subst hn
  have := take_bd l 0 0 v k hb (by decide) (by decide) ht
  rw [h1]
  have e : (128 : Nat) ^ 9 = 9223372036854775808 := by decide
  omega
theorem Rd.step {s : Rd} (hb : isByte s.l) (hn : s.nx.e = 0) : s.l = enc s.val ++ s.nx.l ∧ isByte s.nx.l ∧ s.val ≤ 9223372036854775807 :=
  ⟨(Rd.inv hb (Rd.nx_ok hn) hn).1, (Rd.inv hb (Rd.nx_ok hn) hn).2, Rd.val_bd s hb hn⟩
theorem tb_strOf {xs : List Int} (h : isByte xs) : tb (strOfNums xs) = xs := by
  unfold tb
  rw [strOfNums_data, List.map_map]
  conv => rhs; rw [← List.map_id xs]
  apply List.map_congr_left
  intro x hx
  obtain ⟨h0, h1⟩ := h x hx
  have : (UInt8.ofNat x.toNat).toNat = x.toNat := by
    rw [UInt8.toNat_ofNat']
    omega
  show ((UInt8.ofNat x.toNat).toNat : Int) = x
  rw [this]
  omega
theorem Rd.inv_text {s : Rd} (hb : isByte s.l) (hn : s.nt.e = 0) : s.l = enc s.txt.size ++ tb s.txt ++ s.nt.l ∧ isByte s.nt.l ∧ s.txt.size ≤ s.l.length := by
  have he := Rd.nt_ok hn
  unfold Rd.nt at hn ⊢
  rw [if_neg (fun e => e he)] at hn ⊢
  by_cases h1 : s.nx.e = 0
  · rw [if_neg (fun e => e h1)] at hn ⊢
    obtain ⟨i1, i2, -⟩ := Rd.step hb h1
    by_cases h2 : s.val ≤ s.nx.l.length
    · rw [if_pos h2] at hn ⊢
      have ht : s.txt = strOfNums (s.nx.l.take s.val) := by unfold Rd.txt; rw [if_pos ⟨he, h1, h2⟩]
      have hbt : isByte (s.nx.l.take s.val) := fun b hb => i2 b (List.mem_of_mem_take hb)
      have hs : s.txt.size = s.val := by rw [ht, strOfNums_size, List.length_take]; omega
      refine ⟨?_, fun b hb => i2 b (List.mem_of_mem_drop hb), ?_⟩
      · rw [hs, ht, tb_strOf hbt, List.append_assoc, List.take_append_drop]
        exact i1
      · rw [hs, i1, List.length_append]
        omega
    · rw [if_neg h2] at hn; cases hn
  · rw [if_pos h1] at hn
    exact absurd hn h1
theorem takeRuns_inv : ∀ (k : Nat) (acc : List Rn) (s : Rd), isByte s.l → (takeRuns k acc s).2.e = 0 → ∃ U, (takeRuns k acc s).1 = acc ++ U ∧ U.length = k ∧ s.l = encs (goneNums U) ++ (takeRuns k acc s).2.l ∧ isByte (takeRuns k acc s).2.l ∧ ∀ r ∈ U, inI r.count
  | 0, acc, s, hb, _ => ⟨[], by simp [takeRuns], rfl, by simp [takeRuns, goneNums, encs], hb, fun r hr => absurd hr (by simp)⟩
  | k + 1, acc, s, hb, h => by
    unfold takeRuns at h ⊢
    by_cases h3 : s.nx.nx.nx.e = 0
    · rw [if_neg (fun e => e h3)] at h ⊢
      have h2 := Rd.nx_ok h3
      have h1 := Rd.nx_ok h2
      obtain ⟨i1, b1, v1⟩ := Rd.step hb h1
      obtain ⟨i2, b2, v2⟩ := Rd.step b1 h2
      obtain ⟨i3, b3, v3⟩ := Rd.step b2 h3
      obtain ⟨U, e1, e2, e3, e4, e5⟩ := takeRuns_inv k _ _ b3 h
      refine ⟨⟨⟨s.val, s.nx.val⟩, s.nx.nx.val⟩ :: U, ?_, by simp [e2], ?_, e4, fun r hr => ?_⟩
      · rw [e1]; simp
      · rw [i1, i2, i3, e3]
        simp [goneNums, encs]
      · rcases List.mem_cons.1 hr with rfl | hr
        · unfold inI
          simp only
          omega
        · exact e5 r hr
    · rw [if_pos h3] at h
      exact absurd h h3
theorem intoV_inv {o o' : Opr} {s s' : Rd} (hb : isByte s.l) (hs : s.e = 0) (_hk : 1 ≤ o.kind ∧ o.kind ≤ 4) (hg : o.gone = []) (ht : o.text.size = 0) (h : intoV o s = (0, o', s')) (hl : s.l.length ≤ 1000000) :
    s.l = encT o' ++ s'.l ∧ isByte s'.l ∧ s'.e = 0 ∧ o'.kind = o.kind ∧ o'.dot = o.dot ∧ o'.deps = o.deps ∧ (∀ r ∈ o'.gone, inI r.count) ∧ o'.gone.length ≤ 1024 ∧ o'.text.size ≤ 1000000 := by
  unfold intoV at h
  by_cases k1 : o.kind = 1
  · rw [if_pos k1] at h
    injection h with h0 h
    injection h with ho hs'
    subst ho hs'
    have h4 := Rd.nt_ok h0
    have h3 := Rd.nx_ok h4
    have h2 := Rd.nx_ok h3
    obtain ⟨i1, b1, v1⟩ := Rd.step hb h2
    obtain ⟨i2, b2, v2⟩ := Rd.step b1 h3
    obtain ⟨i3, b3, v3⟩ := Rd.step b2 h4
    obtain ⟨i4, b4, v4⟩ := Rd.inv_text b3 h0
    refine ⟨?_, b4, h0, rfl, rfl, rfl, by rw [hg]; simp, by rw [hg]; simp, ?_⟩
    · unfold encT
      rw [if_pos k1]
      simp only [Int.toNat_natCast]
      conv => lhs; rw [i1, i2, i3, i4]
      simp [encs]
    · have : s.nx.nx.nx.l.length ≤ s.l.length := by
        rw [i1, i2, i3]
        simp only [List.length_append]
        omega
      show s.nx.nx.nx.txt.size ≤ _
      omega
  rw [if_neg k1] at h
  by_cases k2 : o.kind = 2
  · rw [if_pos k2] at h
    injection h with h0 h
    injection h with ho hs'
    subst ho hs'
    unfold intoR at h0 ⊢
    by_cases h1 : s.nx.e = 0
    · rw [if_neg (fun e => e h1)] at h0 ⊢
      by_cases h2 : 1024 < s.val
      · rw [if_pos h2] at h0; cases h0
      · rw [if_neg h2] at h0 ⊢
        obtain ⟨i1, b1, v1⟩ := Rd.step hb h1
        obtain ⟨U, e1, e2, e3, e4, e5⟩ := takeRuns_inv _ _ _ b1 h0
        simp only [List.nil_append] at e1
        simp only [e1]
        refine ⟨?_, e4, h0, trivial, trivial, trivial, e5, by omega, by omega⟩
        unfold encT
        simp only [if_neg k1, if_pos k2]
        rw [e2]
        conv => lhs; rw [i1, e3]
        simp [encs]
    · rw [if_pos h1] at h0
      exact absurd h0 h1
  rw [if_neg k2] at h
  by_cases k3 : o.kind = 3
  · rw [if_pos k3] at h
    injection h with h0 h
    injection h with ho hs'
    subst ho hs'
    obtain ⟨i1, b1, v1⟩ := Rd.step hb h0
    refine ⟨?_, b1, h0, rfl, rfl, rfl, by rw [hg]; simp, by rw [hg]; simp, by show o.text.size ≤ _; omega⟩
    unfold encT
    simp only [if_neg k1, if_neg k2, if_pos k3, Int.toNat_natCast, encs_one]
    exact i1
  · rw [if_neg k3] at h
    injection h with h0 h
    injection h with ho hs'
    subst ho hs'
    refine ⟨?_, hb, hs, rfl, rfl, rfl, by rw [hg]; simp, by rw [hg]; simp, by omega⟩
    unfold encT
    rw [if_neg k1, if_neg k2, if_neg k3]
    rfl
theorem takeR_inv {b : List Int} {o : Opr} {s : Rd} (hb : isByte b) (hl : b.length ≤ 1000000) (h : takeR ⟨b, 0⟩ = (0, o, s)) : b = encOp o ++ s.l ∧ isByte s.l ∧ s.e = 0 ∧ o.Small := by
  unfold takeR at h
  by_cases h1 : (⟨b, 0⟩ : Rd).nx.e = 0
  · rw [if_neg (fun e => e h1)] at h
    by_cases h2 : (⟨b, 0⟩ : Rd).val < 1 ∨ 4 < (⟨b, 0⟩ : Rd).val
    · rw [if_pos h2] at h; injection h with h; cases h
    rw [if_neg h2] at h
    by_cases h3 : (⟨b, 0⟩ : Rd).nx.nx.nx.e = 0
    · rw [if_neg (fun e => e h3)] at h
      have h4 := Rd.nx_ok h3
      obtain ⟨i1, b1, v1⟩ := Rd.step (s := ⟨b, 0⟩) hb h1
      obtain ⟨i2, b2, v2⟩ := Rd.step b1 h4
      obtain ⟨i3, b3, v3⟩ := Rd.step b2 h3
      generalize hs3 : (⟨b, 0⟩ : Rd).nx.nx.nx = s3 at *
      obtain ⟨l3, e3⟩ := s3
      simp only at h3 b3 i3
      subst h3
      by_cases h5 : (takeV ⟨l3, 0⟩).1 = 0
      · rw [if_neg (fun e => e h5)] at h
        rcases hv : takeV ⟨l3, 0⟩ with ⟨er, V, s4⟩
        rw [hv] at h h5
        simp only at h h5
        subst h5
        obtain ⟨j1, j2, j3, j4⟩ := takeV_inv b3 hv
        have hb4 : isByte s4.l := fun x hx => b3 x (by rw [j1]; exact List.mem_append_right _ hx)
        have hl3 : l3.length ≤ b.length := by
          have e0 : b = (⟨b, 0⟩ : Rd).l := rfl
          rw [e0, i1, i2, i3]
          simp only [List.length_append]
          omega
        have hl4 : s4.l.length ≤ 1000000 := by
          have : s4.l.length ≤ l3.length := by rw [j1, List.length_append]; omega
          omega
        obtain ⟨k1, k2, k3, k4, k5, k6, k7, k8, k9⟩ := intoV_inv hb4 j2 (by simp only; omega) rfl rfl h hl4
        refine ⟨?_, k2, k3, ⟨k7, by rw [k6]; exact Nat.le_trans j4 (by decide), by omega, k9⟩⟩
        unfold encOp
        rw [k4, k5, k6]
        simp only [Int.toNat_natCast]
        have e0 : b = (⟨b, 0⟩ : Rd).l := rfl
        conv => lhs; rw [e0, i1, i2, i3, j1, k1]
        simp [encs]
      · rw [if_pos h5] at h
        injection h with h
        exact absurd h h5
    · rw [if_pos h3] at h
      injection h with h
      exact absurd h h3
  · rw [if_pos h1] at h
    injection h with h
    exact absurd h h1
theorem takeR_small {b : List Int} (hb : isByte b) (hl : b.length ≤ 1000000) (h : (takeR ⟨b, 0⟩).1 = 0) : (takeR ⟨b, 0⟩).2.1.Small := by
  rcases hr : takeR ⟨b, 0⟩ with ⟨er, o, s⟩
  rw [hr] at h
  simp only at h
  subst h
  exact (takeR_inv hb hl hr).2.2.2
theorem decO_inv {b : List Int} {o : Opr} (hb : isByte b) (hl : b.length ≤ 1000000) (h : decO b = (0, o)) : b = encOp o ∧ okOp o = true ∧ o.Small := by
  unfold decO takeO at h
  rcases hr : takeR ⟨b, 0⟩ with ⟨er, o', s⟩
  rw [hr] at h
  simp only at h
  by_cases he : er = 0
  · subst he
    simp only [ne_eq, not_true_eq_false, if_false] at h
    by_cases hok : okOp o' = true
    · simp only [if_pos hok, not_true_eq_false, if_false] at h
      obtain ⟨h1, h2, h3, h4⟩ := takeR_inv hb hl hr
      by_cases hz : 0 < s.l.length
      · rw [if_pos hz] at h; injection h with h; cases h
      · rw [if_neg hz] at h
        injection h with _ h
        subst h
        have : s.l = [] := List.eq_nil_of_length_eq_zero (by omega)
        rw [this, List.append_nil] at h1
        exact ⟨h1, hok, h4⟩
    · simp only [if_neg hok] at h
      rw [if_pos (by decide)] at h
      injection h with h
      cases h
  · simp only [if_pos he] at h
    injection h with h
    exact absurd h he
end Go.Proofs.Ytnlklhlnnoihiaa

namespace Go.Proofs.Ytnlklhlnnoihiaa
open Go

theorem pcs_size (s : ByteArray) : ∀ (n f i : Nat), s.size - i ≤ n → s.size ≤ i + f → s.size ≤ i + 4 * (pcs s f i).length := by
  intro n
  induction n with
  | zero => intro f i h1 _; omega
  | succ n ih =>
    intro f i h1 h2
    rcases Nat.lt_or_ge i s.size with h | h
    · rw [pcs_step h h2, List.length_cons]
      have hp := dec_pos s i
      have := ih f (i + (dec s i).2) (by omega) (by omega)
      omega
    · omega
theorem size_le_cnt (s : ByteArray) : s.size ≤ 4 * cnt s := by
  have := pcs_size s s.size s.size 0 (by omega) (by omega)
  unfold cnt cuts
  omega
theorem enc_le5 {x : Nat} (h : x ≤ 2147483648) : (enc x).length ≤ 5 := enc_len 4 x (Nat.lt_of_le_of_lt h (by decide))
theorem enc_le1 {x : Nat} (h : x ≤ 127) : (enc x).length ≤ 1 := enc_len 0 x (Nat.lt_of_le_of_lt h (by decide))
theorem enc_le2 {x : Nat} (h : x ≤ 16383) : (enc x).length ≤ 2 := enc_len 1 x (Nat.lt_of_le_of_lt h (by decide))
theorem encs_more (x : Nat) (m : List Nat) : encs (x :: m) = enc x ++ encs m := by simp [encs]
theorem gone_len : ∀ (l : List Rn), (∀ r ∈ l, okRn r = true) → (encs (goneNums l)).length ≤ 11 * l.length
  | [], _ => by simp [goneNums, encs]
  | r :: l, h => by
    have hr := h r (by simp)
    rw [okRn_iff, okId_iff] at hr
    have ih := gone_len l fun q hq => h q (by simp [hq])
    have e : encs (goneNums (r :: l)) = enc r.id.time.toNat ++ (enc r.id.site.toNat ++ (enc r.count.toNat ++ encs (goneNums l))) := by simp [goneNums, encs]
    have h1 := enc_le5 (x := r.id.time.toNat) (by omega)
    have h2 := enc_le1 (x := r.id.site.toNat) (by omega)
    have h3 := enc_le5 (x := r.count.toNat) (by omega)
    rw [e]
    simp only [List.length_append, List.length_cons]
    omega
theorem dot_len : ∀ (l : List Dt), (∀ d ∈ l, okDot d = true) → (encs (dotNums l)).length ≤ 6 * l.length
  | [], _ => by simp [dotNums, encs]
  | d :: l, h => by
    have hd : 1 ≤ d.site ∧ d.site ≤ 16 ∧ 1 ≤ d.seq ∧ d.seq ≤ 2147483647 := by simpa [okDot] using h d (by simp)
    have ih := dot_len l fun q hq => h q (by simp [hq])
    have e : encs (dotNums (d :: l)) = enc d.site.toNat ++ (enc d.seq.toNat ++ encs (dotNums l)) := by simp [dotNums, encs]
    have h1 := enc_le1 (x := d.site.toNat) (by omega)
    have h2 := enc_le5 (x := d.seq.toNat) (by omega)
    rw [e]
    simp only [List.length_append, List.length_cons]
    omega
/-- An operation has not many bytes. -/
theorem encOp_le (o : Opr) (hok : okOp o = true) : (encOp o).length ≤ 11400 := by
  have hf := okOp_f hok
  have hs1 := hf.s1
  have hs2 := hf.s2
  have hq1 := hf.q1
  have hq2 := hf.q2
  have hkd : 1 ≤ o.kind ∧ o.kind ≤ 4 := by rcases hf.kd with ⟨k, -⟩ | ⟨k, -⟩ | ⟨k, -⟩ | ⟨k, -⟩ <;> omega
  have hdl : o.deps.length ≤ 16 := by
    have := vec_len (Row.says o.deps)
    rwa [vec_says hf.dv] at this
  have hdo : ∀ d ∈ o.deps, okDot d = true := by
    have := vec_ok (Row.says o.deps) 17 (Nat.le_refl _)
    rwa [show vecTo (says o.deps) 17 = o.deps from vec_says hf.dv] at this
  have h1 := enc_le1 (x := o.kind.toNat) (by omega)
  have h2 := enc_le1 (x := o.dot.site.toNat) (by omega)
  have h3 := enc_le5 (x := o.dot.seq.toNat) (by omega)
  have h4 := dot_len o.deps hdo
  have h5 := enc_le1 (x := o.deps.length) (by omega)
  have ht : (encT o).length ≤ 11290 := by
    unfold encT
    rcases hf.kd with ⟨k1, hgo, hsi, hc0, hc1, hb, his, hid, hti, href, hlt⟩ | ⟨k2, hid, href, htx, hsi, hg0, hg1, hck⟩ | ⟨k3, hgo, hid, href, htx, hs1, hs2⟩ | ⟨k4, hgo, hid, href, htx, hsi⟩
    · rw [if_pos k1]
      rw [okId_iff] at hid
      have hr0 : o.ref.time ≤ 2147483647 ∧ o.ref.site ≤ 16 := by
        rcases href with h | h
        · rw [h]; exact ⟨by decide, by decide⟩
        · rw [okId_iff] at h; omega
      have a1 := enc_le5 (x := o.id.time.toNat) (by omega)
      have a2 := enc_le5 (x := o.ref.time.toNat) (by omega)
      have a3 := enc_le5 (x := o.ref.site.toNat) (by omega)
      have a4 := size_le_cnt o.text
      have a5 := enc_le2 (x := o.text.size) (by omega)
      have a6 := tb_len o.text
      simp only [encs_more, encs_nil, List.length_append, List.length_nil]
      omega
    · rw [if_neg (by rw [k2]; decide), if_pos k2, encs_more]
      have a1 := enc_le2 (x := o.gone.length) (by omega)
      have a2 := gone_len o.gone (chkR_all _ _ hck)
      simp only [List.length_append]
      omega
    · rw [if_neg (by rw [k3]; decide), if_neg (by rw [k3]; decide), if_pos k3, encs_one]
      have a1 := enc_le5 (x := o.site.toNat) (by omega)
      omega
    · rw [if_neg (by rw [k4]; decide), if_neg (by rw [k4]; decide), if_neg (by rw [k4]; decide)]
      simp
  unfold encOp vnums
  simp only [encs_more, encs_nil, List.length_append, List.length_nil]
  omega
end Go.Proofs.Ytnlklhlnnoihiaa

namespace Go.Proofs.Ytnlklhlnnoihiaa
open Go Go.RowKit

/-- A Writer that was made since wm, at g; nothing of wm has turned. -/
structure WrIn (wm : World) (g : Nat) (l : List Int) (e : Int) (W : World) : Prop where
  k : Kept (fun _ => False) wm W
  w : ∃ sv, WriterAt W wm.heap.size g sv l e
section
variable {wm W W' : World} {g : Nat} {l l' : List Int} {e : Int} {r : Ending}
theorem WrIn.fresh (h : WrIn wm g l e W) (hk : Kept (fun _ => False) W W') : WrIn wm g l e W' := by
  obtain ⟨sv, hw⟩ := h.w
  exact ⟨h.k.trans hk fun _ _ e => e, sv, hw.fresh hk⟩
theorem WrIn.new (wm : World) : WrIn wm wm.heap.size [] 0 (wm.alloc (.cells #[.slice none 0 0, .int .i64 0] 71)) := ⟨(Kept.refl _ _).alloc _, _, WriterAt.new wm⟩
theorem WrIn.of_post {sv : Value} (h : WriterAt W wm.heap.size g sv l e) (hk : Kept (fun _ => False) wm W) (hp : WPost W wm.heap.size g sv l' e r W') : r = .returned (.tuple #[]) ∧ WrIn wm g l' e W' := by
  obtain ⟨hr, sv', h', hk', -⟩ := hp
  refine ⟨hr, hk.trans hk' fun k h1 h2 => ?_, sv', h'⟩
  rcases h2 with rfl | h2
  · have := h.base_le; omega
  · have := (h.row.lt k h2).1; omega
theorem WrIn.other {M : Nat} {T : TypeId} {cs : Array Value} (h : WrIn wm g l e W) (hb : Box W M T cs) (h1 : T ≠ 71) (h2 : 5 ≠ T) (hM : wm.heap.size ≤ M) (hk : Kept (fun k => k = M) W W') : WrIn wm g l e W' := by
  obtain ⟨sv, hw⟩ := h.w
  have hne := Box.ne hb hw.box h1
  exact ⟨h.k.trans hk fun k hk e => by omega, sv, hw.box.kept hk (fun e => hne e.symm), hk.own hw.row fun k e1 e2 => own_box_ne hw.row hb h2 (by rw [e1, e2]), hw.base_le⟩
def WrPost (wm : World) (g : Nat) (l : List Int) (e : Int) (r : Ending) (W' : World) : Prop := r = .returned (.tuple #[]) ∧ WrIn wm g l e W'
theorem WrIn.text (h : WrIn wm g l e W) (s : ByteArray) (hl : l.length ≤ 1000000) (hs : s.size ≤ 1000000) : Calls Try.prog 36 #[.pointer (some ⟨g, 0, none⟩), .string s] W (WrPost wm g (layB l e (enc s.size ++ tb s)) e) := by
  obtain ⟨sv, hw⟩ := h.w
  exact (WText_any _ g sv l e s W hw hl hs).mono fun r W' hp => WrIn.of_post hw h.k hp
theorem WrIn.num (h : WrIn wm g l e W) (x : Nat) (hl : l.length ≤ 1000000) (hx : x ≤ 9223372036854775807) : Calls Try.prog 37 #[.pointer (some ⟨g, 0, none⟩), .int .i64 x] W (WrPost wm g (layB l e (enc x)) e) := by
  obtain ⟨sv, hw⟩ := h.w
  obtain ⟨h1, h2⟩ := layB_num l e x
  have := Number_any _ g sv l e x W hw hl (by omega)
  rw [h1, h2] at this
  exact this.mono fun r W' hp => WrIn.of_post hw h.k hp
theorem WrIn.put (h : WrIn wm g l e W) (x : Lop) (hx : x.At wm) (hs : x.o.Small) (hl : l.length ≤ 800000) : Calls Try.prog 32 #[.pointer (some ⟨g, 0, none⟩), .agg x.c] W (WrPost wm g (layO l e x.o) e) := by
  obtain ⟨sv, hw⟩ := h.w
  have hoff : OffW g sv x := by
    refine ⟨fun hne a ha ho => ?_, fun hne a ha ho => ?_⟩
    · have h1 := hx.d.block_lt hne a ha
      rcases ho with ho | ho
      · have := hw.base_le; omega
      · have := (hw.row.lt _ ho).1; omega
    · have h1 := hx.g.block_lt hne a ha
      rcases ho with ho | ho
      · have := hw.base_le; omega
      · have := (hw.row.lt _ ho).1; omega
  exact (OpPut_any _ g sv l e x W hw (hx.fresh h.k) hs hoff hl).mono fun r W' hp => WrIn.of_post hw h.k hp
theorem WrIn.data (h : WrIn wm g l e W) (hl : l.length ≤ 100000000) : Calls Try.prog 41 #[.pointer (some ⟨g, 0, none⟩)] W (FreshBytes W l) := by
  obtain ⟨sv, hw⟩ := h.w
  exact Data_any _ g sv l e W hw hl
theorem WrIn.err (h : WrIn wm g l e W) : Calls Try.prog 42 #[.pointer (some ⟨g, 0, none⟩)] W (fun r w' => r = .returned (.int .i64 e) ∧ W = w') := by
  obtain ⟨sv, hw⟩ := h.w
  exact WErr_any _ g sv l e W hw
end
theorem layO_le (l : List Int) (e : Int) (o : Opr) : (layO l e o).length ≤ l.length + 11400 := by
  unfold layO
  split
  · rename_i h
    have := layB_len l e (encOp o)
    have := encOp_le o h
    omega
  · omega
theorem layO_nil (o : Opr) : layO [] 0 o = encL o := by
  unfold layO encL layB
  split
  · simp
  · rfl
/-- The reference's Encode. -/
def REncS (w : World) (o : Opr) (r : Ending) (w' : World) : Prop := ∃ A c, r = .returned (.tuple #[.slice A (encL o).length c, .int .i64 (opE o)]) ∧ BytesAt w' A (encL o) ∧ Kept (fun _ => False) w w'
theorem field_RW (A : Option Addr) (n c : Nat) (e : Int) (W : World) : (Instr.field 75 (.agg #[.slice A n c, .int .i64 e]) 0).run Try.prog W = .ok (.slice A n c) W := by kernel_rfl
theorem RBz (w : World) : RB w none [] 0 := ⟨fun k h => absurd h (by simp), fun _ => rfl⟩
set_option maxRecDepth 100000 in
set_option maxHeartbeats 1600000 in
theorem REnc_any (x : Lop) (w : World) (hx : x.At w) (hs : x.o.Small) : Calls Try.prog 35 #[.agg x.c] w (REncS w x.o) := by
  have hk0 : Kept (fun _ => False) w (w.alloc (.cells x.c 30)) := (Kept.refl _ _).alloc _
  have HK := Lib.hid hk0
  have HX := Lib.hid (hx.fresh hk0)
  have HB := Lib.hid (Box.new w 30 x.c)
  have HRC := Lib.hid (fun W (h1 : x.At W) => RefCheck_any x.o x.dA x.gA x.dc x.gc W (h1.opr hs))
  have HRP := Lib.hid (fun W (h1 : x.At W) => RPut8_any none [] 0 0 x W (RBz W) h1 hs (by simp))
  have HCC := Lib.hid (show x.o.cells x.dA x.dc x.gA x.gc = x.c from rfl)
  obtain ⟨cs, hcs⟩ : ∃ cs, x.c = cs := ⟨_, rfl⟩
  have HSZ := Lib.hid (show cs.size = 11 by rw [← hcs]; rfl)
  rw [hcs] at HX HB HRP HCC HK ⊢
  rw [HCC.out] at HRC
  clear hx hs hk0 hcs HCC
  go_enter Try.func35, Try.ntmps35
  go_upto_region 1 with (fail)
  generalize w.alloc (.cells cs 30) = w0 at HK HB HX ⊢
  go_wp2_with (refine wpList_load_op rfl _ rfl w.heap.size rfl _ cs HSZ.out HB.out ?_)
  refine (HRC.out w0 HX.out).mono ?_
  unfold IntPost
  cases hok : okOp x.o with
  | false =>
    rw [opE_no hok]
    rintro r w1 ⟨rfl, hk⟩
    have HK1 := Lib.hid (HK.out.trans hk fun _ _ e => e)
    have HO := Lib.hid hok
    clear hk hok
    go_wp2_with (fail)
    go_ret2
    refine ⟨none, 0, ?_, ?_, HK1.out⟩
    · rw [encL_no HO.out, opE_no HO.out]; rfl
    · rw [encL_no HO.out]; exact fun k h => absurd h (by simp)
  | true =>
    rw [opE_ok hok]
    rintro r w1 ⟨rfl, hk⟩
    have HK1 := Lib.hid (HK.out.trans hk fun _ _ e => e)
    have HX1 := Lib.hid (HX.out.fresh hk)
    have HB1 := Lib.hid (HB.out.kept hk id)
    have HO := Lib.hid hok
    clear hk hok HK HX HB
    go_wp2_with (refine wpList_load_op rfl _ rfl w.heap.size rfl _ cs HSZ.out HB1.out ?_)
    refine (HRP.out w1 HX1.out).mono ?_
    rw [layO_nil]
    rintro r w2 ⟨A, c, rfl, hr, -, hk⟩
    have HK2 := Lib.hid (HK1.out.trans hk fun _ _ e => e)
    have HR2 := Lib.hid hr.at_
    unfold wrV
    clear hk hr HK1 HX1 HB1
    have hfd := field_RW A (encL x.o).length c 0
    go_wp2_with (fail)
    go_ret2
    refine ⟨A, c, ?_, HR2.out, HK2.out⟩
    rw [opE_ok HO.out]
    rfl
end Go.Proofs.Ytnlklhlnnoihiaa

namespace Go.Proofs.Ytnlklhlnnoihiaa
open Go Go.RowKit

/-- What lies there as long as the statement lasts: the operation, its twin, their boxes. -/
structure EnAt (w : World) (x y : Lop) (cs ys : Array Value) (N : Nat) (W : World) : Prop where
  b : Box W w.heap.size 30 cs
  n : Box W N 30 ys
  xa : x.At W
  t : TwinAt W w.heap.size x.o y
  k : Kept (fun _ => False) w W
theorem EnAt.fresh {w W W' : World} {x y : Lop} {cs ys : Array Value} {N : Nat} (h : EnAt w x y cs ys N W) (hk : Kept (fun _ => False) W W') : EnAt w x y cs ys N W' := ⟨h.b.kept hk id, h.n.kept hk id, h.xa.fresh hk, h.t.fresh hk, h.k.trans hk fun _ _ e => e⟩
theorem und_RW : ∃ d, Try.prog.underlying 75 = some d ∧ d.isRow = true := ⟨.struct (Try.prog.fieldsOf 75), by kernel_rfl, rfl⟩
theorem wpList_load_RW {w : World} {ops : Array Oper} {rest : List Oper} {o : Oper} {a : Act} {Q : Exit → Act → World → Prop} (hgd : o.guard = none) (x : Operand) (ho : o.op = .load 75 x) (g : Nat) (hx : a.eval x = .pointer (some ⟨g, 0, none⟩)) (t : TypeId) (cs : Array Value) (hs : cs.size = 2) (hg : Box w g t cs)
    (h : wpList Try.prog ops Q rest (a.put o.dst (.agg cs)) w) : wpList Try.prog ops Q (o :: rest) a w := by
  obtain ⟨d, hu, hd⟩ := und_RW
  exact wpList_load_box hgd _ x ho g hx t cs d hg hu (by cases d <;> simp_all) (by rw [hs]; exact size_RW) h
def zeroRW : Array Value := #[.slice none 0 0, .int .i64 0]
set_option maxRecDepth 100000 in
set_option maxHeartbeats 3200000 in
theorem Encodes_walk (x : Lop) (s : ByteArray) (w : World) (hx : x.At w) (hn : x.Nil) (hc : ∀ r ∈ x.o.gone, inI r.count) : Calls Try.prog 10 #[.agg x.c, .string s] w (KnownPost w) := by
  have hk0 : Kept (fun _ => False) w (w.alloc (.cells x.c 30)) := (Kept.refl _ _).alloc _
  have HK := Lib.hid hk0
  have HX := Lib.hid (hx.fresh hk0)
  have HB := Lib.hid (Box.new w 30 x.c)
  have HC := Lib.hid hc
  have HLG := Lib.hid (fun W => Long_any x W)
  have HTW := Lib.hid (fun W (h1 : x.At W) (h2 : x.o.Small) => twin_any x W h1 hn h2)
  have HRE := Lib.hid (fun W (h1 : x.At W) (h2 : x.o.Small) => REnc_any x W h1 h2)
  have HST := Lib.hid (fun (y : Lop) (base : Nat) (W : World) (hy : TwinAt W base x.o y) (h1 : x.At W) (h2 : x.o.Small) => Stands8_any x y base W hy h1 h2.dl h2.gl)
  have HRP := Lib.hid (fun (A : Option Addr) (l : List Int) (c : Nat) (W : World) (h : RB W A l c) (h1 : x.At W) (h2 : x.o.Small) (h3 : l.length ≤ 800000) => RPut8_any A l c 0 x W h h1 h2 h3)
  obtain ⟨cs, hcs⟩ : ∃ cs, x.c = cs := ⟨_, rfl⟩
  have HSX := Lib.hid (show cs.size = 11 by rw [← hcs]; rfl)
  rw [hcs] at HK HX HB HLG HTW HRE HST HRP ⊢
  clear hk0 hx hn hc hcs
  go_enter Try.func10, Try.ntmps10
  go_upto_region 1 with (fail)
  generalize w.alloc (.cells cs 30) = w0 at HK HX HB ⊢
  go_wp2_with (refine wpList_load_op rfl _ rfl w.heap.size rfl _ cs HSX.out HB.out ?_)
  refine (HLG.out w0).mono ?_
  cases hl : isLong x.o with
  | true =>
    rintro r w1 ⟨rfl, hk⟩
    have HK1 := Lib.hid (HK.out.trans hk fun _ _ e => e)
    clear hk
    go_wp2_with (fail)
    refine (Known8_any w1).mono ?_
    rintro r k1 ⟨rfl, hk⟩
    have HK2 := Lib.hid (HK1.out.trans hk fun _ _ e => e)
    clear hk
    go_wp2_with (fail)
    go_ret
    exact ⟨rfl, HK2.out⟩
  | false =>
    rintro r w1 ⟨rfl, hk⟩
    have HSM := Lib.hid (show x.o.Small from by
      have := of_decide_eq_false hl
      exact ⟨HC.out, by omega, by omega, by omega⟩)
    have HK1 := Lib.hid (HK.out.trans hk fun _ _ e => e)
    have HX1 := Lib.hid (HX.out.fresh hk)
    have HB1 := Lib.hid (HB.out.kept hk id)
    clear hk hl HK HX HB HLG
    by_cases hsl : 60000 < s.size
    · have hsl' : (60000 : Int) < (s.size : Int) := by omega
      go_wp2_with (fail)
      refine (Known8_any w1).mono ?_
      rintro r k1 ⟨rfl, hk⟩
      have HK2 := Lib.hid (HK1.out.trans hk fun _ _ e => e)
      clear hk
      go_wp2_with (fail)
      go_ret
      exact ⟨rfl, HK2.out⟩
    have hsl' : ¬ (60000 : Int) < (s.size : Int) := by omega
    go_wp2_with (refine wpList_load_op rfl _ rfl w.heap.size rfl _ cs HSX.out HB1.out ?_)
    refine (HTW.out w1 HX1.out HSM.out).mono ?_
    rintro r w2 ⟨y, rfl, hy, hk⟩
    have HY2 := Lib.hid (hy.older HK1.out.size)
    have HX2 := Lib.hid (HX1.out.fresh hk)
    have HB2 := Lib.hid (HB1.out.kept hk id)
    have HK2 := Lib.hid (HK1.out.trans hk fun _ _ e => e)
    have HYO := Lib.hid hy.eq
    have HYS := Lib.hid ((show y.o.Small by rw [hy.eq]; exact HSM.out))
    have HEN := Lib.hid (fun W (h1 : y.At W) => EncS_any y W h1 HYS.out)
    have HST2 := Lib.hid (fun (base : Nat) (W : World) (h : TwinAt W base x.o y) (h1 : x.At W) => HST.out y base W h h1 HSM.out)
    obtain ⟨ys, hys⟩ : ∃ ys, y.c = ys := ⟨_, rfl⟩
    have HYC := Lib.hid hys
    have HSY := Lib.hid (show ys.size = 11 by rw [← hys]; rfl)
    have HON := Lib.hid (show ys.all (·.oneCell') = true by rw [← hys]; exact Opr.cells_one _ _ _ _ _)
    rw [hys] at HEN HST2 ⊢
    unfold EncS at HEN
    rw [HYO.out] at HEN
    clear hk hy hys HX1 HB1 HK1 HTW HST
    have hka : Kept (fun _ => False) w2 (w2.alloc (.cells zeroC 30)) := (Kept.refl _ _).alloc _
    have HBN := Lib.hid (Box.new w2 30 zeroC)
    have hbl := HB2.out.lt
    go_wp2_with (refine wpList_store_box rfl 30 _ _ rfl w2.heap.size ys rfl rfl 30 zeroC HBN.out (by rw [HSY.out]; exact size_op) HSY.out.symm HON.out ?_; intro w3 HN3 hk3; refine Hid.out ?_)
    refine Lib.hid ?_
    have hk23 : Kept (fun _ => False) w2 w3 := hka.trans hk3 fun k hk e => by omega
    obtain ⟨N, hN⟩ : ∃ N, w2.heap.size = N := ⟨_, rfl⟩
    rw [hN] at HN3 ⊢
    have HZ := Lib.hid (show EnAt w x y cs ys N w3 from ⟨HB2.out.kept hk23 id, HN3, HX2.out.fresh hk23, HY2.out.fresh hk23, HK2.out.trans hk23 fun _ _ e => e⟩)
    clear hka hk3 hk23 HBN HN3 HX2 HB2 HK2 HY2 hN hbl
    have hr3 := Kept.refl (fun _ => False) w3
    go_wp2_with (refine wpList_load_op rfl _ rfl N rfl _ ys HSY.out (HZ.out.n.kept hr3 id) ?_)
    refine (HEN.out w3 HZ.out.t.at).mono ?_
    rintro r w4 ⟨A, c, rfl, hbs, -, hk⟩
    have hr4 := hk
    have HA := Lib.hid hbs.b
    clear hr3 hbs hk
    go_wp2_with (refine wpList_load_op rfl _ rfl w.heap.size rfl _ cs HSX.out (HZ.out.b.kept hr4 id) ?_)
    refine (HRE.out w4 (HZ.out.fresh hr4).xa HSM.out).mono ?_
    rintro r w5 ⟨B, d, rfl, hbd, hk⟩
    have hr5 := hr4.trans hk fun _ _ e => e
    have HA5 := Lib.hid (HA.out.fresh hk)
    have HB5 := Lib.hid hbd
    clear hr4 hbd hk HA HRE
    have hln : (encL x.o).length ≤ 11400 := by have := layO_le [] 0 x.o; rw [layO_nil] at this; simpa using this
    generalize opE x.o = oe at *
    obtain ⟨le, hle⟩ : ∃ le, encL x.o = le := ⟨_, rfl⟩
    rw [hle] at HA5 HB5 HEN hln ⊢
    clear hle HEN
    go_wp2_with (fail)
    refine (Bytes8_any A B le le c d w5 HA5.out HB5.out (by omega)).mono ?_
    rw [decide_eq_true rfl]
    unfold SamePost
    rintro r w6 ⟨rfl, hk⟩
    have hr6 := hr5.trans hk fun _ _ e => e
    clear hr5 hk HA5 HB5
    go_wp2_with (first | (refine wpList_unguard rfl ?_; refine wpList_load_op rfl _ rfl N rfl _ ys HSY.out (HZ.out.n.kept hr6 id) ?_) | (refine wpList_unguard rfl ?_; refine wpList_load_op rfl _ rfl w.heap.size rfl _ cs HSX.out (HZ.out.b.kept hr6 id) ?_))
    refine (HST2.out w.heap.size w6 (HZ.out.fresh hr6).t (HZ.out.fresh hr6).xa).mono ?_
    rintro r w7 ⟨rfl, hk⟩
    have hr7 := hr6.trans hk fun _ _ e => e
    clear hr6 hk
    have HZ7 := Lib.hid (HZ.out.fresh hr7)
    clear hr7 HZ
    go_upto_region 9 with (fail)
    have HW := Lib.hid (WrIn.new w7)
    generalize w7.alloc (.cells #[.slice none 0 0, .int .i64 0] 71) = w8 at HW ⊢
    obtain ⟨g, hg⟩ : ∃ g, w7.heap.size = g := ⟨_, rfl⟩
    rw [hg] at HW ⊢
    clear hg
    obtain ⟨l1, hl1⟩ : ∃ l1, layB [] 0 (enc s.size ++ tb s) = l1 := ⟨_, rfl⟩
    have h1l : l1.length ≤ 60009 := by
      have e1 := layB_len [] 0 (enc s.size ++ tb s)
      have e2 := enc_len9 s.size (by omega)
      have e3 := tb_len s
      rw [List.length_append, List.length_nil] at e1
      rw [← hl1]
      omega
    obtain ⟨l2, hl2⟩ : ∃ l2, layO l1 0 x.o = l2 := ⟨_, rfl⟩
    have h2l : l2.length ≤ 71409 := by have := layO_le l1 0 x.o; rw [hl2] at this; omega
    obtain ⟨l3, hl3⟩ : ∃ l3, layB l2 0 (enc 7) = l3 := ⟨_, rfl⟩
    have h3l : l3.length ≤ 71418 := by
      have e1 := layB_len l2 0 (enc 7)
      have e2 := enc_len9 7 (by omega)
      rw [hl3] at e1
      omega
    have HT1 := Lib.hid (HW.out.text s (by simp) (by omega))
    rw [hl1] at HT1
    clear HW
    go_wp2_with (fail)
    refine HT1.out.mono ?_
    rintro r w9 ⟨rfl, hw⟩
    have hk79 := hw.k
    have HP := Lib.hid (hw.put y HZ7.out.t.at HYS.out (by omega))
    rw [HYO.out, hl2, HYC.out] at HP
    have HZ9 := Lib.hid (HZ7.out.fresh hk79)
    clear hw HT1
    go_wp2_with (refine wpList_load_op rfl _ rfl N rfl _ ys HSY.out HZ9.out.n ?_)
    refine HP.out.mono ?_
    rintro r w10 ⟨rfl, hw⟩
    have HNU := Lib.hid (hw.num 7 (by omega) (by omega))
    rw [hl3] at HNU
    clear hk79 hw HP HZ9
    go_wp2_with (fail)
    refine HNU.out.mono ?_
    rintro r w11 ⟨rfl, hw⟩
    have HW11 := Lib.hid hw
    clear hw HNU
    have HRT := Lib.hid (RWText_any none [] 0 0 s w11 (RBz w11) (by simp) (by omega))
    rw [hl1] at HRT
    go_wp2_with (fail)
    refine HRT.out.mono ?_
    rintro r w12 ⟨A1, c1, rfl, hrb, -, hk⟩
    have HW12 := Lib.hid (HW11.out.fresh hk)
    have HR12 := Lib.hid hrb
    have hk12 := HW12.out.k
    have hM7 := hk12.size
    have hz2 : wrV A1 l1 c1 0 = #[.slice A1 l1.length c1, .int .i64 0] := rfl
    clear hrb hk HW11 HRT
    have hka : Kept (fun _ => False) w12 (w12.alloc (.cells zeroRW 75)) := (Kept.refl _ _).alloc _
    have HBX := Lib.hid (Box.new w12 75 zeroRW)
    have HO1 := Lib.hid (wrV_one A1 l1 c1 0)
    have HS1 := Lib.hid (show (wrV A1 l1 c1 0).size = 2 from rfl)
    obtain ⟨v1, hv1⟩ : ∃ v1, wrV A1 l1 c1 0 = v1 := ⟨_, rfl⟩
    have HV1 := Lib.hid hv1
    rw [hv1] at HO1 HS1 ⊢
    clear hz2 hv1
    go_wp2_with (refine wpList_store_box rfl 75 _ _ rfl w12.heap.size v1 rfl rfl 75 zeroRW HBX.out (by rw [HS1.out]; exact size_RW) HS1.out.symm HO1.out ?_; intro w13 HB13 hk13; refine Hid.out ?_)
    refine Lib.hid ?_
    have hk1213 : Kept (fun _ => False) w12 w13 := hka.trans hk13 fun k hk e => by omega
    have HW13 := Lib.hid (HW12.out.fresh hk1213)
    have HR13 := Lib.hid (HR12.out.fresh hk1213)
    have HZ13 := Lib.hid (HZ7.out.fresh HW13.out.k)
    obtain ⟨M, hM⟩ : ∃ M, w12.heap.size = M := ⟨_, rfl⟩
    rw [hM] at HB13 hM7 ⊢
    clear hk12 hka hk13 hk1213 HBX HO1 HW12 HR12 hM
    go_wp2_with (first | refine wpList_load_RW rfl _ rfl M rfl _ v1 HS1.out HB13.out ?_ | refine wpList_load_op rfl _ rfl w.heap.size rfl _ cs HSX.out HZ13.out.b ?_)
    have hcall := HRP.out A1 l1 c1 w13 HR13.out HZ13.out.xa HSM.out (by omega)
    rw [hl2, show (#[.slice A1 l1.length c1, .int .i64 0] : Array Value) = v1 from HV1.out] at hcall
    refine hcall.mono ?_
    rintro r w14 ⟨A2, c2, rfl, hrb, -, hk⟩
    have HW14 := Lib.hid (HW13.out.fresh hk)
    have HB14 := Lib.hid (HB13.out.kept hk id)
    have HNM := Lib.hid (RWNum_any A2 l2 c2 0 7 w14 hrb (by omega) (by omega))
    rw [show wrB l2 0 7 = l3 from ((layB_num l2 0 7).1).trans hl3, show wrE 0 7 = 0 from (layB_num l2 0 7).2] at HNM
    clear hcall hk hrb HW13 HB13 HR13 HZ13 HRP
    unfold wrV
    go_wp2_with (fail)
    refine HNM.out.mono ?_
    rintro r w15 ⟨A3, c3, rfl, hrb, hlies, hk⟩
    have HA3 := Lib.hid (show ∀ a, A3 = some a → a.block ≠ M from by
      rcases hlies with ⟨-, h⟩ | h
      · exfalso
        have e1 := congrArg List.length h
        have e2 := enc_pos 7
        rw [← hl3] at e1
        unfold layB at e1
        rw [if_neg (by decide), List.length_append] at e1
        omega
      · intro a ha e
        have e1 := h a ha
        have e2 := HB14.out.lt
        omega)
    clear hlies
    have HW15 := Lib.hid (HW14.out.fresh hk)
    have HB15 := Lib.hid (HB14.out.kept hk id)
    have HR15 := Lib.hid hrb.at_
    have HO3 := Lib.hid (wrV_one A3 l3 c3 0)
    have HS3 := Lib.hid (show (wrV A3 l3 c3 0).size = 2 from rfl)
    have HC30 := Lib.hid (wrV_0 A3 l3 c3 0)
    have HC31 := Lib.hid (wrV_1 A3 l3 c3 0)
    obtain ⟨v3, hv3⟩ : ∃ v3, wrV A3 l3 c3 0 = v3 := ⟨_, rfl⟩
    rw [hv3] at HO3 HS3 HC30 HC31 ⊢
    clear hk hrb hv3 HW14 HB14 HNM
    go_wp2_with (refine wpList_store_box rfl 75 _ _ rfl M v3 rfl rfl 75 v1 HB15.out (by rw [HS3.out]; exact size_RW) (by rw [HS1.out, HS3.out]) HO3.out ?_; intro w16 HB16 hk16; refine Hid.out ?_)
    refine Lib.hid ?_
    have HW16 := Lib.hid (HW15.out.other HB15.out (by decide) (by decide) hM7 hk16)
    have HR16 := Lib.hid (HR15.out.kept hk16 fun a ha e => HA3.out a ha e)
    have HZ16 := Lib.hid (HZ7.out.fresh HW16.out.k)
    clear hk16 HW15 HR15 HB15 HA3 HZ7 HO3 HS3 HV1
    go_upto_region 14 with (fail)
    have hkd : Kept (fun _ => False) w16 w16.drew := (Kept.refl _ _).drew
    have HWD := Lib.hid (HW16.out.fresh hkd)
    have HRD := Lib.hid (HR16.out.fresh hkd)
    have HZD := Lib.hid (HZ16.out.fresh hkd)
    have HBD := Lib.hid (HB16.out.kept hkd id)
    clear hkd HW16 HR16 HZ16 HB16
    refine wp_region_held_drew (S := fun Wz => Kept (fun _ => False) w16.drew Wz) (by kernel_rfl) (Kept.refl _ _) fun hS => ?_
    generalize w16.drew = W at HWD HRD HZD HBD hS ⊢
    refine held_takeTo 64 (i := 0) (v := .pointer (some ⟨g, 0, none⟩)) rfl rfl (by kernel_rfl) (by kernel_rfl) (by kernel_rfl) (fun _ _ _ h => h) rfl hS (fun Wz hW => by go_simp) ?_
    simp only [List.setIfInBounds_toArray, List.set_cons_zero, List.set_cons_succ]
    refine held_takeTo 66 (i := 2) (v := .pointer (some ⟨M, 0, none⟩)) rfl rfl (by kernel_rfl) (by kernel_rfl) (by kernel_rfl) (fun _ _ _ h => h) rfl hS (fun Wz hW => by go_simp) ?_
    simp only [List.setIfInBounds_toArray, List.set_cons_zero, List.set_cons_succ]
    refine held_takeTo 67 (i := 3) (v := .slice A3 l3.length c3) rfl rfl (by kernel_rfl) (by kernel_rfl) (by kernel_rfl) (fun _ _ _ h => h) rfl hS (fun Wz hW => by (have h0 := ((HBD.out.kept hW id).cell 0).trans HC30.out; go_simp)) ?_
    simp only [List.setIfInBounds_toArray, List.set_cons_zero, List.set_cons_succ]
    refine held_one (i := 1) (by kernel_rfl) rfl fun K hK => ?_
    go_wp2_with (fail)
    refine (HWD.out.data (by omega)).mono ?_
    rintro r v1 hfb
    obtain ⟨A4, c4, rfl, hb4, hk⟩ := hfb.at
    have hS1 := hS.trans hk fun _ _ e => e
    have HB4 := Lib.hid hb4
    clear hk hfb hb4
    go_wp2_with (fail)
    refine hK.out _ _ hS1 fun _ => ?_
    clear hK K
    refine held_one (i := 4) (by kernel_rfl) rfl fun K hK => ?_
    go_wp2_with (fail)
    refine (Bytes8_any A4 A3 l3 l3 c4 c3 v1 HB4.out (HRD.out.fresh hS1) (by omega)).mono ?_
    rw [decide_eq_true rfl]
    unfold SamePost
    rintro r v2 ⟨rfl, hk⟩
    have hS2 := hS1.trans hk fun _ _ e => e
    clear hk
    go_wp2_with (fail)
    refine hK.out _ _ hS2 fun _ => ?_
    clear hK K
    refine held_one (i := 5) (by kernel_rfl) rfl fun K hK => ?_
    go_wp2_with (fail)
    refine hK.out _ _ hS2 fun _ => ?_
    clear hK K
    refine held_takeG 70 (i := 6) (v := .pointer (some ⟨g, 0, none⟩)) rfl rfl (by kernel_rfl) (by kernel_rfl) (by kernel_rfl) (fun _ _ _ h => h) (by rfl) hS2 (fun Wz hW => by go_simp) ?_
    simp only [List.setIfInBounds_toArray, List.set_cons_zero, List.set_cons_succ]
    refine held_takeG 72 (i := 8) (v := .pointer (some ⟨M, 1, none⟩)) rfl rfl (by kernel_rfl) (by kernel_rfl) (by kernel_rfl) (fun _ _ _ h => h) (by rfl) hS2 (fun Wz hW => by go_simp) ?_
    simp only [List.setIfInBounds_toArray, List.set_cons_zero, List.set_cons_succ]
    refine held_takeG 73 (i := 9) (v := .int .i64 0) rfl rfl (by kernel_rfl) (by kernel_rfl) (by kernel_rfl) (fun _ _ _ h => h) (by rfl) hS2 (fun Wz hW => by (have h0 := ((HBD.out.kept hW id).cell 1).trans HC31.out; go_simp)) ?_
    simp only [List.setIfInBounds_toArray, List.set_cons_zero, List.set_cons_succ]
    refine held_one (i := 7) (by kernel_rfl) rfl fun K hK => ?_
    go_wp2_with (fail)
    refine ((HWD.out.fresh hS2).err).mono ?_
    rintro r v3 ⟨rfl, rfl⟩
    go_wp2_with (fail)
    refine hK.out _ _ hS2 fun _ => ?_
    clear hK K
    refine held_one (i := 10) (by kernel_rfl) rfl fun K hK => ?_
    go_wp2_with (fail)
    refine hK.out _ _ hS2 fun _ => ?_
    clear hK K
    refine held_one (i := 11) (by kernel_rfl) rfl fun K hK => ?_
    go_wp2_with (fail)
    refine hK.out _ _ hS2 fun _ => ?_
    clear hK K
    refine held_one (i := 12) (by kernel_rfl) rfl fun K hK => ?_
    go_wp2_with (fail)
    refine hK.out _ _ hS2 fun _ => ?_
    clear hK K
    refine held_takeG 77 (i := 13) (v := .agg ys) rfl rfl (by kernel_rfl) (by kernel_rfl) (by kernel_rfl) (fun _ _ _ h => h) (by rfl) hS2 (fun Wz hW => run_load_op _ _ rfl N rfl _ ys HSY.out (HZD.out.n.kept hW id)) ?_
    simp only [List.setIfInBounds_toArray, List.set_cons_zero, List.set_cons_succ]
    refine held_takeG 78 (i := 14) (v := .agg cs) rfl rfl (by kernel_rfl) (by kernel_rfl) (by kernel_rfl) (fun _ _ _ h => h) (by rfl) hS2 (fun Wz hW => run_load_op _ _ rfl w.heap.size rfl _ cs HSX.out (HZD.out.b.kept hW id)) ?_
    simp only [List.setIfInBounds_toArray, List.set_cons_zero, List.set_cons_succ]
    refine held_one (i := 15) (by kernel_rfl) rfl fun K hK => ?_
    go_wp2_with (fail)
    refine (HST2.out w.heap.size v2 (HZD.out.fresh hS2).t (HZD.out.fresh hS2).xa).mono ?_
    rintro r v4 ⟨rfl, hk⟩
    have hS4 := hS2.trans hk fun _ _ e => e
    clear hk
    go_wp2_with (fail)
    refine hK.out _ _ hS4 fun _ => ?_
    clear hK K
    refine held_one (i := 16) (by kernel_rfl) rfl fun K hK => ?_
    go_wp2_with (fail)
    refine hK.out _ _ hS4 fun _ => ?_
    clear hK K
    refine held_one (i := 17) (by kernel_rfl) rfl fun K hK => ?_
    go_wp2_with (fail)
    refine hK.out _ _ hS4 fun _ => ?_
    clear hK K
    refine held_one (i := 18) (by kernel_rfl) rfl fun K hK => ?_
    go_wp2_with (fail)
    refine (Known8_any v4).mono ?_
    rintro r v5 ⟨rfl, hk⟩
    have hS5 := hS4.trans hk fun _ _ e => e
    clear hk
    go_wp2_with (fail)
    refine hK.out _ _ hS5 fun _ => ?_
    clear hK K
    refine held_one (i := 19) (by kernel_rfl) rfl fun K hK => ?_
    go_wp2_with (fail)
    refine hK.out _ _ hS5 fun _ => ?_
    clear hK K
    refine held_one (i := 20) (by kernel_rfl) rfl fun K hK => ?_
    go_wp2_with (fail)
    refine hK.out _ _ hS5 fun _ => ?_
    clear hK K
    refine wpAnyH_done (by kernel_rfl) ?_ _
    go_wp2_with (fail)
    go_ret
    exact ⟨rfl, (HZD.out.fresh hS5).k⟩
end Go.Proofs.Ytnlklhlnnoihiaa
