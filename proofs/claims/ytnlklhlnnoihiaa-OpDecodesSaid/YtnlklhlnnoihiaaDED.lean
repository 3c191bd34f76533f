/- A guarded operation whose guard is met. No condition. · Encode and Decode in a form that laws use; bytes of one operation are no beginning of another's. Conditions: what is handed in lies in memory. · What is taken without an error was laid so: the converse of there and back. No program in sight but for the words. -/
import Derived.Test.YtnlklhlnnoihiaaMO39
namespace Go.Proofs.Ytnlklhlnnoihiaa
open Go Go.RowKit

theorem wpList_unguard {P : Program} {ops : Array Oper} {Q : Exit → Act → World → Prop} {a : Act} {w : World} {rest : List Oper} {o : Oper} (hw : Region.wanted o (yielded ops a.tmps) = true) (h : wpList P ops Q ({ o with guard := none } :: rest) a w) : wpList P ops Q (o :: rest) a w := by
  unfold wpList at h ⊢
  rw [if_pos hw]
  rw [if_pos (by rfl)] at h
  exact h
end Go.Proofs.Ytnlklhlnnoihiaa

namespace Go.Proofs.Ytnlklhlnnoihiaa
open Go Go.RowKit

def encL (o : Opr) : List Int := if okOp o = true then encOp o else []
theorem encL_ok {o : Opr} (h : okOp o = true) : encL o = encOp o := if_pos h
theorem encL_no {o : Opr} (h : okOp o = false) : encL o = [] := if_neg (by rw [h]; decide)
theorem opE_ok {o : Opr} (h : okOp o = true) : opE o = 0 := if_pos h
theorem opE_no {o : Opr} (h : okOp o = false) : opE o = 10 := if_neg (by rw [h]; decide)
/-- Bytes in memory. -/
structure BsAt (w : World) (A : Option Addr) (l : List Int) : Prop where
  b : BytesAt w A l
  n : A = none → l = []
  lt : ∀ a, A = some a → a.block < w.heap.size
theorem BsAt.fresh {w w' : World} {A : Option Addr} {l : List Int} (h : BsAt w A l) (hk : Kept (fun _ => False) w w') : BsAt w' A l := ⟨h.b.fresh hk, h.n, fun a ha => Nat.lt_of_lt_of_le (h.lt a ha) hk.size⟩
theorem BsAt.of_own {w : World} {base c : Nat} {A : Option Addr} {l : List Int} (h : w.ownsRow base 5 1 (.slice A l.length c) l.length (bys l)) : BsAt w A l := by
  refine ⟨BytesAt.of_own h, fun e => ?_, fun a ha => ?_⟩
  · subst e
    rcases h.2 with ⟨_, h'⟩ | ⟨g, cap, cur, h', -⟩
    · exact List.eq_nil_of_length_eq_zero h'
    · injection h' with h'; cases h'
  · subst ha
    exact (h.lt a.block rfl).2
theorem BsAt.none (w : World) : BsAt w none [] := ⟨fun k hk => absurd hk (by simp), fun _ => rfl, fun a ha => by cases ha⟩
theorem encOp_byte (o : Opr) : isByte (encOp o) := by
  unfold encOp encT
  refine isByte_app (encs_byte _) (isByte_app (encs_byte _) ?_)
  split
  · exact isByte_app (encs_byte _) (isByte_app (enc_byte _) (tb_byte _))
  split
  · exact encs_byte _
  split
  · exact encs_byte _
  · intro b hb; cases hb
theorem encOp_pos (o : Opr) : 0 < (encOp o).length := by
  unfold encOp encs
  have := enc_pos o.kind.toNat
  simp only [List.flatMap_cons, List.length_append]
  omega
def EncS (w : World) (o : Opr) (r : Ending) (w' : World) : Prop := ∃ A c, r = .returned (.tuple #[.slice A (encL o).length c, .int .i64 (opE o)]) ∧ BsAt w' A (encL o) ∧ w'.ownsRow w.heap.size 5 1 (.slice A (encL o).length c) (encL o).length (bys (encL o)) ∧ Kept (fun _ => False) w w'
theorem EncS_any (x : Lop) (w : World) (hx : x.At w) (hs : x.o.Small) : Calls Try.prog 33 #[.agg x.c] w (EncS w x.o) := by
  refine (OpEncode_any x w hx hs).mono fun r w' h => ?_
  unfold EncPost at h
  cases hok : okOp x.o with
  | true =>
    rw [if_pos hok] at h
    obtain ⟨A, c, rfl, ho, hk⟩ := h
    unfold EncS
    rw [encL_ok hok, opE_ok hok]
    exact ⟨A, c, rfl, BsAt.of_own ho, ho, hk⟩
  | false =>
    rw [if_neg (by rw [hok]; decide)] at h
    obtain ⟨rfl, hk⟩ := h
    unfold EncS
    rw [encL_no hok, opE_no hok]
    exact ⟨none, 0, rfl, BsAt.none _, World.ownsRow_nil _ _ _ _, hk⟩
def DecS (w : World) (x : Int × Opr) (r : Ending) (w' : World) : Prop := ∃ (y : Lop) (gc : Nat), r = .returned (.tuple #[.agg y.c, .int .i64 x.1]) ∧ y.o = x.2 ∧ y.At w' ∧ y.gc = y.o.gone.length ∧ w'.ownsRow w.heap.size 23 2 y.dV y.o.deps.length (dots y.o.deps) ∧ w'.ownsRow w.heap.size 32 3 (.slice y.gA y.o.gone.length gc) y.o.gone.length (runs y.o.gone) ∧ Kept (fun _ => False) w w'
theorem DecS_any (A : Option Addr) (b : List Int) (c : Nat) (w : World) (hb : BsAt w A b) (hlen : b.length ≤ 100000000) (hby : isByte b) (hsm : (takeR ⟨b, 0⟩).1 = 0 → (takeR ⟨b, 0⟩).2.1.Small) :
    Calls Try.prog 20 #[.slice A b.length c] w (DecS w (decO b)) := by
  refine (OpDecode_any A b c w hb.b hb.n hlen hby hsm).mono fun r w' h => ?_
  obtain ⟨dA, dc, gA, gc, rfl, hd, hg, hk⟩ := h
  exact ⟨⟨(decO b).2, dA, dc, gA, (decO b).2.gone.length⟩, gc, rfl, rfl, ⟨DotsAt.of_own hd, RunsAt.of_own hg⟩, rfl, hd, hg, hk⟩
theorem DecS_enc (x : Opr) (A : Option Addr) (c : Nat) (w : World) (hb : BsAt w A (encL x)) (hok : okOp x = true) (hs : x.Small) : Calls Try.prog 20 #[.slice A (encL x).length c] w (DecS w (0, x)) := by
  have h := takeR_enc hok hs []
  rw [List.append_nil] at h
  rw [encL_ok hok] at hb ⊢
  have := DecS_any A (encOp x) c w hb (Nat.le_trans (encOp_len x hok hs) (by decide)) (encOp_byte x) (fun _ => by rw [h]; exact hs)
  rwa [decO_enc hok hs] at this
theorem enc_begins {x y : Opr} (hx : okOp x = true) (hy : okOp y = true) (sx : x.Small) (sy : y.Small) {t : List Int} (h : encOp y = encOp x ++ t) : x = y := by
  have h1 := takeR_enc hx sx t
  have h2 := takeR_enc hy sy []
  rw [List.append_nil, h, h1] at h2
  injection h2 with _ h2
  injection h2 with h2 _
theorem enc_take {x y : Opr} (hx : okOp x = true) (hy : okOp y = true) (sx : x.Small) (sy : y.Small) {n : Nat} (hn : n = min (encOp x).length (encOp y).length) (h : (encOp x).take n = (encOp y).take n) : x = y := by
  rcases Nat.le_total (encOp x).length (encOp y).length with hl | hl
  · rw [Nat.min_eq_left hl] at hn
    subst hn
    rw [List.take_length] at h
    exact enc_begins hx hy sx sy (t := (encOp y).drop (encOp x).length) (by conv => lhs; rw [← List.take_append_drop (encOp x).length (encOp y), ← h])
  · rw [Nat.min_eq_right hl] at hn
    subst hn
    rw [List.take_length] at h
    exact (enc_begins hy hx sy sx (t := (encOp x).drop (encOp y).length) (by conv => lhs; rw [← List.take_append_drop (encOp y).length (encOp x), h])).symm
end Go.Proofs.Ytnlklhlnnoihiaa

namespace Go.Proofs.Ytnlklhlnnoihiaa
open Go Go.RowKit

theorem take_bd (l : List Int) : ∀ (n acc v k : Nat), isByte l → n ≤ 8 → acc < 128 ^ n → takeFrom n acc l = (0, v, k) → v < 128 ^ 9 := by
  induction l with
  | nil => intro n acc v k _ _ _ h; rw [take_nil] at h; injection h with h; cases h
  | cons c t ih =>
    intro n acc v k hb hn ha h
    obtain ⟨hc0, hc1⟩ := hb c (by simp)
    have hbt : isByte t := fun x hx => hb x (by simp [hx])
    have hp : 128 ^ (n + 1) = 128 ^ n * 128 := Nat.pow_succ ..
    by_cases h1 : 128 ≤ c
    · by_cases h8 : n = 8
      · subst h8; rw [take_long h1] at h; injection h with h; cases h
      · rw [take_more' h1 h8] at h
        refine ih _ _ _ _ hbt (by omega) ?_ h
        have hle : (c - 128).toNat * 128 ^ n ≤ 127 * 128 ^ n := Nat.mul_le_mul_right _ (by omega)
        omega
    · by_cases h0 : c = 0 ∧ 0 < n
      · obtain ⟨rfl, hn⟩ := h0
        rw [take_zero hn] at h; injection h with h; cases h
      · rw [take_end h1 h0] at h
        injection h with _ h
        injection h with hv hk
        subst hv
        have hle : c.toNat * 128 ^ n ≤ 127 * 128 ^ n := Nat.mul_le_mul_right _ (by omega)
        have hm : 128 ^ (n + 1) ≤ 128 ^ 9 := Nat.pow_le_pow_right (by decide) (by omega)
        omega
theorem Rd.nx_ok {s : Rd} (h : s.nx.e = 0) : s.e = 0 := by
  by_cases he : s.e = 0
  · exact he
  · rw [(Rd.stop he).2] at h; exact absurd h he
theorem Rd.nt_ok {s : Rd} (h : s.nt.e = 0) : s.e = 0 := by
  by_cases he : s.e = 0
  · exact he
  · rw [Rd.stopT he] at h; exact absurd h he
theorem Rd.val_bd (s : Rd) (hb : isByte s.l) (hn : s.nx.e = 0) : s.val ≤ 9223372036854775807 := by
  have he := Rd.nx_ok hn
  obtain ⟨l, e⟩ := s
  simp only at hb he
  subst he
  rcases ht : takeFrom 0 0 l with ⟨er, v, k⟩
  have h1 : (⟨l, 0⟩ : Rd).val = v := by simp [Rd.val, ht]
  have h2 : (⟨l, 0⟩ : Rd).nx = ⟨l.drop k, er⟩ := by simp [Rd.nx, ht]
  rw [h2] at hn
  simp only at hn
  subst hn
  have := take_bd l 0 0 v k hb (by decide) (by decide) ht
  rw [h1]
  have e : (128 : Nat) ^ 9 = 9223372036854775808 := by decide
  omega
theorem Rd.step {s : Rd} (hb : isByte s.l) (hn : s.nx.e = 0) : s.l = enc s.val ++ s.nx.l ∧ isByte s.nx.l ∧ s.val ≤ 9223372036854775807 :=
  ⟨(Rd.inv hb (Rd.nx_ok hn) hn).1, (Rd.inv hb (Rd.nx_ok hn) hn).2, Rd.val_bd s hb hn⟩
theorem tb_strOf {xs : List Int} (h : isByte xs) : tb (strOfNums xs) = xs := by
  unfold tb
  rw [strOfNums_data, List.map_map]
  conv => rhs; rw [← List.map_id xs]
  apply List.map_congr_left
  intro x hx
  obtain ⟨h0, h1⟩ := h x hx
  have : (UInt8.ofNat x.toNat).toNat = x.toNat := by
    rw [UInt8.toNat_ofNat']
    omega
  show ((UInt8.ofNat x.toNat).toNat : Int) = x
  rw [this]
  omega
theorem Rd.inv_text {s : Rd} (hb : isByte s.l) (hn : s.nt.e = 0) : s.l = enc s.txt.size ++ tb s.txt ++ s.nt.l ∧ isByte s.nt.l ∧ s.txt.size ≤ s.l.length := by
  have he := Rd.nt_ok hn
  unfold Rd.nt at hn ⊢
  rw [if_neg (fun e => e he)] at hn ⊢
  by_cases h1 : s.nx.e = 0
  · rw [if_neg (fun e => e h1)] at hn ⊢
    obtain ⟨i1, i2, -⟩ := Rd.step hb h1
    by_cases h2 : s.val ≤ s.nx.l.length
    · rw [if_pos h2] at hn ⊢
      have ht : s.txt = strOfNums (s.nx.l.take s.val) := by unfold Rd.txt; rw [if_pos ⟨he, h1, h2⟩]
      have hbt : isByte (s.nx.l.take s.val) := fun b hb => i2 b (List.mem_of_mem_take hb)
      have hs : s.txt.size = s.val := by rw [ht, strOfNums_size, List.length_take]; omega
      refine ⟨?_, fun b hb => i2 b (List.mem_of_mem_drop hb), ?_⟩
      · rw [hs, ht, tb_strOf hbt, List.append_assoc, List.take_append_drop]
        exact i1
      · rw [hs, i1, List.length_append]
        omega
    · rw [if_neg h2] at hn; cases hn
  · rw [if_pos h1] at hn
    exact absurd hn h1
theorem takeRuns_inv : ∀ (k : Nat) (acc : List Rn) (s : Rd), isByte s.l → (takeRuns k acc s).2.e = 0 → ∃ U, (takeRuns k acc s).1 = acc ++ U ∧ U.length = k ∧ s.l = encs (goneNums U) ++ (takeRuns k acc s).2.l ∧ isByte (takeRuns k acc s).2.l ∧ ∀ r ∈ U, inI r.count
  | 0, acc, s, hb, _ => ⟨[], by simp [takeRuns], rfl, by simp [takeRuns, goneNums, encs], hb, fun r hr => absurd hr (by simp)⟩
  | k + 1, acc, s, hb, h => by
    unfold takeRuns at h ⊢
    by_cases h3 : s.nx.nx.nx.e = 0
    · rw [if_neg (fun e => e h3)] at h ⊢
      have h2 := Rd.nx_ok h3
      have h1 := Rd.nx_ok h2
      obtain ⟨i1, b1, v1⟩ := Rd.step hb h1
      obtain ⟨i2, b2, v2⟩ := Rd.step b1 h2
      obtain ⟨i3, b3, v3⟩ := Rd.step b2 h3
      obtain ⟨U, e1, e2, e3, e4, e5⟩ := takeRuns_inv k _ _ b3 h
      refine ⟨⟨⟨s.val, s.nx.val⟩, s.nx.nx.val⟩ :: U, ?_, by simp [e2], ?_, e4, fun r hr => ?_⟩
      · rw [e1]; simp
      · rw [i1, i2, i3, e3]
        simp [goneNums, encs]
      · rcases List.mem_cons.1 hr with rfl | hr
        · unfold inI
          simp only
          omega
        · exact e5 r hr
    · rw [if_pos h3] at h
      exact absurd h h3
theorem intoV_inv {o o' : Opr} {s s' : Rd} (hb : isByte s.l) (hs : s.e = 0) (_hk : 1 ≤ o.kind ∧ o.kind ≤ 4) (hg : o.gone = []) (ht : o.text.size = 0) (h : intoV o s = (0, o', s')) (hl : s.l.length ≤ 1000000) :
    s.l = encT o' ++ s'.l ∧ isByte s'.l ∧ s'.e = 0 ∧ o'.kind = o.kind ∧ o'.dot = o.dot ∧ o'.deps = o.deps ∧ (∀ r ∈ o'.gone, inI r.count) ∧ o'.gone.length ≤ 1024 ∧ o'.text.size ≤ 1000000 := by
  unfold intoV at h
  by_cases k1 : o.kind = 1
  · rw [if_pos k1] at h
    injection h with h0 h
    injection h with ho hs'
    subst ho hs'
    have h4 := Rd.nt_ok h0
    have h3 := Rd.nx_ok h4
    have h2 := Rd.nx_ok h3
    obtain ⟨i1, b1, v1⟩ := Rd.step hb h2
    obtain ⟨i2, b2, v2⟩ := Rd.step b1 h3
    obtain ⟨i3, b3, v3⟩ := Rd.step b2 h4
    obtain ⟨i4, b4, v4⟩ := Rd.inv_text b3 h0
    refine ⟨?_, b4, h0, rfl, rfl, rfl, by rw [hg]; simp, by rw [hg]; simp, ?_⟩
    · unfold encT
      rw [if_pos k1]
      simp only [Int.toNat_natCast]
      conv => lhs; rw [i1, i2, i3, i4]
      simp [encs]
    · have : s.nx.nx.nx.l.length ≤ s.l.length := by
        rw [i1, i2, i3]
        simp only [List.length_append]
        omega
      show s.nx.nx.nx.txt.size ≤ _
      omega
  rw [if_neg k1] at h
  by_cases k2 : o.kind = 2
  · rw [if_pos k2] at h
    injection h with h0 h
    injection h with ho hs'
    subst ho hs'
    unfold intoR at h0 ⊢
    by_cases h1 : s.nx.e = 0
    · rw [if_neg (fun e => e h1)] at h0 ⊢
      by_cases h2 : 1024 < s.val
      · rw [if_pos h2] at h0; cases h0
      · rw [if_neg h2] at h0 ⊢
        obtain ⟨i1, b1, v1⟩ := Rd.step hb h1
        obtain ⟨U, e1, e2, e3, e4, e5⟩ := takeRuns_inv _ _ _ b1 h0
        simp only [List.nil_append] at e1
        simp only [e1]
        refine ⟨?_, e4, h0, trivial, trivial, trivial, e5, by omega, by omega⟩
        unfold encT
        simp only [if_neg k1, if_pos k2]
        rw [e2]
        conv => lhs; rw [i1, e3]
        simp [encs]
    · rw [if_pos h1] at h0
      exact absurd h0 h1
  rw [if_neg k2] at h
  by_cases k3 : o.kind = 3
  · rw [if_pos k3] at h
    injection h with h0 h
    injection h with ho hs'
    subst ho hs'
    obtain ⟨i1, b1, v1⟩ := Rd.step hb h0
    refine ⟨?_, b1, h0, rfl, rfl, rfl, by rw [hg]; simp, by rw [hg]; simp, by show o.text.size ≤ _; omega⟩
    unfold encT
    simp only [if_neg k1, if_neg k2, if_pos k3, Int.toNat_natCast, encs_one]
    exact i1
  · rw [if_neg k3] at h
    injection h with h0 h
    injection h with ho hs'
    subst ho hs'
    refine ⟨?_, hb, hs, rfl, rfl, rfl, by rw [hg]; simp, by rw [hg]; simp, by omega⟩
    unfold encT
    rw [if_neg k1, if_neg k2, if_neg k3]
    rfl
theorem takeR_inv {b : List Int} {o : Opr} {s : Rd} (hb : isByte b) (hl : b.length ≤ 1000000) (h : takeR ⟨b, 0⟩ = (0, o, s)) : b = encOp o ++ s.l ∧ isByte s.l ∧ s.e = 0 ∧ o.Small := by
  unfold takeR at h
  by_cases h1 : (⟨b, 0⟩ : Rd).nx.e = 0
  · rw [if_neg (fun e => e h1)] at h
    by_cases h2 : (⟨b, 0⟩ : Rd).val < 1 ∨ 4 < (⟨b, 0⟩ : Rd).val
    · rw [if_pos h2] at h; injection h with h; cases h
    rw [if_neg h2] at h
    by_cases h3 : (⟨b, 0⟩ : Rd).nx.nx.nx.e = 0
    · rw [if_neg (fun e => e h3)] at h
      have h4 := Rd.nx_ok h3
      obtain ⟨i1, b1, v1⟩ := Rd.step (s := ⟨b, 0⟩) hb h1
      obtain ⟨i2, b2, v2⟩ := Rd.step b1 h4
      obtain ⟨i3, b3, v3⟩ := Rd.step b2 h3
      generalize hs3 : (⟨b, 0⟩ : Rd).nx.nx.nx = s3 at *
      obtain ⟨l3, e3⟩ := s3
      simp only at h3 b3 i3
      subst h3
      by_cases h5 : (takeV ⟨l3, 0⟩).1 = 0
      · rw [if_neg (fun e => e h5)] at h
        rcases hv : takeV ⟨l3, 0⟩ with ⟨er, V, s4⟩
        rw [hv] at h h5
        simp only at h h5
        subst h5
        obtain ⟨j1, j2, j3, j4⟩ := takeV_inv b3 hv
        have hb4 : isByte s4.l := fun x hx => b3 x (by rw [j1]; exact List.mem_append_right _ hx)
        have hl3 : l3.length ≤ b.length := by
          have e0 : b = (⟨b, 0⟩ : Rd).l := rfl
          rw [e0, i1, i2, i3]
          simp only [List.length_append]
          omega
        have hl4 : s4.l.length ≤ 1000000 := by
          have : s4.l.length ≤ l3.length := by rw [j1, List.length_append]; omega
          omega
        obtain ⟨k1, k2, k3, k4, k5, k6, k7, k8, k9⟩ := intoV_inv hb4 j2 (by simp only; omega) rfl rfl h hl4
        refine ⟨?_, k2, k3, ⟨k7, by rw [k6]; exact Nat.le_trans j4 (by decide), by omega, k9⟩⟩
        unfold encOp
        rw [k4, k5, k6]
        simp only [Int.toNat_natCast]
        have e0 : b = (⟨b, 0⟩ : Rd).l := rfl
        conv => lhs; rw [e0, i1, i2, i3, j1, k1]
        simp [encs]
      · rw [if_pos h5] at h
        injection h with h
        exact absurd h h5
    · rw [if_pos h3] at h
      injection h with h
      exact absurd h h3
  · rw [if_pos h1] at h
    injection h with h
    exact absurd h h1
theorem takeR_small {b : List Int} (hb : isByte b) (hl : b.length ≤ 1000000) (h : (takeR ⟨b, 0⟩).1 = 0) : (takeR ⟨b, 0⟩).2.1.Small := by
  rcases hr : takeR ⟨b, 0⟩ with ⟨er, o, s⟩
  rw [hr] at h
  simp only at h
  subst h
  exact (takeR_inv hb hl hr).2.2.2
theorem decO_inv {b : List Int} {o : Opr} (hb : isByte b) (hl : b.length ≤ 1000000) (h : decO b = (0, o)) : b = encOp o ∧ okOp o = true ∧ o.Small := by
  unfold decO takeO at h
  rcases hr : takeR ⟨b, 0⟩ with ⟨er, o', s⟩
  rw [hr] at h
  simp only at h
  by_cases he : er = 0
  · subst he
    simp only [ne_eq, not_true_eq_false, if_false] at h
    by_cases hok : okOp o' = true
    · simp only [if_pos hok, not_true_eq_false, if_false] at h
      obtain ⟨h1, h2, h3, h4⟩ := takeR_inv hb hl hr
      by_cases hz : 0 < s.l.length
      · rw [if_pos hz] at h; injection h with h; cases h
      · rw [if_neg hz] at h
        injection h with _ h
        subst h
        have : s.l = [] := List.eq_nil_of_length_eq_zero (by omega)
        rw [this, List.append_nil] at h1
        exact ⟨h1, hok, h4⟩
    · simp only [if_neg hok] at h
      rw [if_pos (by decide)] at h
      injection h with h
      cases h
  · simp only [if_pos he] at h
    injection h with h
    exact absurd h he
end Go.Proofs.Ytnlklhlnnoihiaa
