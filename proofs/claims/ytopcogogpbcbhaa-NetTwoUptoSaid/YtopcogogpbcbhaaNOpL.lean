/- Opening an argument that is a network's script. No condition. -/
import Derived.Test.YtopcogogpbcbhaaNOpn
import Derived.Test.YtopcogogpbcbhaaNScr
namespace Go.Proofs.Ytopcogogpbcbhaa
open Go.ChangeShapes Go.WideShapes Go.ChangeAt Go.RowKit Go.Deep

theorem bulk_one {H : Type} (d : DataW H) : 1 ≤ Rows.uptoBulk d := by
  cases d with
  | lit l => cases l <;> simp [Rows.uptoBulk]
  | nil => simp [Rows.uptoBulk]
  | ptr d => simp [Rows.uptoBulk]
  | slice elems spare => simp [Rows.uptoBulk]
  | agg parts => simp [Rows.uptoBulk]
  | iface t d => simp [Rows.uptoBulk]
  | map entries => simp [Rows.uptoBulk]
  | held h => simp [Rows.uptoBulk]
theorem bulk_len {H : Type} (l : List (DataW H)) : l.length ≤ Rows.uptoBulkAll l := by
  induction l with
  | nil => simp [Rows.uptoBulkAll]
  | cons x r ih => have := bulk_one x; simp only [Rows.uptoBulkAll, List.length_cons]; omega
theorem bulk_slice {H : Type} (elems spare : List (DataW H)) : elems.length ≤ Rows.uptoBulk (.slice elems spare) := by
  have h1 := bulk_len elems
  simp only [Rows.uptoBulk]
  omega
theorem bulk_part {H : Type} {d : DataW H} {l : List (DataW H)} (h : d ∈ l) : Rows.uptoBulk d ≤ Rows.uptoBulkAll l := by
  induction l with
  | nil => cases h
  | cons x r ih =>
    simp only [Rows.uptoBulkAll]
    cases List.mem_cons.1 h with
    | inl e => subst e; omega
    | inr e => have := ih e; omega
theorem bulk_app {H : Type} (l r : List (DataW H)) : Rows.uptoBulkAll (l ++ r) = Rows.uptoBulkAll l + Rows.uptoBulkAll r := by
  induction l with
  | nil => simp [Rows.uptoBulkAll]
  | cons x l ih => simp only [List.cons_append, Rows.uptoBulkAll, ih]; omega
/-- What the bound gives of each argument. -/
theorem bulk_of {H : Type} {ds gs : List (DataW H)} (hk : Rows.uptoSmall H (ds ++ gs) = true) : ∀ d ∈ ds, Rows.uptoBulk d ≤ 1048576 := fun d hd => by
  have h : Rows.uptoBulkAll (ds ++ gs) ≤ 1048576 := of_decide_eq_true hk
  rw [bulk_app] at h
  have := bulk_part hd
  omega
theorem add_off (ad : Addr) (k j : Nat) (h : 0 < j) : (⟨(ad.add k).block, (ad.add k).off + j, none⟩ : Addr) = ad.add (k + j) := by
  unfold Addr.add
  rw [if_neg (show ¬ k + j = 0 by omega)]
  split
  · simp_all
  · simp [Nat.add_assoc]
/-- A script as it is handed in. -/
structure ScnAt (w : World) (A : Option Addr) (l : List Stn) : Prop where
  steps : StnsAt w A l
  xs : ∀ x ∈ l, x.Arg w
theorem Stn.Arg.ok {w : World} {x : Stn} (h : x.Arg w) (hl : x.data.length ≤ 60000) : StnOk w x := ⟨h.b, h.by_, fun e => by have := h.none e; have := h.cap; exact List.length_eq_zero_iff.1 (by omega), hl, h.num, h.at_⟩
theorem ScnAt.ok {w : World} {A : Option Addr} {l : List Stn} (h : ScnAt w A l) (hm : muchN l = false) : (∀ x ∈ l, StnOk w x) ∧ l.length ≤ 200 ∧ sizesN l ≤ 60000 := by
  unfold muchN at hm
  simp only [Bool.or_eq_false_iff, decide_eq_false_iff_not, Nat.not_lt] at hm
  refine ⟨fun x hx => (h.xs x hx).ok ?_, hm.1.1, hm.2⟩
  have := hm.1.2
  rw [List.any_eq_false] at this
  simpa using this x hx
section
variable {H : Type} {enc : TypeId × Value → H} {w : World} {base : Nat} {spare : Nat → Bool} {held : Bool}
set_option maxRecDepth 100000 in
theorem open_stns {b0 : Nat} {r : Reach} {v : Value} {d : DataW H} {p : List MemPlace}
    (hv : Value.okWide Try.prog w r b0 22 v) (h : DataW.Trod enc Try.prog w base spare held 22 v d p) :
    ∃ (A : Option Addr) (c : Nat) (l : List Stn), v = .slice A l.length c ∧ ScnAt w A l ∧ l.length ≤ Rows.uptoBulk d := by
  obtain ⟨a0, len0, cap0, rfl⟩ := okWide_slice Try.underlying22 hv
  obtain ⟨fuel, hf⟩ := h
  rcases open_slice Try.underlying22 hf with ⟨hc, _⟩ | ⟨a, len, cap, m, n, D, Pl, hc, hb, hl, hm, hmm, hx, hi⟩
  · simp only [Value.cells] at hc
    injection hc with hc _
    injection hc with e1 e2 e3
    subst e1 e2 e3
    exact ⟨none, 0, [], rfl, ⟨fun k h => absurd h (by simp), fun s hs => absurd hs (by simp)⟩, Nat.zero_le _⟩
  · simp only [Value.cells] at hc
    injection hc with hc _
    injection hc with e1 e2 e3
    subst e1 e2 e3
    have hlm : len0 ≤ m := by rw [hmm]; split <;> omega
    have hC : Try.prog.cellsOf 32 = 6 := by kernel_rfl
    obtain ⟨l, hll, hp⟩ := list_of (fun i (s : Stn) => (w.cell? (a.add (i * 6)) = some (.int .i64 s.kind) ∧ w.rangeAt (a.add (i * 6)).block (a.add (i * 6)).off s.cs.toList) ∧ s.Arg w) len0 fun i hil => by
      obtain ⟨cs', hcs, ht⟩ := hi i (by omega)
      rw [hC] at hcs
      obtain ⟨_, hcl, hat⟩ := World.cells?_some hcs
      obtain ⟨s, rfl, h1⟩ := trod_stn ht
      have hat' : ∀ j, j < 6 → w.cell? (a.add (i * 6 + j)) = s.cs.toList[j]? := fun j hj => by rw [← Go.Deep.add_add]; exact hat j hj
      have h0 : w.cell? (a.add (i * 6)) = some (.int .i64 s.kind) := hat' 0 (by omega)
      refine ⟨s, ⟨h0, fun j v hj => ?_⟩, h1⟩
      have hj' : j < 6 := by
        have := (List.getElem?_eq_some_iff.1 hj).1
        rwa [Array.length_toList, Stn.cs_size] at this
      by_cases hj0 : j = 0
      · subst hj0
        rw [show (⟨(a.add (i * 6)).block, (a.add (i * 6)).off + 0, none⟩ : Addr) = a.add (i * 6) from (cell_spot h0).symm, h0, ← hj]
        rfl
      · rw [add_off a _ j (by omega), hat' j hj', hj]
    refine ⟨some a, cap0, l, by rw [hll], ⟨fun k h => ⟨a, rfl, (hp k h).1⟩, fun s hs => ?_⟩, by injection hx with hx1 _; rw [hx1, hll]; refine Nat.le_trans ?_ (bulk_slice _ _); simp⟩
    obtain ⟨k, hk, rfl⟩ := List.getElem_of_mem hs
    exact (hp k hk).2
end
end Go.Proofs.Ytopcogogpbcbhaa
