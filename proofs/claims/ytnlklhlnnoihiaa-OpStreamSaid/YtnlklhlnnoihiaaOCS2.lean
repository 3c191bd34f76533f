/- Opening an argument that is a list of operations. No condition. · The row's last step for a law: it returns true, and below the old heap's end nothing has turned: so each argument reads as it did. No condition. · OpStream returns true for any list of operations, and leaves what was there as it was. No condition. -/
import Derived.Test.YtnlklhlnnoihiaaMO12
import Derived.Test.YtnlklhlnnoihiaaOCS1
import Derived.Test.YtnlklhlnnoihiaaRows
import Derived.Test.YtnlklhlnnoihiaaMO1
import Derived.ProofKit
import Derived.OpenShut
namespace Go.Proofs.Ytnlklhlnnoihiaa
open Go.ChangeShapes Go.WideShapes Go.ChangeAt Go.RowKit Go.Deep

section
variable {H : Type} {enc : TypeId × Value → H} {w : World} {base : Nat} {spare : Nat → Bool} {held : Bool}
set_option maxRecDepth 100000 in
theorem open_ops {b0 : Nat} {r : Reach} {v : Value} {d : DataW H} {p : List MemPlace}
    (hv : Value.okWide Try.prog w r b0 81 v) (h : DataW.Trod enc Try.prog w base spare held 81 v d p) :
    ∃ (A : Option Addr) (c : Nat) (l : List Lop), v = .slice A l.length c ∧ OpsAt w A l := by
  obtain ⟨a0, len0, cap0, rfl⟩ := okWide_slice Try.underlying81 hv
  obtain ⟨fuel, hf⟩ := h
  rcases open_slice Try.underlying81 hf with ⟨hc, _⟩ | ⟨a, len, cap, m, n, D, Pl, hc, hb, hl, hm, hmm, hx, hi⟩
  · simp only [Value.cells] at hc
    injection hc with hc _
    injection hc with e1 e2 e3
    subst e1 e2 e3
    exact ⟨none, 0, [], rfl, ⟨fun k h => absurd h (by simp), fun s hs => absurd hs (by simp)⟩⟩
  · simp only [Value.cells] at hc
    injection hc with hc _
    injection hc with e1 e2 e3
    subst e1 e2 e3
    have hlm : len0 ≤ m := by rw [hmm]; split <;> omega
    have hC : Try.prog.cellsOf 30 = 11 := by kernel_rfl
    obtain ⟨l, hll, hp⟩ := list_of (fun i (x : Lop) => (w.cell? (a.add (i * 11)) = some (.int .i64 x.o.dot.site) ∧ w.rangeAt (a.add (i * 11)).block (a.add (i * 11)).off x.c.toList) ∧ x.At w ∧ (∀ r ∈ x.o.gone, inI r.count)) len0 fun i hil => by
      obtain ⟨cs', hcs, ht⟩ := hi i (by omega)
      rw [hC] at hcs
      obtain ⟨_, hcl, hat⟩ := World.cells?_some hcs
      obtain ⟨x, rfl, hx⟩ := trod_op ht
      have hat' : ∀ j, j < 11 → w.cell? (a.add (i * 11 + j)) = x.c.toList[j]? := fun j hj => by rw [← Go.Deep.add_add]; exact hat j hj
      have h0 : w.cell? (a.add (i * 11)) = some (.int .i64 x.o.dot.site) := hat' 0 (by omega)
      refine ⟨x, ⟨h0, fun j v hj => ?_⟩, hx.at_, hx.counts⟩
      have hj' : j < 11 := by
        have := (List.getElem?_eq_some_iff.1 hj).1
        rwa [Array.length_toList, Lop.c_size] at this
      rw [← hj, ← hat' j hj']
      rcases Nat.eq_zero_or_pos j with rfl | hp
      · rw [Nat.add_zero, Nat.add_zero]
        congr 1
        exact (cell_none h0).symm
      · rw [add_off a _ j hp]
    exact ⟨some a, cap0, l, by rw [hll], ⟨fun k h => ⟨a, rfl, (hp k h).1⟩, fun x hx => by
      obtain ⟨k, hk, rfl⟩ := List.getElem_of_mem hx
      exact (hp k hk).2⟩⟩
end
end Go.Proofs.Ytnlklhlnnoihiaa

namespace Go.Proofs.Ytnlklhlnnoihiaa
open Go.ChangeShapes Go.WideShapes Go.ChangeAt Go.RowKit

theorem own : ownKnob Try.prog.godebug = none := by kernel_rfl
theorem laidOut : laidOutB Try.prog = true := by kernel_rfl

section
variable {H : Type} {enc : TypeId × Value → H} {P : Program}
theorem trodAll_below (hl : laidOutB P = true) {W W' : World} (hb : Below W.heap.size W W') : ∀ (ts : List TypeId) (vs : List Value) (ds : List (DataW H)) (ps : List MemPlace),
    (∀ t ∈ ts, P.readableRec t = true ∧ t < P.types.size) → DataW.TrodAll enc P W 0 (fun _ => true) true ts vs ds ps → (∀ x ∈ ps, x.block < W.heap.size) →
    DataW.TrodAll enc P W' 0 (fun b => decide (b < W.heap.size)) true ts vs ds ps
  | [], vs, ds, ps, _, h, _ => by cases vs <;> cases ds <;> simp_all [DataW.TrodAll]
  | t :: ts, vs, ds, ps, hall, h, hlt => by
    obtain ⟨v, vs', d, ds', p, q, rfl, rfl, rfl, h0, h1⟩ := trodAll_cons h
    have ht := hall t (by simp)
    exact trodAll_cons_mk (Below.trod hl ht.1 ht.2 h0 hb fun x hx => hlt x (by simp [hx])) (trodAll_below hl hb ts vs' ds' q (fun t ht => hall t (by simp [ht])) h1 fun x hx => hlt x (by simp [hx]))

theorem law_post {f : Func} {s : ChangeSpec} {W W' : World} {args : Array Value} {ds gs : List (DataW H)} {before : List MemPlace} {tb : TypeId}
    (hW : DataW.Whole enc P f.params.toList s.vars false W args.toList ds gs before) (hvars : s.vars = []) (hl : laidOutB P = true) (hall : f.params.toList.all (fun t => P.readableRec t && decide (t < P.types.size)) = true)
    (hrt : f.resultTypes = #[tb]) (htb : P.underlying tb = some .bool) (hsp : s.fn H ds = { results := [.lit (.bool true)], args := ds }) (hb : Below W.heap.size W W') : s.post enc P f false true false false W args (.bool true) W' := by
  have hlt : ∀ p ∈ before, p.block < W.heap.size := fun p hp => hW.lt p hp
  have hW' := hW
  obtain ⟨p, q, hA, hV, rfl, _, _⟩ := hW
  rw [hvars] at hV
  obtain ⟨rfl, rfl⟩ := trodVars_none hV
  have hall' : ∀ t ∈ f.params.toList, P.readableRec t = true ∧ t < P.types.size := fun t ht => by
    have := List.all_eq_true.1 hall t ht
    simpa using this
  refine ⟨ds, [], p ++ [], [], p, [], hW', ?_, ?_, ?_, hb.frame _, fun h => by cases h⟩
  · rw [List.append_nil, hsp, hrt]
    exact trodAll_cons_mk (shut_bool htb true) trodAll_mk0
  · rw [List.append_nil, hsp]
    exact trodAll_below hl hb _ _ _ _ hall' hA fun x hx => hlt x (by simp [hx])
  · rw [List.append_nil, hsp, hvars]
    rfl
end
end Go.Proofs.Ytnlklhlnnoihiaa

namespace Go.Proofs.Ytnlklhlnnoihiaa.opStream
open Go.ChangeShapes Go.WideShapes Go.ChangeAt Go.RowKit
open Go.ChangeMaps (open_string)

set_option maxRecDepth 100000 in
theorem lifted (os : Os) (started : os.Started) (H : Type) (enc : TypeId × Value → H) :
    ReturnsInHanded {} Try.checked os 11 .any (Rows.opStreamSpec.pre6 enc Try.prog Try.f11 Rows.opStreamRow.domain false) (Rows.opStreamSpec.post enc Try.prog Try.f11 false true false false) := by
  refine returnsInHanded_of_change (C := Try.checked) own started (by kernel_rfl) Try.func11
    (ChangeSpec.witness6 (enc := enc) (C := Try.checked) false ⟨#[], #[.slice none 0 0], []⟩ 8 (by kernel_rfl) (by kernel_rfl) (by kernel_rfl) (by kernel_rfl)) ?_
  intro W base args ds gs before hval0 hW _ _
  have hval : ∀ (j : Nat) t v, Try.f11.params[j]? = some t → args[j]? = some v → Value.okWide Try.prog W .any base t v := hval0
  have hW' := hW
  obtain ⟨p, q, hA0, hV, rfl, hfz, hnd⟩ := hW
  have hA : DataW.TrodAll enc Try.prog W 0 (fun _ => true) true Try.f11.params.toList args.toList ds p := hA0
  rw [Try.params11] at hA hval
  obtain ⟨v0, vs0, d0, ds0, p0, q0, hargs, rfl, rfl, h0, r0⟩ := trodAll_cons hA
  obtain ⟨rfl, rfl, rfl⟩ := trodAll_nil r0
  obtain rfl : args = #[v0] := by cases args; simp_all
  obtain ⟨A0, c0, l, rfl, hs0⟩ := open_ops (hval 0 81 v0 rfl rfl) h0
  refine (Stream_walk A0 l c0 W hs0).mono fun e W' ⟨he, hk⟩ => ?_
  subst he
  exact ⟨_, rfl, law_post hW' rfl laidOut (by kernel_rfl) rfl Try.underlying4 rfl (hk.below (Nat.le_refl _) fun _ h => h.elim)⟩

theorem proved : Rows.OpStreamSaid :=
  OpenClaim.holds_of_wide 11 Try.f11 rfl rfl rfl rfl rfl rfl rfl ⟨rfl, rfl, rfl, rfl, rfl⟩ rfl rfl rfl rfl rfl (by kernel_rfl) Try.func11 (by kernel_rfl)
    (of_decide_eq_true (by kernel_rfl)) (by unfold Func.isWrapper; first | (rw [if_pos (by decide +kernel)]; kernel_rfl) | (rw [if_neg (by decide +kernel)]; exact ⟨rfl, rfl⟩))
    (fun os started H enc _ => lifted os started H enc)
#print axioms proved
end Go.Proofs.Ytnlklhlnnoihiaa.opStream
