/- The walks of a network's found, at each of its three types. Conditions: the network lies in memory; the number is an int; what is done with a copy keeps its contract. -/
import Derived.Test.YtopcogogpbcbhaaNLay
namespace Go.Proofs.Ytopcogogpbcbhaa
open Go Go.RowKit

section
variable {w : World} {p : Nat} {F : Nat → Prop} {s : Nt} {es : List Ce}
theorem NetAt.get_of (h : NetAt w p F s es) {n : Int} (ha : es.any (fun x => x.c.is n) = true) : ∃ x ∈ es, s.get n = some x.c ∧ (x.c.num : Int) = n := by
  have h1 : (s.l.find? (Cp.is n)).isSome = true := by
    rw [List.find?_isSome]
    obtain ⟨x, hx, hi⟩ := List.any_eq_true.1 ha
    exact ⟨x.c, by rw [← h.tie]; exact List.mem_map_of_mem hx, hi⟩
  obtain ⟨c, hc⟩ := Option.isSome_iff_exists.1 h1
  obtain ⟨h2, h3⟩ := Nt.get_mem (s := s) (n := n) hc
  rw [← h.tie] at h2
  obtain ⟨x, hx, rfl⟩ := List.mem_map.1 h2
  exact ⟨x, hx, hc, h3⟩
theorem NetAt.get_no (h : NetAt w p F s es) {n : Int} (ha : es.any (fun x => x.c.is n) = false) : s.get n = none := by
  unfold Nt.get
  rw [List.find?_eq_none]
  intro c hc
  rw [← h.tie] at hc
  obtain ⟨x, hx, rfl⟩ := List.mem_map.1 hc
  have := List.any_eq_false.1 ha x hx
  simpa using this
end
/-- How a look-up of a number goes: the value, and whether it is there. -/
theorem look_net {w : World} {p : Nat} {F : Nat → Prop} {s : Nt} {es : List Ce} (h : NetAt w p F s es) {D : DataW Unit} (hD : MapIs D es) {n : Int} {v : Value} {ps : List MemPlace} (hv : ptrElem v = some (D.atKey (.int .i64 n) (.lit (.bool false)), ps)) :
    (Maps.has D (.int .i64 n) = false ∧ s.get n = none) ∨ (Maps.has D (.int .i64 n) = true ∧ ∃ x ∈ es, s.get n = some x.c ∧ (x.c.num : Int) = n ∧ v = .pointer (some ⟨x.q, 0, none⟩)) := by
  cases ha : es.any (fun x => x.c.is n) with
  | false => exact .inl ⟨by rw [hD.has, ha], h.get_no ha⟩
  | true =>
    obtain ⟨x, hx, hg, hn⟩ := h.get_of ha
    refine .inr ⟨by rw [hD.has, ha], x, hx, hg, hn, ptrElem_inv (q := x.q) (ps := ps) ?_⟩
    have := hD.at_ x hx (.lit (.bool false))
    rw [hn] at this
    rw [← this]
    exact hv
set_option maxRecDepth 100000 in
set_option maxHeartbeats 1600000 in
theorem FoundI_any (p : Nat) (F : Nat → Prop) (s : Nt) (es : List Ce) (w : World) (h : NetAt w p F s es) (n : Int) (hn : (Lit.int .i64 n).wf = true) (g : Nat) (caps : Array Value) (R : Ce → Int → Int → World → Prop) (he : ∀ args w, (callFunc g args).run Try.prog w = .ok (.enter g args) w)
    (hdo : ∀ x ∈ es, s.get n = some x.c → Calls Try.prog g (#[.pointer (some ⟨x.q, 0, none⟩)] ++ caps) w (fun r w' => ∃ v e, r = .returned (.tuple #[.int .i64 v, .int .i64 e]) ∧ R x v e w')) :
    Calls Try.prog 41 #[.pointer (some ⟨p, 0, none⟩), .int .i64 n, .func (.func g) #[] caps] w (fun r w' => (s.get n = none ∧ r = .returned (.tuple #[.int .i64 0, .int .i64 11]) ∧ w' = w) ∨ (∃ x ∈ es, s.get n = some x.c ∧ ∃ v e, r = .returned (.tuple #[.int .i64 v, .int .i64 e]) ∧ R x v e w')) := by
  obtain ⟨mb, hp, hm⟩ := h.box
  have HNET := Lib.hid h
  have HDO := Lib.hid hdo
  have x1 : w.cell? ⟨p, 1, none⟩ = some (.map mb) := (hp.cell 1).trans rfl
  clear h hp hdo
  rcases hm with ⟨rfl, rfl⟩ | ⟨b, D, rfl, hFb, hmap, hD⟩
  · have hlk := Maps.look_nil (P := Try.prog) (w := w) true (Maps.int_keyed Try.underlying3) Try.underlying36 (z := .pointer none) rfl (Maps.keyOf_int_mk Try.underlying3 hn)
    have HG := Lib.hid (HNET.out.get_no (n := n) rfl)
    go_enter Try.func41, Try.ntmps41
    go_wp2_with (fail)
    go_ret2
    exact ⟨HG.out, rfl, rfl⟩
  · have HMP := Lib.hid hmap
    have HDD := Lib.hid hD
    have HKY := Lib.hid (Maps.keyOf_int_mk (P := Try.prog) Try.underlying3 hn)
    clear hmap hD
    go_enter Try.func41, Try.ntmps41
    go_wp2_with (at_lookup; refine wpList_lookup_own_ok w rfl _ _ 36 rfl 3 75 (Maps.int_keyed Try.underlying3) Try.underlying36 ptrElem (z := .pointer none) rfl (.lit (.bool false)) [] rfl b s.last D rfl HMP.out _ _ rfl HKY.out ?_)
    intro v ps hv
    rcases look_net HNET.out HDD.out hv with ⟨hh, hg⟩ | ⟨hh, x, hx, hg, hxn, rfl⟩
    · rw [hh]
      have HG := Lib.hid hg
      clear hh hv hg
      go_wp2_with (fail)
      go_ret2
      exact .inl ⟨HG.out, rfl, rfl⟩
    · rw [hh]
      have HG := Lib.hid hg
      have HC := Lib.hid (HDO.out x hx hg)
      clear hh hv hg hxn
      go_wp2_with (go_at_fn g; refine HC.out.mono ?_)
      rintro r w2 ⟨v, e, rfl, hr⟩
      have HR := Lib.hid hr
      clear hr
      go_wp2_with (fail)
      go_ret2
      exact .inr ⟨x, hx, HG.out, v, e, rfl, HR.out⟩
end Go.Proofs.Ytopcogogpbcbhaa
