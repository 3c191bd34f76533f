/- The walks of net's New, Send, Double. Conditions: the network lies in memory; less than 100,000 copies were laid; numbers are ints. -/
import Derived.Test.YtopcogogpbcbhaaNFnc
namespace Go.Proofs.Ytopcogogpbcbhaa
open Go Go.RowKit

theorem New_any (w : World) : Calls Try.prog 12 #[] w (fun r w' => r = .returned (.pointer (some ⟨w.heap.size, 0, none⟩)) ∧ NetAt w' w.heap.size (fun k => k = w.heap.size) ⟨0, []⟩ [] ∧ Kept (fun _ => False) w w') := by
  go_enter Try.func12, Try.ntmps12
  go_wp2_with (fail)
  go_ret
  have hb : Box (w.alloc (.cells #[.int .i64 0, .map none] 38)) w.heap.size 38 #[.int .i64 0, .map none] := Box.new w _ _
  exact ⟨rfl, ⟨rfl, ⟨none, hb, .inl ⟨rfl, rfl⟩⟩, rfl, by simp, List.Pairwise.nil, fun k e => by subst e; exact hb.lt, Nt.Ok.zero, Nat.zero_le _⟩, (Kept.refl _ _).alloc _⟩
theorem Nt.send_ok {s : Nt} {f t a : Int} {b : List Int} (h : okSend f t a = true) : s.send f t a b = ((((s.last + 1 : Nat) : Int), 0), s.add f t a b) := if_pos h
theorem Nt.send_no {s : Nt} {f t a : Int} {b : List Int} (h : okSend f t a = false) : s.send f t a b = ((0, 1), s) := if_neg (by rw [h]; decide)
def TwoPost (w : World) (p : Nat) (F : Nat → Prop) (x : (Int × Int) × Nt) (r : Ending) (w' : World) : Prop := r = .returned (.tuple #[.int .i64 x.1.1, .int .i64 x.1.2]) ∧ NetPost w p F x.2 w'
theorem NetAt.post {w w' : World} {p : Nat} {F : Nat → Prop} {s : Nt} {es : List Ce} (h : NetAt w p F s es) (hk : Kept (fun _ => False) w w') : NetPost w p F s w' := ⟨F, es, h.fresh hk, fun _ e => .inl e, hk.more fun _ _ e => e.elim⟩
set_option maxRecDepth 100000 in
set_option maxHeartbeats 3200000 in
theorem Send_any (p : Nat) (F : Nat → Prop) (s : Nt) (es : List Ce) (w : World) (h : NetAt w p F s es) (hlast : s.last < 100000) (f t a : Int) (A : Option Addr) (b : List Int) (c : Nat) (hb : BytesAt w A b) (hn : A = none → b = []) (hby : isByte b) (hlen : b.length ≤ 60000) :
    Calls Try.prog 18 #[.pointer (some ⟨p, 0, none⟩), .int .i64 f, .int .i64 t, .slice A b.length c, .int .i64 a] w (TwoPost w p F (s.send f t a b)) := by
  cases hok : okSend f t a with
  | false =>
    rw [Nt.send_no hok]
    have HP := Lib.hid (h.post (Kept.refl _ w))
    have hc : f < 1 ∨ (1 ≤ f ∧ 16 < f) ∨ (1 ≤ f ∧ f ≤ 16 ∧ t < 1) ∨ (1 ≤ f ∧ f ≤ 16 ∧ 1 ≤ t ∧ 16 < t) ∨ (1 ≤ f ∧ f ≤ 16 ∧ 1 ≤ t ∧ t ≤ 16 ∧ f = t) ∨ (1 ≤ f ∧ f ≤ 16 ∧ 1 ≤ t ∧ t ≤ 16 ∧ f ≠ t ∧ a < 0) := by
      have := of_decide_eq_false hok
      omega
    clear h hok hb hn hby
    rcases hc with h1 | ⟨h1, h2⟩ | ⟨h1, h2, h3⟩ | ⟨h1, h2, h3, h4⟩ | ⟨h1, h2, h3, h4, h5⟩ | ⟨h1, h2, h3, h4, h5, h6⟩
    case inr.inr.inr.inr.inl =>
      subst h5
      have e5 : (f == f) = true := by simp
      go_enter Try.func18, Try.ntmps18
      go_wp2_with (fail)
      go_ret2
      exact ⟨rfl, HP.out⟩
    case inr.inr.inr.inr.inr =>
      have e5 : (f == t) = false := by simpa using h5
      clear h5
      go_enter Try.func18, Try.ntmps18
      go_wp2_with (fail)
      go_ret2
      exact ⟨rfl, HP.out⟩
    all_goals
      go_enter Try.func18, Try.ntmps18
      go_wp2_with (fail)
      go_ret2
      exact ⟨rfl, HP.out⟩
  | true =>
    rw [Nt.send_ok hok]
    obtain ⟨h1, h2, h3, h4, h5, h6⟩ := of_decide_eq_true hok
    have e5 : (f == t) = false := by simpa using h5
    have h6' : ¬ a < 0 := by omega
    have HNET := Lib.hid h
    have HB := Lib.hid hb
    have HN := Lib.hid hn
    have HBY := Lib.hid hby
    clear h hok hb hn hby h5
    go_enter Try.func18, Try.ntmps18
    go_wp2_with (fail)
    refine (Clone_any A b c w HB.out HN.out (by omega)).mono ?_
    rintro r w1 ⟨cA, cc, rfl, ho, hk⟩
    have hka : Kept (fun _ => False) w (w1.alloc (.cells #[.int .i64 f, .int .i64 t, .int .i64 a, .slice cA b.length cc] 84)) := hk.alloc _
    have HK := Lib.hid hka
    have HN2 := Lib.hid (HNET.out.fresh hka)
    have HF2 := Lib.hid (Box.new w1 84 #[.int .i64 f, .int .i64 t, .int .i64 a, .slice cA b.length cc])
    have HC2 := Lib.hid (show (w1.alloc (.cells #[.int .i64 f, .int .i64 t, .int .i64 a, .slice cA b.length cc] 84)).ownsRow 0 5 1 (.slice cA b.length cc) b.length (bys b) from ((Kept.refl (fun _ => False) w1).alloc _).own (own_base ho (Nat.zero_le _)) fun _ _ => id)
    have HLO := Lib.hid (fun k (e : (Value.slice cA b.length cc).ownBlock = some k) => (ho.lt k e).1)
    have HSZ := Lib.hid hk.size
    clear ho hk hka HNET HB HN
    go_wp2_with (fail)
    obtain ⟨Q, hQ⟩ : ∃ Q, w1.heap.size = Q := ⟨_, rfl⟩
    rw [hQ] at HF2 HSZ ⊢
    clear hQ
    generalize w1.alloc (.cells #[.int .i64 f, .int .i64 t, .int .i64 a, .slice cA b.length cc] 84) = w2 at HK HN2 HF2 HC2 ⊢
    refine (Lay_any p F s es w2 HN2.out hlast f t a b HBY.out hlen Q cA cc HF2.out HC2.out).mono ?_
    rintro r w3 ⟨rfl, F', es', h7, h8, h9, -⟩
    have HFIN := Lib.hid (show NetPost w p F (s.add f t a b) w3 from ⟨F', es', h7, fun k e => by
      rcases h8 k e with e | e | e | e
      · exact .inl e
      · exact .inr (by have := HSZ.out; omega)
      · exact .inr (HLO.out k e)
      · exact .inr (Nat.le_trans HK.out.size e), (HK.out.more fun _ _ e => e.elim).trans h9 fun k _ e => e⟩)
    clear h7 h8 h9
    go_wp2_with (fail)
    go_ret2
    exact ⟨rfl, HFIN.out⟩
theorem Send_nil (w : World) (f t a : Int) (v : Value) : Calls Try.prog 18 #[.pointer none, .int .i64 f, .int .i64 t, v, .int .i64 a] w (fun r w' => r = .returned (.tuple #[.int .i64 0, .int .i64 1]) ∧ w' = w) := by
  go_enter Try.func18, Try.ntmps18
  go_wp2_with (fail)
  go_ret2
  exact ⟨rfl, rfl⟩
set_option maxRecDepth 100000 in
set_option maxHeartbeats 3200000 in
theorem Double1_any (p : Nat) (F : Nat → Prop) (s : Nt) (es : List Ce) (w : World) (h : NetAt w p F s es) (hlast : s.last < 100000) (x : Ce) (hx : x ∈ es) (B : Nat) (hB : Box w B 25 #[.pointer (some ⟨p, 0, none⟩)]) :
    Calls Try.prog 42 #[.pointer (some ⟨x.q, 0, none⟩), .pointer (some ⟨B, 0, none⟩)] w (fun r w' => ∃ v e, r = .returned (.tuple #[.int .i64 v, .int .i64 e]) ∧ ((v = ((s.last + 1 : Nat) : Int) ∧ e = 0) ∧ NetPost w p F (s.add x.c.src x.c.dst x.c.sent x.c.clean) w')) := by
  have hcx : x.c ∈ s.l := by rw [← h.tie]; exact List.mem_map_of_mem hx
  have HNET := Lib.hid h
  have HX := Lib.hid (h.ats x hx)
  have HBB := Lib.hid hB
  have HBY := Lib.hid (h.ok.by_ x.c hcx).1
  have hlen := (h.ok.len x.c hcx).1
  have hpB : ¬ B = p := by
    obtain ⟨mb, hp, -⟩ := h.box
    exact Box.ne hB hp (by decide)
  have hqp : ¬ x.q = p := by
    obtain ⟨mb, hp, -⟩ := h.box
    exact Box.ne (h.ats x hx).q hp (by decide)
  clear h hx hB hcx
  go_enter Try.func42, Try.ntmps42
  go_upto_region 1 with (fail)
  have hkd : Kept (fun _ => False) w w.drew := (Kept.refl _ _).drew
  have HND := Lib.hid (HNET.out.fresh hkd)
  have HXD := Lib.hid (HX.out.kept hkd fun _ _ => id)
  have HBD := Lib.hid (HBB.out.kept hkd id)
  have HKD := Lib.hid hkd
  clear hkd HNET HX HBB
  refine wp_region_held_drew (S := fun Wz => Box Wz x.q 87 x.qC ∧ Box Wz B 25 #[.pointer (some ⟨p, 0, none⟩)]) (by kernel_rfl) ⟨HXD.out.q, HBD.out⟩ fun hS => ?_
  generalize w.drew = W at HND HXD HBD HKD hS ⊢
  refine held_takeTo 5 (i := 0) (v := .pointer (some ⟨p, 0, none⟩)) rfl rfl (by kernel_rfl) (by kernel_rfl) (by kernel_rfl) (fun _ _ _ h => h) rfl hS (fun Wz hW => by (have hc : Wz.cell? ⟨B, 0, none⟩ = some (.pointer (some ⟨p, 0, none⟩)) := (hW.2.cell 0).trans rfl; go_simp)) ?_
  simp only [List.setIfInBounds_toArray, List.set_cons_zero, List.set_cons_succ]
  refine held_takeTo 6 (i := 1) (v := .pointer (some ⟨x.q, 0, none⟩)) rfl rfl (by kernel_rfl) (by kernel_rfl) (by kernel_rfl) (fun _ _ _ h => h) rfl hS (fun Wz hW => by go_simp) ?_
  simp only [List.setIfInBounds_toArray, List.set_cons_zero, List.set_cons_succ]
  refine held_takeTo 7 (i := 2) (v := .pointer (some ⟨x.q, 0, none⟩)) rfl rfl (by kernel_rfl) (by kernel_rfl) (by kernel_rfl) (fun _ _ _ h => h) rfl hS (fun Wz hW => by go_simp) ?_
  simp only [List.setIfInBounds_toArray, List.set_cons_zero, List.set_cons_succ]
  refine held_takeTo 8 (i := 3) (v := .pointer (some ⟨x.q, 0, none⟩)) rfl rfl (by kernel_rfl) (by kernel_rfl) (by kernel_rfl) (fun _ _ _ h => h) rfl hS (fun Wz hW => by go_simp) ?_
  simp only [List.setIfInBounds_toArray, List.set_cons_zero, List.set_cons_succ]
  refine held_takeTo 9 (i := 4) (v := .pointer (some ⟨x.f, 0, none⟩)) rfl rfl (by kernel_rfl) (by kernel_rfl) (by kernel_rfl) (fun _ _ _ h => h) rfl hS (fun Wz hW => by (have hc : Wz.cell? ⟨x.q, 0, none⟩ = some (.pointer (some ⟨x.f, 0, none⟩)) := (hW.1.cell 0).trans rfl; go_simp)) ?_
  simp only [List.setIfInBounds_toArray, List.set_cons_zero, List.set_cons_succ]
  refine held_one (i := 5) (by kernel_rfl) rfl fun K hK => ?_
  go_wp2_with (fail)
  refine (Lay_any p F s es W HND.out hlast x.c.src x.c.dst x.c.sent x.c.clean HBY.out hlen x.f x.cA x.cc HXD.out.f HXD.out.cl).mono ?_
  rintro r w3 ⟨rfl, F', es', h7, h8, h9, h10⟩
  have HFIN := Lib.hid (show NetPost w p F (s.add x.c.src x.c.dst x.c.sent x.c.clean) w3 from ⟨F', es', h7, fun k e => by
    rcases h8 k e with e | e | e | e
    · exact .inl e
    · exact .inl (by subst e; exact HXD.out.Ff)
    · exact .inl (HXD.out.Fc k e)
    · exact .inr (Nat.le_trans HKD.out.size e), (HKD.out.more fun _ _ e => e.elim).trans h9 fun k _ e => e⟩)
  have hS3 : Box w3 x.q 87 x.qC ∧ Box w3 B 25 #[.pointer (some ⟨p, 0, none⟩)] := ⟨hS.1.kept h10 (fun e => e.elim hqp fun e => e _ _ _ hS.1), hS.2.kept h10 (fun e => e.elim hpB fun e => e _ _ _ hS.2)⟩
  clear h7 h8 h9 h10
  go_wp2_with (fail)
  refine hK.out _ _ hS3 fun _ => ?_
  clear hK K
  refine held_takeTo 11 (i := 6) (v := .int .i64 ((s.last + 1 : Nat) : Int)) rfl rfl (by kernel_rfl) (by kernel_rfl) (by kernel_rfl) (fun _ _ _ h => h) rfl hS3 (fun Wz hW => by go_simp) ?_
  simp only [List.setIfInBounds_toArray, List.set_cons_zero, List.set_cons_succ]
  refine held_takeTo 12 (i := 7) (v := .int .i64 0) rfl rfl (by kernel_rfl) (by kernel_rfl) (by kernel_rfl) (fun _ _ _ h => h) rfl hS3 (fun Wz hW => by go_simp) ?_
  simp only [List.setIfInBounds_toArray, List.set_cons_zero, List.set_cons_succ]
  refine held_one (i := 8) (by kernel_rfl) rfl fun K hK => ?_
  go_wp2_with (fail)
  refine hK.out _ _ hS3 fun _ => ?_
  clear hK K
  refine held_one (i := 9) (by kernel_rfl) rfl fun K hK => ?_
  go_wp2_with (fail)
  refine hK.out _ _ hS3 fun _ => ?_
  clear hK K
  refine wpAnyH_done (by kernel_rfl) ?_ _
  go_wp2_with (fail)
  go_ret2
  exact ⟨_, _, rfl, ⟨rfl, rfl⟩, HFIN.out⟩
theorem NetPost.since {w w1 w2 : World} {p : Nat} {F : Nat → Prop} {s : Nt} (h : NetPost w1 p F s w2) (hk : Kept (fun _ => False) w w1) : NetPost w p F s w2 := by
  obtain ⟨F', es', h1, h2, h3⟩ := h
  exact ⟨F', es', h1, fun k e => (h2 k e).imp id fun e => Nat.le_trans hk.size e, (hk.more fun _ _ e => e.elim).trans h3 fun k _ e => e⟩
set_option maxRecDepth 100000 in
set_option maxHeartbeats 1600000 in
theorem Double_any (p : Nat) (F : Nat → Prop) (s : Nt) (es : List Ce) (w : World) (h : NetAt w p F s es) (hlast : s.last < 100000) (n : Int) (hn : (Lit.int .i64 n).wf = true) :
    Calls Try.prog 21 #[.pointer (some ⟨p, 0, none⟩), .int .i64 n] w (TwoPost w p F (s.double n)) := by
  have hmf : ∀ (fn : Fn) (first cap : Array Value) (w : World), (Instr.makeFunc fn first cap).run Try.prog w = .ok (.func fn first cap) w := fun _ _ _ _ => rfl
  have hka : Kept (fun _ => False) w (w.alloc (.cells #[.pointer (some ⟨p, 0, none⟩)] 25)) := (Kept.refl _ _).alloc _
  have HA := Lib.hid hka
  have HNET := Lib.hid (h.fresh hka)
  have HB := Lib.hid (Box.new w 25 #[.pointer (some ⟨p, 0, none⟩)])
  clear h hka
  go_enter Try.func21, Try.ntmps21
  go_upto_region 1 with (fail)
  generalize w.alloc (.cells #[.pointer (some ⟨p, 0, none⟩)] 25) = w0 at HA HNET HB ⊢
  have x0 : w0.cell? ⟨w.heap.size, 0, none⟩ = some (.pointer (some ⟨p, 0, none⟩)) := (HB.out.cell 0).trans rfl
  have HF := Lib.hid (FoundI_any p F s es w0 HNET.out n hn 42 #[.pointer (some ⟨w.heap.size, 0, none⟩)] (fun x v e w' => (v = ((s.last + 1 : Nat) : Int) ∧ e = 0) ∧ NetPost w0 p F (s.add x.c.src x.c.dst x.c.sent x.c.clean) w') (enters_of Try.func42 (by kernel_rfl) rfl)
    fun x hx _ => Double1_any p F s es w0 HNET.out hlast x hx w.heap.size HB.out)
  go_wp2_with (fail)
  refine HF.out.mono ?_
  rintro r w1 (⟨hg, rfl, rfl⟩ | ⟨x, hx, hg, v, e, rfl, ⟨rfl, rfl⟩, hp⟩)
  · have HD := Lib.hid (show s.double n = ((0, 11), s) by unfold Nt.double; rw [hg])
    clear hg
    go_wp2_with (fail)
    go_ret2
    rw [HD.out]
    exact ⟨rfl, F, es, HNET.out, fun _ e => .inl e, HA.out.more fun _ _ e => e.elim⟩
  · have HD := Lib.hid (show s.double n = ((((s.last + 1 : Nat) : Int), 0), s.add x.c.src x.c.dst x.c.sent x.c.clean) by unfold Nt.double; rw [hg])
    have HP := Lib.hid (hp.since HA.out)
    clear hg hp
    go_wp2_with (fail)
    go_ret2
    rw [HD.out]
    exact ⟨rfl, HP.out⟩
end Go.Proofs.Ytopcogogpbcbhaa
