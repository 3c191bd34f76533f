/- The walks of the reference's New, site, twin, told, place, changes. Conditions: the bytes lie in memory. -/
import Derived.Test.YtopcogogpbcbhaaNPair
import Derived.Test.YtopcogogpbcbhaaNFnc
namespace Go.Proofs.Ytopcogogpbcbhaa
open Go Go.RowKit

theorem own_nilness {w : World} {base s n c : Nat} {e : TypeId} {A : Option Addr} {xs : List Value} (h : w.ownsRow base e s (.slice A n c) n xs) : A = none → n = 0 ∧ c = 0 := fun hA => by
  rcases h.2 with ⟨h', h0⟩ | ⟨g, cap, cur, hv, _⟩
  · injection h' with _ _ e3
    exact ⟨h0, e3⟩
  · injection hv with e1
    rw [hA] at e1
    cases e1
theorem own_src {w : World} {base s n c : Nat} {e : TypeId} {A : Option Addr} {xs : List Value} (h : w.ownsRow base e s (.slice A n c) n xs) : ∀ j u, xs[j]? = some u → ∃ ad, A = some ad ∧ w.cell? (ad.add j) = some u := fun j u hj => by
  have hl := (List.getElem?_eq_some_iff.1 hj).1
  have hn : 0 < n := by
    rcases Nat.eq_zero_or_pos n with h0 | h0
    · rw [h.1, h0] at hl; simp at hl
    · exact h0
  obtain ⟨g, e1, -, hc, -⟩ := own_cells h hn
  exact ⟨⟨g, 0, none⟩, e1, by rw [add_none]; exact hc j u hj⟩
/-- A reference's network whose memory lies in G. -/
def Rw (G : Nat → Prop) (p : Nat) (s : Nt) (W : World) : Prop := ∃ F L lc hs, RNetAt W p F s L lc hs ∧ ∀ k, F k → G k
def Rob (p : Nat) (s : Nt) (G : Nat → Prop) (W : World) : Prop := Rw G p s W
theorem Rob.ob (p : Nat) (s : Nt) : Ob (Rob p s) where
  kept := by
    rintro G S W W' ⟨F, L, lc, hs, h1, h2⟩ hk hS
    exact ⟨F, L, lc, hs, h1.kept hk fun k e => hS k (h2 k e), h2⟩
  more := by
    rintro G S W ⟨F, L, lc, hs, h1, h2⟩ hS
    exact ⟨F, L, lc, hs, h1, fun k e => hS k (h2 k e)⟩
  cut := by
    rintro G W ⟨F, L, lc, hs, h1, h2⟩
    exact ⟨F, L, lc, hs, h1, fun k e => ⟨h2 k e, h1.lt k e⟩⟩
theorem Rw.post {G F : Nat → Prop} {p : Nat} {s' : Nt} {W W' : World} (h : ∀ k, F k → G k) (hG : ∀ k, W.heap.size ≤ k → G k) (hp : RNetPost W p F s' W') : Rw G p s' W' ∧ Kept G W W' := by
  obtain ⟨F', L, lc, hs, h1, h2, h3⟩ := hp
  exact ⟨⟨F', L, lc, hs, h1, fun k e => (h2 k e).elim (h k) (hG k)⟩, h3.more fun k _ e => h k e⟩
set_option maxRecDepth 100000 in
set_option maxHeartbeats 1600000 in
theorem RNew_any (w : World) : Calls Try.prog 13 #[] w fun r w' => r = .returned (.pointer (some ⟨w.heap.size, 0, none⟩)) ∧ RNetAt w' w.heap.size (fun k => k = w.heap.size) ⟨0, []⟩ none 0 [] ∧ Kept (fun _ => False) w w' := by
  go_enter Try.func13, Try.ntmps13
  go_wp2_with (fail)
  go_ret
  exact ⟨rfl, ⟨rfl, Box.new w _ _, World.ownsRow_nil _ _ _ _, rfl, fun k e => (by cases e), fun x hx => absurd hx (by simp), fun k e => by subst e; simp, Nt.Ok.zero, Nat.zero_le _⟩, (Kept.refl _ _).alloc _⟩
def siteB (n : Int) : Bool := decide (1 ≤ n ∧ n ≤ 16)
set_option maxRecDepth 100000 in
set_option maxHeartbeats 1600000 in
theorem RSite_any (n : Int) (w : World) : Calls Try.prog 47 #[.int .i64 n] w fun r w' => r = .returned (.bool (siteB n)) ∧ w' = w := by
  by_cases h1 : 1 ≤ n
  · by_cases h2 : n ≤ 16
    · have HB := Lib.hid (show siteB n = true from decide_eq_true ⟨h1, h2⟩)
      go_enter Try.func47, Try.ntmps47
      go_wp2_with (fail)
      go_ret
      exact ⟨by rw [HB.out]; rfl, rfl⟩
    · have HB := Lib.hid (show siteB n = false from decide_eq_false fun h => h2 h.2)
      go_enter Try.func47, Try.ntmps47
      go_wp2_with (fail)
      go_ret
      exact ⟨by rw [HB.out]; rfl, rfl⟩
  · have HB := Lib.hid (show siteB n = false from decide_eq_false fun h => h1 h.1)
    go_enter Try.func47, Try.ntmps47
    go_wp2_with (fail)
    go_ret
    exact ⟨by rw [HB.out]; rfl, rfl⟩
set_option maxRecDepth 100000 in
set_option maxHeartbeats 1600000 in
theorem RTwin_any (A : Option Addr) (l : List Int) (c : Nat) (w : World) (hl : BytesAt w A l) (hn : A = none → l = []) (hlen : l.length ≤ 100000000) :
    Calls Try.prog 51 #[.slice A l.length c] w (FreshBytes w l) := by
  cases A with
  | none =>
    obtain rfl := hn rfl
    clear hl hn
    go_enter Try.func51, Try.ntmps51
    go_wp2
    go_ret
    exact ⟨none, 0, rfl, World.ownsRow_nil _ _ _ _, Kept.refl _ _⟩
  | some ad =>
    have HL := Lib.hid hl
    clear hl hn
    go_enter Try.func51, Try.ntmps51
    go_wp2_with (at_builtin; refine wpList_append_copy eltBytes rfl (.tmp 4) (.tmp 5) rfl rfl (some ad) l.length c (bys l) rfl (fun h => by cases h) (by rw [bys_len]; omega) ?c1 (bys_one l) (by omega) ?_)
    case c1 =>
      intro j u hj
      have hjn : j < l.length := by
        have := (List.getElem?_eq_some_iff.1 hj).1
        simpa [bys_len] using this
      obtain ⟨ad', e, h0⟩ := HL.out j hjn
      refine ⟨ad', e, ?_⟩
      rw [h0, ← bys_get l j hjn]
      exact hj
    intro A' c' w2 HO HK
    go_wp2_with (fail)
    go_ret
    exact ⟨A', c', rfl, HO.out, HK.out⟩
/-- What place answers. -/
def PlacePost (w : World) (s : Nt) (n : Int) (r : Ending) (w' : World) : Prop := Kept (fun _ => False) w w' ∧ ((r = .returned (.int .i64 (-1)) ∧ s.get n = none) ∨ ∃ j, ∃ h : j < s.l.length, r = .returned (.int .i64 (j : Nat)) ∧ s.get n = some s.l[j])
theorem he_cell {l : List He} {k : Nat} (h : k < l.length) (j : Nat) (hj : j < 7) : (hes l)[k * 7 + j]? = (l[k].cs).toList[j]? := hes_get l k h j hj
theorem he_map {l : List He} {m : List Cp} (h : l.map (·.c) = m) {k : Nat} (h1 : k < l.length) (h2 : k < m.length) : l[k].c = m[k] := by
  have := congrArg (fun l : List Cp => l[k]?) h
  simpa [h1, h2] using this
theorem get_first {s : Nt} {n : Int} {j : Nat} (hj : j < s.l.length) (hn : (s.l[j].num : Int) = n) (hb : ∀ i (h : i < s.l.length), i < j → ¬ (s.l[i].num : Int) = n) : s.get n = some s.l[j] := by
  unfold Nt.get
  have e : s.l = s.l.take j ++ s.l[j] :: s.l.drop (j + 1) := by rw [← List.drop_eq_getElem_cons hj, List.take_append_drop]
  have hnone : (s.l.take j).find? (Cp.is n) = none := List.find?_eq_none.2 fun c hc => by
    obtain ⟨i, hi, rfl⟩ := List.getElem_of_mem hc
    rw [List.length_take] at hi
    rw [List.getElem_take]
    simp [Cp.is, hb i (by omega) (by omega)]
  rw [show s.l.find? (Cp.is n) = (s.l.take j ++ s.l[j] :: s.l.drop (j + 1)).find? (Cp.is n) from congrArg (fun l => List.find? (Cp.is n) l) e, List.find?_append, hnone, Option.none_or, List.find?_cons_of_pos (by simp [Cp.is, hn])]
theorem get_nobody {s : Nt} {n : Int} (hb : ∀ i (h : i < s.l.length), ¬ (s.l[i].num : Int) = n) : s.get n = none := List.find?_eq_none.2 fun c hc => by
  obtain ⟨i, hi, rfl⟩ := List.getElem_of_mem hc
  simp [Cp.is, hb i hi]
set_option maxRecDepth 100000 in
set_option maxHeartbeats 3200000 in
theorem RPlace_any (p : Nat) (F : Nat → Prop) (s : Nt) (L : Option Addr) (lc : Nat) (hs : List He) (w : World) (h : RNetAt w p F s L lc hs) (hll : hs.length ≤ 1000000) (n : Int) :
    Calls Try.prog 49 #[.pointer (some ⟨p, 0, none⟩), .int .i64 n] w (PlacePost w s n) := by
  have HZ := Lib.hid h
  have HLE := Lib.hid (show hs.length = s.l.length by rw [← h.tie, List.length_map])
  clear h
  go_enter Try.func49, Try.ntmps49
  go_wp2_with (fail)
  go_loopw [5] (fun i wr => ∃ k : Nat, i = .int .i64 k ∧ k ≤ hs.length ∧ (∀ j (h : j < s.l.length), j < k → ¬ (s.l[j].num : Int) = n) ∧ wr = w) (fun i _ => hs.length - (intOf i).toNat)
  case atStart => exact ⟨0, rfl, Nat.zero_le _, fun j _ h => absurd h (by omega), rfl⟩
  case round =>
    obtain ⟨k, rfl, hk, hb, hwr⟩ := hrel
    have HBF := Lib.hid hb
    have hwr := hwr.symm
    subst hwr
    have x0 : w.cell? ⟨p, 0, none⟩ = some (.slice L hs.length lc) := (HZ.out.box.cell 0).trans rfl
    clear hb
    by_cases hlt : k < hs.length
    · obtain ⟨g, e1, -, hcell, -⟩ := own_cells HZ.out.row (by omega)
      subst e1
      have hls : k < s.l.length := by rw [← HLE.out]; exact hlt
      have hm := he_map HZ.out.tie hlt hls
      have y0 : w.cell? ⟨g, k * 7, none⟩ = some (.int .i64 (s.l[k].num : Int)) := hcell (k * 7) _ (by have := he_cell hlt 0 (by omega); rw [Nat.add_zero] at this; rw [this, ← hm]; rfl)
      obtain ⟨nn, hnn⟩ : ∃ nn, s.l[k].num = nn := ⟨_, rfl⟩
      rw [hnn] at y0
      have HNN := Lib.hid hnn
      have hi0 : (0 : Int) ≤ (k : Int) := by omega
      have hin : (k : Int) < (hs.length : Int) := by omega
      clear hcell hm hnn
      by_cases he : (nn : Int) = n
      · have hbe : ((nn : Int) == n) = true := beq_iff_eq.2 he
        have HE := Lib.hid he
        clear he
        go_wp2_with (fail)
        go_ret
        exact ⟨Kept.refl _ _, .inr ⟨k, hls, rfl, get_first hls (by rw [HNN.out]; exact HE.out) HBF.out⟩⟩
      · have hbe : ((nn : Int) == n) = false := beq_eq_false_iff_ne.mpr he
        have HE := Lib.hid he
        clear he
        go_wp2_with (fail)
        go_roundw
        case rel =>
          refine ⟨k + 1, by go_num, by omega, fun j hj hji => ?_, by trivial⟩
          by_cases hj2 : j = k
          · subst hj2; rw [HNN.out]; exact HE.out
          · exact HBF.out j hj (by omega)
        case measure => simp [intOf]; omega
    · obtain rfl : k = hs.length := by omega
      go_wp2_with (fail)
      go_ret
      exact ⟨Kept.refl _ _, .inl ⟨rfl, get_nobody fun i hi => HBF.out i hi (by rw [HLE.out]; exact hi)⟩⟩
end Go.Proofs.Ytopcogogpbcbhaa
