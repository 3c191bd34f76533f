/- The walk of the law PeerTwo: it returns true, whatever the two numbers and the two scripts. Conditions: the scripts lie in memory as StepsAt says. -/
import Derived.Test.YtadamldglebgmaaSteps
import Derived.Deep.CutBlock
namespace Go.Proofs.Ytadamldglebgmaa
open Go.RowKit

/-- Two pairs that share no block. -/
structure Twin (w : World) (base bp bw bq bx : Nat) (fv fw gv gw : Value) (s t : St) : Prop where
  one : Pair w base bp bw fv fw s
  two : Pair w base bq bx gv gw t
  apart : ∀ k, Owns2 bp bw fv fw k → ¬ Owns2 bq bx gv gw k

section
variable {w w1 : World} {base bp bw bq bx : Nat} {fv fw gv gw : Value} {s s' t t' : St}
theorem Next.owns (h : Next w base bp bw fv fw s' w1) : ∃ fv' fw', Pair w1 base bp bw fv' fw' s' ∧ Kept (Owns2 bp bw fv fw) w w1 ∧ ∀ k, k < w.heap.size → Owns2 bp bw fv' fw' k → Owns2 bp bw fv fw k := by
  obtain ⟨fv', fw', hp, hk, hm, hm'⟩ := h
  refine ⟨fv', fw', hp, hk, ?_⟩
  rintro k hlt ((rfl | e) | (rfl | e))
  · exact .inl (.inl rfl)
  · exact .inl (.inr (hm.lt k e hlt))
  · exact .inr (.inl rfl)
  · exact .inr (.inr (hm'.lt k e hlt))
theorem Twin.left (h : Twin w base bp bw bq bx fv fw gv gw s t) (hn : Next w base bp bw fv fw s' w1) : ∃ fv' fw', Twin w1 base bp bw bq bx fv' fw' gv gw s' t ∧ Kept (Owns2 bp bw fv fw) w w1 := by
  obtain ⟨fv', fw', hp, hk, ho⟩ := hn.owns
  refine ⟨fv', fw', ⟨hp, h.two.kept hk fun k e e' => h.apart k e' e, fun k e e' => ?_⟩, hk⟩
  have := (h.two.lt k e').2
  exact h.apart k (ho k this e) e'
theorem Twin.right (h : Twin w base bp bw bq bx fv fw gv gw s t) (hn : Next w base bq bx gv gw t' w1) : ∃ gv' gw', Twin w1 base bp bw bq bx fv fw gv' gw' s t' ∧ Kept (Owns2 bq bx gv gw) w w1 := by
  obtain ⟨gv', gw', hp, hk, ho⟩ := hn.owns
  refine ⟨gv', gw', ⟨h.one.kept hk fun k e e' => h.apart k e e', hp, fun k e e' => ?_⟩, hk⟩
  have := (h.one.lt k e).2
  exact h.apart k e (ho k this e')
end

theorem runTo_over (s : St) (l : List Stp) (k : Nat) (h : ¬ k < l.length) : runTo s l (k + 1) = runTo s l k := by
  unfold runTo
  rw [List.take_of_length_le (by omega), List.take_of_length_le (by omega)]

theorem pair_at (w0 : World) (base bp bw : Nat) (hb : base ≤ bp) (hb' : base ≤ bw) (s : St) (hs : s.fl = []) (hg : Good s) (h1 : Box w0 bp 39 (s.cells (.slice none 0 0))) (h2 : Box w0 bw 41 (s.cells (.slice none 0 0))) :
    Pair w0 base bp bw (.slice none 0 0) (.slice none 0 0) s :=
  ⟨⟨h1, by rw [hs]; exact World.ownsRow_nil _ _ _ _, hb⟩, ⟨h2, by rw [hs]; exact World.ownsRow_nil _ _ _ _, hb'⟩, fun k e => (by cases e), hg⟩

set_option maxRecDepth 100000 in
set_option maxHeartbeats 1600000 in
theorem Two_500 (window push : Int) (A : Option Addr) (l : List Stp) (c : Nat) (B : Option Addr) (m : List Stp) (d : Nat) (w : World) (h : 500 < l.length ∨ 500 < m.length) :
    Calls Try.prog 5 #[.int .i64 window, .int .i64 push, .slice A l.length c, .slice B m.length d] w (TrueNew w) := by
  by_cases h1 : 500 < l.length
  · have h1' : (500 : Int) < (l.length : Int) := by omega
    clear h h1
    go_enter Try.func5, Try.ntmps5
    go_wp2_with (fail)
    refine (known_any _).mono ?_
    rintro e w1 ⟨rfl, hk⟩
    have HK := Lib.hid hk
    clear hk
    go_wp2
    go_ret
    exact ⟨rfl, HK.out⟩
  · have h2' : (500 : Int) < (m.length : Int) := by omega
    have h1' : (l.length : Int) ≤ 500 := by omega
    clear h h1
    go_enter Try.func5, Try.ntmps5
    go_wp2_with (fail)
    refine (known_any _).mono ?_
    rintro e w1 ⟨rfl, hk⟩
    have HK := Lib.hid hk
    clear hk
    go_wp2
    go_ret
    exact ⟨rfl, HK.out⟩

set_option maxRecDepth 100000 in
set_option maxHeartbeats 3200000 in
theorem Two_no (window push : Int) (A : Option Addr) (l : List Stp) (c : Nat) (B : Option Addr) (m : List Stp) (d : Nat) (w : World) (hm : StepsAt w B m) (h1 : l.length ≤ 500) (h2 : m.length ≤ 500) (hok : okNew window push = false) :
    Calls Try.prog 5 #[.int .i64 window, .int .i64 push, .slice A l.length c, .slice B m.length d] w (TrueNew w) := by
  have h1' : (l.length : Int) ≤ 500 := by omega
  have h2' : (m.length : Int) ≤ 500 := by omega
  have HOK := Lib.hid hok
  have hpair := pair_new w w.heap.size (Nat.le_refl _) 3 4 (by decide)
  have hk0 : Kept (fun _ => False) w ((w.alloc (.cells ((St.new 3 4).cells (.slice none 0 0)) 39)).alloc (.cells ((St.new 3 4).cells (.slice none 0 0)) 41)) := ((Kept.refl _ _).alloc _).alloc _
  have HPA := Lib.hid hpair
  have HK0 := Lib.hid hk0
  have HL := Lib.hid hm
  clear hok hpair hk0 hm h1 h2
  go_enter Try.func5, Try.ntmps5
  go_wp2_with (fail)
  refine (New_no window push _ HOK.out).mono ?_
  rintro e w1 ⟨rfl, rfl⟩
  go_wp2_with (fail)
  refine (New_yes 3 4 _ (by decide)).mono ?_
  rintro e w1 ⟨rfl, rfl⟩
  go_wp2_with (fail)
  refine (RNew_no window push _ HOK.out).mono ?_
  rintro e w1 ⟨rfl, rfl⟩
  go_wp2_with (fail)
  refine (RNew_yes 3 4 _ (by decide)).mono ?_
  rintro e w1 ⟨rfl, rfl⟩
  go_wp2_with (fail)
  generalize (w.alloc (.cells ((St.new 3 4).cells (.slice none 0 0)) 39)).alloc (.cells ((St.new 3 4).cells (.slice none 0 0)) 41) = w0 at HPA HK0 ⊢
  go_loopw [17] (fun i wr => ∃ k fv fw, i = .int .i64 (k : Nat) ∧ k ≤ 500 ∧ Pair wr w.heap.size w.heap.size (w.heap.size + 1) fv fw (runTo (St.new 3 4) m k) ∧ Kept (fun _ => False) w wr) (fun i _ => 500 - (intOf i).toNat)
  case atStart => exact ⟨0, _, _, rfl, Nat.zero_le _, HPA.out, HK0.out⟩
  case round =>
    obtain ⟨k, fv, fw, rfl, hk, hp, hkw⟩ := hrel
    have HP := Lib.hid hp
    have HKW := Lib.hid hkw
    by_cases hlm : k < m.length
    · obtain ⟨ad, rfl, x0, x1, x2, x3⟩ := HL.out.fresh hkw k hlm
      clear hp hkw
      by_cases hll : k < l.length
      all_goals
        go_wp2_with (fail)
        refine (does_any w.heap.size w.heap.size (w.heap.size + 1) fv fw _ m[k].kind m[k].num m[k].got m[k].credit _ HP.out HKW.out.size).mono ?_
        rintro e w2 ⟨rfl, hn⟩
        have HN := Lib.hid hn
        clear hn
        go_wp2
        go_roundw
        case rel =>
          obtain ⟨fv1, fw1, hp1, hk1, _, _⟩ := HN.out
          exact ⟨k + 1, fv1, fw1, by go_num, by omega, by rw [runTo_succ _ _ _ hlm]; exact hp1, Next.new HKW.out HP.out (Nat.le_refl _) HN.out⟩
        case measure => simp [intOf]; omega
    · clear hp hkw
      by_cases hll : k < l.length
      · go_wp2
        go_roundw
        case rel => exact ⟨k + 1, fv, fw, by go_num, by omega, by rw [runTo_over _ _ _ hlm]; exact HP.out, HKW.out⟩
        case measure => simp [intOf]; omega
      · go_wp2_with (fail)
        refine (known_any _).mono ?_
        rintro e w1 ⟨rfl, hk⟩
        have HK := Lib.hid hk
        clear hk
        go_wp2
        go_ret
        exact ⟨rfl, HKW.out.trans HK.out fun _ _ e => e⟩

theorem twin_new (w : World) (window push : Int) (hok : okNew window push = true) :
    Twin ((((w.alloc (.cells ((St.new window push).cells (.slice none 0 0)) 39)).alloc (.cells ((St.new 3 4).cells (.slice none 0 0)) 39)).alloc (.cells ((St.new window push).cells (.slice none 0 0)) 41)).alloc (.cells ((St.new 3 4).cells (.slice none 0 0)) 41))
      w.heap.size w.heap.size (w.heap.size + 2) (w.heap.size + 1) (w.heap.size + 3) (.slice none 0 0) (.slice none 0 0) (.slice none 0 0) (.slice none 0 0) (St.new window push) (St.new 3 4) := by
  have b1 := (((Box.new w 39 ((St.new window push).cells (.slice none 0 0))).alloc (.cells ((St.new 3 4).cells (.slice none 0 0)) 39)).alloc (.cells ((St.new window push).cells (.slice none 0 0)) 41)).alloc (.cells ((St.new 3 4).cells (.slice none 0 0)) 41)
  have b2 := ((Box.new (w.alloc (.cells ((St.new window push).cells (.slice none 0 0)) 39)) 39 ((St.new 3 4).cells (.slice none 0 0))).alloc (.cells ((St.new window push).cells (.slice none 0 0)) 41)).alloc (.cells ((St.new 3 4).cells (.slice none 0 0)) 41)
  have b3 := (Box.new ((w.alloc (.cells ((St.new window push).cells (.slice none 0 0)) 39)).alloc (.cells ((St.new 3 4).cells (.slice none 0 0)) 39)) 41 ((St.new window push).cells (.slice none 0 0))).alloc (.cells ((St.new 3 4).cells (.slice none 0 0)) 41)
  have b4 := Box.new (((w.alloc (.cells ((St.new window push).cells (.slice none 0 0)) 39)).alloc (.cells ((St.new 3 4).cells (.slice none 0 0)) 39)).alloc (.cells ((St.new window push).cells (.slice none 0 0)) 41)) 41 ((St.new 3 4).cells (.slice none 0 0))
  refine ⟨pair_at _ _ _ _ (Nat.le_refl _) (by omega) _ rfl (Good.new hok) b1 (by simpa using b3), pair_at _ _ _ _ (by omega) (by omega) _ rfl (Good.new (by decide)) (by simpa using b2) (by simpa using b4), ?_⟩
  rintro k ((rfl | e) | (rfl | e)) ((h | h) | (h | h))
  all_goals first | (cases e; done) | (cases h; done) | omega

def TwinAt (w : World) (s t : St) (wr : World) : Prop :=
  ∃ fv fw gv gw, Twin wr w.heap.size w.heap.size (w.heap.size + 2) (w.heap.size + 1) (w.heap.size + 3) fv fw gv gw s t ∧ Kept (fun _ => False) w wr
theorem TwinAt.left {w wr w1 : World} {fv fw gv gw : Value} {s t s' : St} (h : Twin wr w.heap.size w.heap.size (w.heap.size + 2) (w.heap.size + 1) (w.heap.size + 3) fv fw gv gw s t) (hk : Kept (fun _ => False) w wr)
    (hn : Next wr w.heap.size w.heap.size (w.heap.size + 2) fv fw s' w1) : TwinAt w s' t w1 := by
  obtain ⟨fv', fw', ht, hk1⟩ := h.left hn
  exact ⟨fv', fw', gv, gw, ht, hk.trans hk1 fun k hlt e => by have := (h.one.lt k e).1; omega⟩
theorem TwinAt.right {w wr w1 : World} {fv fw gv gw : Value} {s t t' : St} (h : Twin wr w.heap.size w.heap.size (w.heap.size + 2) (w.heap.size + 1) (w.heap.size + 3) fv fw gv gw s t) (hk : Kept (fun _ => False) w wr)
    (hn : Next wr w.heap.size (w.heap.size + 1) (w.heap.size + 3) gv gw t' w1) : TwinAt w s t' w1 := by
  obtain ⟨gv', gw', ht, hk1⟩ := h.right hn
  exact ⟨fv, fw, gv', gw', ht, hk.trans hk1 fun k hlt e => by have := (h.two.lt k e).1; omega⟩

set_option maxRecDepth 100000 in
set_option maxHeartbeats 3200000 in
theorem Two_yes (window push : Int) (A : Option Addr) (l : List Stp) (c : Nat) (B : Option Addr) (m : List Stp) (d : Nat) (w : World) (hl : StepsAt w A l) (hm : StepsAt w B m) (h1 : l.length ≤ 500) (h2 : m.length ≤ 500) (hok : okNew window push = true) :
    Calls Try.prog 5 #[.int .i64 window, .int .i64 push, .slice A l.length c, .slice B m.length d] w (TrueNew w) := by
  have h1' : (l.length : Int) ≤ 500 := by omega
  have h2' : (m.length : Int) ≤ 500 := by omega
  have HOK := Lib.hid hok
  have HT := Lib.hid (twin_new w window push hok)
  have hk0 : Kept (fun _ => False) w ((((w.alloc (.cells ((St.new window push).cells (.slice none 0 0)) 39)).alloc (.cells ((St.new 3 4).cells (.slice none 0 0)) 39)).alloc (.cells ((St.new window push).cells (.slice none 0 0)) 41)).alloc (.cells ((St.new 3 4).cells (.slice none 0 0)) 41)) := ((((Kept.refl _ _).alloc _).alloc _).alloc _).alloc _
  have HK0 := Lib.hid hk0
  have HL := Lib.hid hl
  have HM := Lib.hid hm
  clear hok hk0 hm hl h1 h2
  go_enter Try.func5, Try.ntmps5
  go_wp2_with (fail)
  refine (New_yes window push _ HOK.out).mono ?_
  rintro e w1 ⟨rfl, rfl⟩
  go_wp2_with (fail)
  refine (New_yes 3 4 _ (by decide)).mono ?_
  rintro e w1 ⟨rfl, rfl⟩
  go_wp2_with (fail)
  refine (RNew_yes window push _ HOK.out).mono ?_
  rintro e w1 ⟨rfl, rfl⟩
  go_wp2_with (fail)
  refine (RNew_yes 3 4 _ (by decide)).mono ?_
  rintro e w1 ⟨rfl, rfl⟩
  go_wp2_with (fail)
  generalize (((w.alloc (.cells ((St.new window push).cells (.slice none 0 0)) 39)).alloc (.cells ((St.new 3 4).cells (.slice none 0 0)) 39)).alloc (.cells ((St.new window push).cells (.slice none 0 0)) 41)).alloc (.cells ((St.new 3 4).cells (.slice none 0 0)) 41) = w0 at HT HK0 ⊢
  go_loopw [17] (fun i wr => ∃ k, i = .int .i64 (k : Nat) ∧ k ≤ 500 ∧ TwinAt w (runTo (St.new window push) l k) (runTo (St.new 3 4) m k) wr) (fun i _ => 500 - (intOf i).toNat)
  case atStart => exact ⟨0, rfl, Nat.zero_le _, _, _, _, _, HT.out, HK0.out⟩
  case round =>
    obtain ⟨k, rfl, hk, fv, fw, gv, gw, ht, hkw⟩ := hrel
    have HP := Lib.hid ht
    have HKW := Lib.hid hkw
    have hx := fun h => HL.out.fresh hkw k h
    have HX := Lib.hid hx
    have HY := Lib.hid fun h => HM.out.fresh hkw k h
    clear ht hkw hx
    by_cases hll : k < l.length
    · obtain ⟨ad, rfl, x0, x1, x2, x3⟩ := HX.out hll
      go_wp2_with (fail)
      refine (does_any w.heap.size w.heap.size (w.heap.size + 2) fv fw _ l[k].kind l[k].num l[k].got l[k].credit _ HP.out.one HKW.out.size).mono ?_
      rintro e w2 ⟨rfl, hn⟩
      have hat := TwinAt.left HP.out HKW.out hn
      obtain ⟨fv2, fw2, gv2, gw2, ht2, hkw2⟩ := hat
      have HP2 := Lib.hid ht2
      have HKW2 := Lib.hid hkw2
      by_cases hlm : k < m.length
      · obtain ⟨ad', rfl, y0, y1, y2, y3⟩ := HM.out.fresh hkw2 k hlm
        clear hn ht2 hkw2 x0 x1 x2 x3
        go_wp2_with (fail)
        refine (does_any w.heap.size (w.heap.size + 1) (w.heap.size + 3) gv2 gw2 _ m[k].kind m[k].num m[k].got m[k].credit _ HP2.out.two HKW2.out.size).mono ?_
        rintro e w3 ⟨rfl, hn⟩
        have HN := Lib.hid (TwinAt.right HP2.out HKW2.out hn)
        clear hn
        go_wp2
        go_roundw
        case rel => exact ⟨k + 1, by go_num, by omega, by rw [runTo_succ _ _ _ hll, runTo_succ _ _ _ hlm]; exact HN.out⟩
        case measure => simp [intOf]; omega
      · clear hn ht2 hkw2
        go_wp2
        go_roundw
        case rel => exact ⟨k + 1, by go_num, by omega, by rw [runTo_succ _ _ _ hll, runTo_over _ _ _ hlm]; exact ⟨_, _, _, _, HP2.out, HKW2.out⟩⟩
        case measure => simp [intOf]; omega
    · by_cases hlm : k < m.length
      · obtain ⟨ad', rfl, y0, y1, y2, y3⟩ := HY.out hlm
        go_wp2_with (fail)
        refine (does_any w.heap.size (w.heap.size + 1) (w.heap.size + 3) gv gw _ m[k].kind m[k].num m[k].got m[k].credit _ HP.out.two HKW.out.size).mono ?_
        rintro e w3 ⟨rfl, hn⟩
        have HN := Lib.hid (TwinAt.right HP.out HKW.out hn)
        clear hn
        go_wp2
        go_roundw
        case rel => exact ⟨k + 1, by go_num, by omega, by rw [runTo_over _ _ _ hll, runTo_succ _ _ _ hlm]; exact HN.out⟩
        case measure => simp [intOf]; omega
      · go_wp2_with (fail)
        refine (known_any _).mono ?_
        rintro e w1 ⟨rfl, hk⟩
        have HK := Lib.hid hk
        clear hk
        go_wp2
        go_ret
        exact ⟨rfl, HKW.out.trans HK.out fun _ _ e => e⟩

theorem Two_walk (window push : Int) (A : Option Addr) (l : List Stp) (c : Nat) (B : Option Addr) (m : List Stp) (d : Nat) (w : World) (hl : StepsAt w A l) (hm : StepsAt w B m) :
    Calls Try.prog 5 #[.int .i64 window, .int .i64 push, .slice A l.length c, .slice B m.length d] w (TrueNew w) := by
  by_cases h : 500 < l.length ∨ 500 < m.length
  · exact Two_500 window push A l c B m d w h
  · cases hok : okNew window push with
    | false => exact Two_no window push A l c B m d w hm (by omega) (by omega) hok
    | true => exact Two_yes window push A l c B m d w hl hm (by omega) (by omega) hok
end Go.Proofs.Ytadamldglebgmaa
