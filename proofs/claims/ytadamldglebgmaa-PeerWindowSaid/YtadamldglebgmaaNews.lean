/- The walk of the law PeerNews: it returns true, whatever the two numbers. No condition. -/
import Derived.Test.YtadamldglebgmaaKnown
namespace Go.Proofs.Ytadamldglebgmaa
open Go.RowKit

theorem pair_new (w : World) (base : Nat) (hb : base ≤ w.heap.size) (window push : Int) (h : okNew window push = true) :
    Pair ((w.alloc (.cells ((St.new window push).cells (.slice none 0 0)) 39)).alloc (.cells ((St.new window push).cells (.slice none 0 0)) 41)) base w.heap.size (w.heap.size + 1) (.slice none 0 0) (.slice none 0 0) (St.new window push) := by
  have h1 := PeerAt.new w base hb 39 (St.new window push) rfl
  have h2 := PeerAt.new (w.alloc (.cells ((St.new window push).cells (.slice none 0 0)) 39)) base (by simp; omega) 41 (St.new window push) rfl
  refine ⟨h1.kept (S := fun _ => False) ((Kept.refl _ _).alloc _) fun _ _ => id, ?_, fun k e => (by cases e), Good.new h⟩
  simpa using h2

theorem Next.new {w w1 w2 : World} {base bp bw : Nat} {fv fw : Value} {s s' : St} (h0 : Kept (fun _ => False) w w1) (hp : Pair w1 base bp bw fv fw s) (hB : w.heap.size ≤ base) (h : Next w1 base bp bw fv fw s' w2) : Kept (fun _ => False) w w2 := by
  obtain ⟨fv1, fw1, _, hk, _, _⟩ := h
  exact h0.trans hk fun k hlt e => by have := (hp.lt k e).1; omega

set_option maxRecDepth 100000 in
set_option maxHeartbeats 800000 in
theorem News_walk (window push : Int) (w : World) : Calls Try.prog 3 #[.int .i64 window, .int .i64 push] w (TrueNew w) := by
  cases hok : okNew window push with
  | false =>
    have HOK := Lib.hid hok
    clear hok
    go_enter Try.func3, Try.ntmps3
    go_wp2_with (fail)
    refine (New_no window push _ HOK.out).mono ?_
    rintro e w1 ⟨rfl, rfl⟩
    go_wp2_with (fail)
    refine (RNew_no window push _ HOK.out).mono ?_
    rintro e w1 ⟨rfl, rfl⟩
    go_wp2_with (fail)
    refine (known_any _).mono ?_
    rintro e w1 ⟨rfl, hk⟩
    have HK := Lib.hid hk
    clear hk
    go_wp2
    go_ret
    exact ⟨rfl, HK.out⟩
  | true =>
    have HOK := Lib.hid hok
    have hpair := pair_new w w.heap.size (Nat.le_refl _) window push hok
    have hk0 : Kept (fun _ => False) w ((w.alloc (.cells ((St.new window push).cells (.slice none 0 0)) 39)).alloc (.cells ((St.new window push).cells (.slice none 0 0)) 41)) := ((Kept.refl _ _).alloc _).alloc _
    have HPA := Lib.hid hpair
    have HK0 := Lib.hid hk0
    clear hok hpair hk0
    go_enter Try.func3, Try.ntmps3
    go_wp2_with (fail)
    refine (New_yes window push _ HOK.out).mono ?_
    rintro e w1 ⟨rfl, rfl⟩
    go_wp2_with (fail)
    refine (RNew_yes window push _ HOK.out).mono ?_
    rintro e w1 ⟨rfl, rfl⟩
    go_wp2_with (fail)
    go_fit (does_any w.heap.size w.heap.size (w.heap.size + 1) _ _ _ 0 0 0 0 _ HPA.out HK0.out.size)
    rintro e w2 ⟨rfl, hn⟩
    have HN := Lib.hid (Next.new HK0.out HPA.out (Nat.le_refl _) hn)
    clear hn
    go_wp2_with (fail)
    refine (known_any _).mono ?_
    rintro e w3 ⟨rfl, hk⟩
    have HK := Lib.hid hk
    clear hk
    go_wp2
    go_ret
    exact ⟨rfl, HN.out.trans HK.out fun _ _ e => e⟩
end Go.Proofs.Ytadamldglebgmaa
