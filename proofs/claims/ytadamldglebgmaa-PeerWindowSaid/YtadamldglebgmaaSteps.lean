/- A script in memory: a slice of steps, each of four numbers. -/
import Derived.Test.YtadamldglebgmaaNews
namespace Go.Proofs.Ytadamldglebgmaa
open Go.RowKit

structure Stp where
  kind : Int
  num : Int
  got : Int
  credit : Int

def St.does (s : St) (x : Stp) : St := s.step x.kind x.num x.got x.credit
theorem Good.does {s : St} (h : Good s) (x : Stp) : Good (s.does x) := h.step _ _ _ _

def StepsAt (w : World) (A : Option Addr) (l : List Stp) : Prop := ∀ k (h : k < l.length), ∃ ad, A = some ad ∧
  w.cell? (ad.add (k * 4)) = some (.int .i64 l[k].kind) ∧ w.cell? ⟨(ad.add (k * 4)).block, (ad.add (k * 4)).off + 1, none⟩ = some (.int .i64 l[k].num) ∧
  w.cell? ⟨(ad.add (k * 4)).block, (ad.add (k * 4)).off + 2, none⟩ = some (.int .i64 l[k].got) ∧ w.cell? ⟨(ad.add (k * 4)).block, (ad.add (k * 4)).off + 3, none⟩ = some (.int .i64 l[k].credit)

theorem StepsAt.kept {w w' : World} {A : Option Addr} {l : List Stp} {S : Nat → Prop} (h : StepsAt w A l) (hk : Kept S w w') (hS : ∀ k, k < w.heap.size → ¬ S k) : StepsAt w' A l := fun k hlt => by
  obtain ⟨ad, he, h0, h1, h2, h3⟩ := h k hlt
  have go : ∀ a v, w.cell? a = some v → w'.cell? a = some v := fun n v hv => by
    rw [World.cell?_of_block (w := w) (hk.block _ (World.block_lt_of_cell? w _ hv) (hS _ (World.block_lt_of_cell? w _ hv)))]
    exact hv
  exact ⟨ad, he, go _ _ h0, go _ _ h1, go _ _ h2, go _ _ h3⟩
theorem StepsAt.fresh {w w' : World} {A : Option Addr} {l : List Stp} (h : StepsAt w A l) (hk : Kept (fun _ => False) w w') : StepsAt w' A l := h.kept hk fun _ _ => id

def runTo (s : St) (l : List Stp) (k : Nat) : St := (l.take k).foldl St.does s
theorem runTo_succ (s : St) (l : List Stp) (k : Nat) (h : k < l.length) : runTo s l (k + 1) = (runTo s l k).does l[k] := by
  unfold runTo
  rw [List.take_succ_eq_append_getElem h, List.foldl_append]
  rfl

set_option maxRecDepth 100000 in
set_option maxHeartbeats 1600000 in
theorem Plays_walk (window push : Int) (A : Option Addr) (l : List Stp) (c : Nat) (w : World) (hl : StepsAt w A l) (hlen : l.length ≤ 9223372036854775807) :
    Calls Try.prog 4 #[.int .i64 window, .int .i64 push, .slice A l.length c] w (TrueNew w) := by
  by_cases h500 : 500 < l.length
  · have h500' : (500 : Int) < (l.length : Int) := by omega
    clear h500
    go_enter Try.func4, Try.ntmps4
    go_wp2_with (fail)
    refine (known_any _).mono ?_
    rintro e w1 ⟨rfl, hk⟩
    have HK := Lib.hid hk
    clear hk
    go_wp2
    go_ret
    exact ⟨rfl, HK.out⟩
  cases hok : okNew window push with
  | false =>
    have HOK := Lib.hid hok
    clear hok
    go_enter Try.func4, Try.ntmps4
    go_wp2_with (fail)
    refine (New_no window push _ HOK.out).mono ?_
    rintro e w1 ⟨rfl, rfl⟩
    go_wp2_with (fail)
    refine (RNew_no window push _ HOK.out).mono ?_
    rintro e w1 ⟨rfl, rfl⟩
    go_wp2_with (fail)
    refine wp_loop_rounds 1 ?_
    rw [rounds_succ]
    go_wp2_with (go_at_call 12; refine (known_any _).mono ?_; rintro e w1 ⟨rfl, hk⟩; have HK := Lib.hid hk; clear hk)
    all_goals go_ret
    all_goals exact ⟨rfl, HK.out⟩
  | true =>
    have HOK := Lib.hid hok
    have hpair := pair_new w w.heap.size (Nat.le_refl _) window push hok
    have hk0 : Kept (fun _ => False) w ((w.alloc (.cells ((St.new window push).cells (.slice none 0 0)) 39)).alloc (.cells ((St.new window push).cells (.slice none 0 0)) 41)) := ((Kept.refl _ _).alloc _).alloc _
    have HPA := Lib.hid hpair
    have HK0 := Lib.hid hk0
    have HL := Lib.hid hl
    clear hok hpair hk0 hl
    go_enter Try.func4, Try.ntmps4
    go_wp2_with (fail)
    refine (New_yes window push _ HOK.out).mono ?_
    rintro e w1 ⟨rfl, rfl⟩
    go_wp2_with (fail)
    refine (RNew_yes window push _ HOK.out).mono ?_
    rintro e w1 ⟨rfl, rfl⟩
    go_wp2_with (fail)
    generalize (w.alloc (.cells ((St.new window push).cells (.slice none 0 0)) 39)).alloc (.cells ((St.new window push).cells (.slice none 0 0)) 41) = w0 at HPA HK0 ⊢
    go_loopw [11] (fun i wr => ∃ k fv fw, i = .int .i64 (k : Nat) ∧ k ≤ l.length ∧ Pair wr w.heap.size w.heap.size (w.heap.size + 1) fv fw (runTo (St.new window push) l k) ∧ Kept (fun _ => False) w wr) (fun i _ => l.length - (intOf i).toNat)
    case atStart => exact ⟨0, _, _, rfl, Nat.zero_le _, HPA.out, HK0.out⟩
    case round =>
      obtain ⟨k, fv, fw, rfl, hk, hp, hkw⟩ := hrel
      have HP := Lib.hid hp
      have HKW := Lib.hid hkw
      by_cases hlt : k < l.length
      · obtain ⟨ad, rfl, x0, x1, x2, x3⟩ := HL.out.fresh hkw k hlt
        clear hp hkw
        go_wp2_with (fail)
        refine (does_any w.heap.size w.heap.size (w.heap.size + 1) fv fw _ l[k].kind l[k].num l[k].got l[k].credit _ HP.out HKW.out.size).mono ?_
        rintro e w2 ⟨rfl, hn⟩
        have HN := Lib.hid hn
        clear hn
        go_wp2
        go_roundw
        case rel =>
          obtain ⟨fv1, fw1, hp1, hk1, _, _⟩ := HN.out
          exact ⟨k + 1, fv1, fw1, by go_num, by omega, by rw [runTo_succ _ _ _ hlt]; exact hp1, Next.new HKW.out HP.out (Nat.le_refl _) HN.out⟩
        case measure => simp [intOf]; omega
      · clear hp hkw
        go_wp2_with (fail)
        refine (known_any _).mono ?_
        rintro e w1 ⟨rfl, hk⟩
        have HK := Lib.hid hk
        clear hk
        go_wp2
        go_ret
        exact ⟨rfl, HKW.out.trans HK.out fun _ _ e => e⟩
end Go.Proofs.Ytadamldglebgmaa
