/- The walk of the law PeerNothing: it returns true, whatever the script: a nil Peer, a zero one. Conditions: the script lies in memory as StepsAt says. -/
import Derived.Test.YtadamldglebgmaaTwo
namespace Go.Proofs.Ytadamldglebgmaa
open Go.RowKit

section
variable (w : World)
theorem NClear : Calls Try.prog 13 #[.pointer none] w fun e w' => e = .returned (.tuple #[]) ∧ w = w' := by
  go_enter Try.func13, Try.ntmps13
  go_wp2
  go_end0
  exact ⟨rfl, rfl⟩
theorem NSend (n : Int) : Calls Try.prog 14 #[.pointer none, .int .i64 n] w fun e w' => e = .returned (.tuple #[.int .i64 0, .int .i64 0]) ∧ w = w' := by
  go_enter Try.func14, Try.ntmps14
  go_wp2
  go_ret2
  exact ⟨rfl, rfl⟩
theorem NHeard (a b c : Int) : Calls Try.prog 15 #[.pointer none, .int .i64 a, .int .i64 b, .int .i64 c] w fun e w' => e = .returned (.bool false) ∧ w = w' := by
  go_enter Try.func15, Try.ntmps15
  go_wp2
  go_ret
  exact ⟨rfl, rfl⟩
theorem NFlight : Calls Try.prog 16 #[.pointer none] w fun e w' => e = .returned (.slice none 0 0) ∧ Kept (fun _ => False) w w' := by
  go_enter Try.func16, Try.ntmps16
  go_wp2
  go_ret
  exact ⟨rfl, (Kept.refl _ _).alloc _⟩
theorem NGot : Calls Try.prog 17 #[.pointer none] w fun e w' => e = .returned (.int .i64 0) ∧ w = w' := by
  go_enter Try.func17, Try.ntmps17
  go_wp2
  go_ret
  exact ⟨rfl, rfl⟩
theorem NCredit : Calls Try.prog 18 #[.pointer none] w fun e w' => e = .returned (.int .i64 0) ∧ w = w' := by
  go_enter Try.func18, Try.ntmps18
  go_wp2
  go_ret
  exact ⟨rfl, rfl⟩
end

def St.zero : St := ⟨0, 0, 0, [], 0, 0⟩
theorem Good.zero : Good St.zero := by constructor <;> simp [St.zero]
theorem pair_zero (w : World) : Pair ((w.alloc (.cells (St.zero.cells (.slice none 0 0)) 39)).alloc (.cells (St.zero.cells (.slice none 0 0)) 41)) w.heap.size w.heap.size (w.heap.size + 1) (.slice none 0 0) (.slice none 0 0) St.zero :=
  pair_at _ _ _ _ (Nat.le_refl _) (by omega) _ rfl Good.zero ((Box.new w 39 _).alloc _) (by simpa using Box.new (w.alloc (.cells (St.zero.cells (.slice none 0 0)) 39)) 41 (St.zero.cells (.slice none 0 0)))

set_option maxRecDepth 100000 in
set_option maxHeartbeats 1600000 in
theorem Nothing_walk (A : Option Addr) (l : List Stp) (c : Nat) (w : World) (hl : StepsAt w A l) :
    Calls Try.prog 6 #[.slice A l.length c] w (TrueNew w) := by
  by_cases h500 : 500 < l.length
  · have h500' : (500 : Int) < (l.length : Int) := by omega
    clear h500
    go_enter Try.func6, Try.ntmps6
    go_wp2_with (fail)
    refine (known_any _).mono ?_
    rintro e w1 ⟨rfl, hk⟩
    have HK := Lib.hid hk
    clear hk
    go_wp2
    go_ret
    exact ⟨rfl, HK.out⟩
  have hpair := pair_zero w
  have hk0 : Kept (fun _ => False) w ((w.alloc (.cells (St.zero.cells (.slice none 0 0)) 39)).alloc (.cells (St.zero.cells (.slice none 0 0)) 41)) := ((Kept.refl _ _).alloc _).alloc _
  have hz : St.zero.cells (.slice none 0 0) = #[.int .i64 0, .int .i64 0, .int .i64 0, .slice none 0 0, .int .i64 0, .int .i64 0] := rfl
  rw [hz] at hpair hk0
  have HPA := Lib.hid hpair
  have HK0 := Lib.hid hk0
  have HL := Lib.hid hl
  clear hpair hk0 hl hz
  go_enter Try.func6, Try.ntmps6
  go_wp2_with (fail)
  generalize (w.alloc (.cells #[.int .i64 0, .int .i64 0, .int .i64 0, .slice none 0 0, .int .i64 0, .int .i64 0] 39)).alloc (.cells #[.int .i64 0, .int .i64 0, .int .i64 0, .slice none 0 0, .int .i64 0, .int .i64 0] 41) = w0 at HPA HK0 ⊢
  go_loopw [6] (fun i wr => ∃ k fv fw, i = .int .i64 (k : Nat) ∧ k ≤ l.length ∧ Pair wr w.heap.size w.heap.size (w.heap.size + 1) fv fw (runTo St.zero l k) ∧ Kept (fun _ => False) w wr) (fun i _ => l.length - (intOf i).toNat)
  case atStart => exact ⟨0, _, _, rfl, Nat.zero_le _, HPA.out, HK0.out⟩
  case round =>
    obtain ⟨k, fv, fw, rfl, hk, hp, hkw⟩ := hrel
    have HP := Lib.hid hp
    have HKW := Lib.hid hkw
    by_cases hlt : k < l.length
    · obtain ⟨ad, rfl, x0, x1, x2, x3⟩ := HL.out.fresh hkw k hlt
      have hX := Box.new wr 31 #[.int .i64 l[k].kind, .int .i64 l[k].num, .int .i64 l[k].got, .int .i64 l[k].credit]
      have hkX : Kept (fun _ => False) wr (wr.alloc (.cells #[.int .i64 l[k].kind, .int .i64 l[k].num, .int .i64 l[k].got, .int .i64 l[k].credit] 31)) := (Kept.refl _ _).alloc _
      have hgX : ∀ j, Owns2 w.heap.size (w.heap.size + 1) fv fw j → j ≠ wr.heap.size := fun j hj e => by have := (hp.lt j hj).2; omega
      have HGX := Lib.hid hgX
      have HBX := Lib.hid hX
      have HKX := Lib.hid hkX
      clear hp hkw hX hkX hgX
      go_wp2_with (fail)
      generalize wr.alloc (.cells #[.int .i64 l[k].kind, .int .i64 l[k].num, .int .i64 l[k].got, .int .i64 l[k].credit] 31) = W at HBX HKX ⊢
      have b0 : W.cell? ⟨wr.heap.size, 0, none⟩ = some (.int .i64 l[k].kind) := by simpa using HBX.out.cell 0
      have b1 : W.cell? ⟨wr.heap.size, 1, none⟩ = some (.int .i64 l[k].num) := by simpa using HBX.out.cell 1
      have b2 : W.cell? ⟨wr.heap.size, 2, none⟩ = some (.int .i64 l[k].got) := by simpa using HBX.out.cell 2
      have b3 : W.cell? ⟨wr.heap.size, 3, none⟩ = some (.int .i64 l[k].credit) := by simpa using HBX.out.cell 3
      clear x0 x1 x2 x3
      refine (NClear _).mono ?_
      rintro e w1 ⟨rfl, rfl⟩
      go_wp2_with (fail)
      refine (NSend _ _).mono ?_
      rintro e w1 ⟨rfl, rfl⟩
      go_wp2_with (fail)
      have HKW' := Lib.hid (HKW.out.trans HKX.out fun _ _ e => e)
      have HP' := Lib.hid (HP.out.fresh HKX.out)
      refine (does_any w.heap.size w.heap.size (w.heap.size + 1) fv fw _ l[k].kind l[k].num l[k].got l[k].credit _ HP'.out HKW'.out.size).mono ?_
      rintro e w2 ⟨rfl, hn⟩
      have hx2 : Box w2 wr.heap.size 31 #[.int .i64 l[k].kind, .int .i64 l[k].num, .int .i64 l[k].got, .int .i64 l[k].credit] := by
        obtain ⟨_, _, _, hk1, _, _⟩ := hn
        exact HBX.out.kept hk1 fun e => HGX.out _ e rfl
      have d1 : w2.cell? ⟨wr.heap.size, 1, none⟩ = some (.int .i64 l[k].num) := by simpa using hx2.cell 1
      have d2 : w2.cell? ⟨wr.heap.size, 2, none⟩ = some (.int .i64 l[k].got) := by simpa using hx2.cell 2
      have d3 : w2.cell? ⟨wr.heap.size, 3, none⟩ = some (.int .i64 l[k].credit) := by simpa using hx2.cell 3
      have HN := Lib.hid hn
      clear hn b0 b1 b2 b3 hx2
      go_wp2_with (fail)
      refine (NHeard _ _ _ _).mono ?_
      rintro e w3 ⟨rfl, rfl⟩
      go_wp2_with (fail)
      refine (NFlight _).mono ?_
      rintro e w3 ⟨rfl, hk3⟩
      have HK3 := Lib.hid hk3
      clear hk3
      go_wp2_with (fail)
      refine (NGot _).mono ?_
      rintro e w4 ⟨rfl, rfl⟩
      go_wp2_with (fail)
      refine (NCredit _).mono ?_
      rintro e w4 ⟨rfl, rfl⟩
      go_wp2
      go_roundw
      case rel =>
        obtain ⟨fv1, fw1, hp1, hk1, _, _⟩ := HN.out.after HK3.out
        exact ⟨k + 1, fv1, fw1, by go_num, by omega, by rw [runTo_succ _ _ _ hlt]; exact hp1, Next.new HKW'.out HP'.out (Nat.le_refl _) (HN.out.after HK3.out)⟩
      case measure => simp [intOf]; omega
    · clear hp hkw
      go_wp2_with (fail)
      refine (known_any _).mono ?_
      rintro e w1 ⟨rfl, hk⟩
      have HK := Lib.hid hk
      clear hk
      go_wp2
      go_ret
      exact ⟨rfl, HKW.out.trans HK.out fun _ _ e => e⟩
end Go.Proofs.Ytadamldglebgmaa
