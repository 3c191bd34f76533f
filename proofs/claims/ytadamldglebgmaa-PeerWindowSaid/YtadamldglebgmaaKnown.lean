/- The walk of the law's known: the document's own example. No condition. -/
import Derived.Test.YtadamldglebgmaaDoes
namespace Go.Proofs.Ytadamldglebgmaa
open Go.RowKit

/-- true, and nothing that was there has turned -/
def TrueNew (w : World) (e : Ending) (w' : World) : Prop := e = .returned (.bool true) ∧ Kept (fun _ => False) w w'

section
variable {w w1 : World} {b : Nat} {fv : Value} {s : St} {T : TypeId} {B : Nat}
theorem newer (h : PeerAt w B T b fv s) (hk : Kept (OwnsB b fv) w w1) {w0 : World} (h0 : Kept (fun _ => False) w0 w) (hB : w0.heap.size ≤ B) : Kept (fun _ => False) w0 w1 :=
  h0.trans hk fun k hlt e => by have := (h.own_lt k e).1; omega
end

def k0 : St := St.new 2 5
def k1 : St := k0.sent 9
def k2 : St := k1.sent 3
def k3 : St := k2.sent 9
def k4 : St := k3.heard 4 1 2
def k5 : St := k4.sent 9
theorem n0 : k0.sendNum 9 = 1 ∧ k0.sendCount 9 = 5 := by decide
theorem n1 : k1.sendNum 3 = 2 ∧ k1.sendCount 3 = 3 := by decide
theorem n2 : k2.sendNum 9 = 1 ∧ k2.sendCount 9 = 5 := by decide
theorem n3 : k3.heardSome 1 = true := by decide
theorem n4 : k4.sendNum 9 = 3 ∧ k4.sendCount 9 = 2 := by decide
theorem n5 : k5.fl = [2, 3] ∧ k5.got = 4 ∧ k5.credit = 2 := by decide
theorem g0 : Good k0 := Good.new (by decide)
theorem g1 : Good k1 := g0.sent 9
theorem g2 : Good k2 := g1.sent 3
theorem g3 : Good k3 := g2.sent 9
theorem g4 : Good k4 := g3.heard 4 1 2
theorem g5 : Good k5 := g4.sent 9

set_option maxRecDepth 100000 in
set_option maxHeartbeats 1600000 in
theorem known_any (w : World) : Calls Try.prog 12 #[] w (TrueNew w) := by
  have hp0 := PeerAt.new w w.heap.size (Nat.le_refl _) 39 k0 rfl
  have hk0 : Kept (fun _ => False) w (w.alloc (.cells (k0.cells (.slice none 0 0)) 39)) := (Kept.refl _ _).alloc _
  go_enter Try.func12, Try.ntmps12
  go_wp2_with (fail)
  refine (New_yes 2 5 w (by decide)).mono ?_
  rintro e w0 ⟨rfl, rfl⟩
  change PeerAt (w.alloc (.cells ((St.new 2 5).cells (.slice none 0 0)) 39)) _ _ _ _ _ at hp0
  change Kept _ _ (w.alloc (.cells ((St.new 2 5).cells (.slice none 0 0)) 39)) at hk0
  generalize w.alloc (.cells ((St.new 2 5).cells (.slice none 0 0)) 39) = w0 at hp0 hk0 ⊢
  obtain ⟨b, hb⟩ : ∃ b, b = w.heap.size := ⟨_, rfl⟩
  rw [← hb] at hp0 ⊢
  have HB := Lib.hid (Nat.le_of_eq hb.symm)
  have HP0 := Lib.hid hp0
  have HK0 := Lib.hid hk0
  clear hp0 hk0 hb
  go_wp2_with (fail)
  refine (Send_any _ b _ k0 9 _ HP0.out g0 (Nat.le_of_lt HP0.out.box.lt)).mono ?_
  rintro e w1 ⟨rfl, fv1, hp1, hk1, _⟩
  rw [n0.1, n0.2]
  have HP1 := Lib.hid hp1
  have HK1 := Lib.hid (newer HP0.out hk1 HK0.out HB.out)
  clear hp1 hk1
  go_wp2_with (fail)
  refine (Send_any _ b _ k1 3 _ HP1.out g1 (Nat.le_of_lt HP1.out.box.lt)).mono ?_
  rintro e w2 ⟨rfl, fv2, hp2, hk2, _⟩
  rw [n1.1, n1.2]
  have HP2 := Lib.hid hp2
  have HK2 := Lib.hid (newer HP1.out hk2 HK1.out HB.out)
  clear hp2 hk2
  go_wp2_with (fail)
  refine (Send_any _ b _ k2 9 _ HP2.out g2 (Nat.le_of_lt HP2.out.box.lt)).mono ?_
  rintro e w3 ⟨rfl, fv3, hp3, hk3, _⟩
  rw [n2.1, n2.2]
  have HP3 := Lib.hid hp3
  have HK3 := Lib.hid (newer HP2.out hk3 HK2.out HB.out)
  clear hp3 hk3
  go_wp2_with (fail)
  refine (Heard_any _ b _ k3 4 1 2 _ HP3.out g3).mono ?_
  rintro e w4 ⟨rfl, fv4, hp4, hk4, _⟩
  rw [n3]
  have HP4 := Lib.hid hp4
  have HK4 := Lib.hid (newer HP3.out hk4 HK3.out HB.out)
  clear hp4 hk4
  go_wp2_with (fail)
  refine (Send_any _ b _ k4 9 _ HP4.out g4 (Nat.le_of_lt HP4.out.box.lt)).mono ?_
  rintro e w5 ⟨rfl, fv5, hp5, hk5, _⟩
  rw [n4.1, n4.2]
  have HP5 := Lib.hid hp5
  have HK5 := Lib.hid (newer HP4.out hk5 HK4.out HB.out)
  clear hp5 hk5
  go_wp2_with (fail)
  refine (Flight_any _ b _ k5 _ HP5.out g5).mono ?_
  rintro e w6 hf
  obtain ⟨A, c, rfl, ho6, hk6, hs6, _⟩ := hf.form
  rw [n5.1] at hs6 ⊢
  have HK6 := Lib.hid (HK5.out.trans hk6 fun _ _ e => e)
  have HP6 := Lib.hid (HP5.out.kept hk6 fun _ _ => id)
  have HS6 := Lib.hid hs6
  clear hf ho6 hk6 hs6
  go_wp2_with (fail)
  have hk7 : Kept (fun _ => False) w6 (w6.alloc (.cells #[.int .i64 2, .int .i64 3] 3)) := (Kept.refl _ _).alloc _
  have hs7 : Seq (w6.alloc (.cells #[.int .i64 2, .int .i64 3] 3)) (some ⟨w6.heap.size, 0, none⟩) [2, 3] := fun k hk => by
    refine ⟨_, rfl, ?_⟩
    rw [add_none, (Box.new w6 3 #[.int .i64 2, .int .i64 3]).cell k]
    match k, hk with
    | 0, _ => rfl
    | 1, _ => rfl
  have HS7 := Lib.hid hs7
  have HS6' := Lib.hid (HS6.out.kept hk7 fun _ _ => id)
  have HK7 := Lib.hid (HK6.out.trans hk7 fun _ _ e => e)
  have HP7 := Lib.hid (HP6.out.kept hk7 fun _ _ => id)
  clear hk7 hs7
  generalize w6.alloc (.cells #[.int .i64 2, .int .i64 3] 3) = w7 at HS7 HS6' HK7 HP7 ⊢
  refine (ints_same A (some ⟨w6.heap.size, 0, none⟩) [2, 3] c 2 _ HS6'.out HS7.out (by decide)).mono ?_
  rintro e w8 ⟨rfl, n, rfl⟩
  go_wp2_with (fail)
  refine (Got_any _ b _ k5 _ (HP7.out.drewN n)).mono ?_
  rintro e w9 ⟨rfl, rfl⟩
  rw [n5.2.1]
  go_wp2_with (fail)
  refine (Credit_any _ b _ k5 _ (HP7.out.drewN n)).mono ?_
  rintro e w9 ⟨rfl, rfl⟩
  rw [n5.2.2]
  go_wp2
  go_ret
  exact ⟨rfl, HK7.out.drewN n⟩
end Go.Proofs.Ytadamldglebgmaa
