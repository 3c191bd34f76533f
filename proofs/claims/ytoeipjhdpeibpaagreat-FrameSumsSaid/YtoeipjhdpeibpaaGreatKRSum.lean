/- The reference's Sum walked: the sum of bytes. Conditions: the bytes lie in memory; no more than an int counts. -/
import Derived.Test.YtoeipjhdpeibpaaGreatKSum
namespace Go.Proofs.YtoeipjhdpeibpaaGreat
open Go Go.RowKit

set_option maxRecDepth 100000 in
set_option maxHeartbeats 1600000 in
theorem RSum_any (A : Option Addr) (l : List Int) (c : Nat) (w : World) (hl : BytesAt w A l) (hb : isByte l) (hlen : l.length ≤ 4611686018427387904) : Calls Tryz.prog 6 #[.slice A l.length c] w (SumPost w l) := by
  have HL2 := Lib.hid hl
  have HBY := Lib.hid hb
  have HN := Lib.hid (not_u32 (sumF l) (sumF_lt l hb))
  clear hl hb
  obtain ⟨w2, rfl⟩ : ∃ w2, w2 = w := ⟨_, rfl⟩
  go_enter Tryz.func6, Tryz.ntmps6
  go_wp2_with (fail)
  go_loopw [4, 3] (fun i v wx => ∃ k : Nat, i = .int .i64 k ∧ k ≤ l.length ∧ v = .int .u32 ((sumF (l.take k) : Nat) : Int) ∧ wx = w2) (fun i _ _ => l.length - (intOf i).toNat)
  case atStart => exact ⟨0, rfl, Nat.zero_le _, rfl, rfl⟩
  case round =>
    obtain ⟨k, rfl, hk, rfl, rfl⟩ := hrel
    by_cases hlt : k < l.length
    · obtain ⟨ad, rfl, x0⟩ := HL2.out k hlt
      have hbb := HBY.out l[k] (List.getElem_mem hlt)
      have HS := Lib.hid (sumF_take hlt)
      have hs0 : sumF (l.take k) < 4294967296 := sumF_lt _ fun b hb => HBY.out b (List.mem_of_mem_take hb)
      generalize l[k] = b at x0 hbb HS
      generalize sumF (l.take k) = s at hs0 HS ⊢
      obtain ⟨b, rfl⟩ := Int.eq_ofNat_of_zero_le hbb.1
      have hw : IntKind.u32.wrap (b : Int) = (b : Int) := by rw [IntKind.wrap_u32']; omega
      have q0 : s ^^^ b < 4294967296 := Nat.xor_lt_two_pow (n := 32) hs0 (by omega)
      have e0 : bits .xor .u32 (s : Int) (b : Int) = ((s ^^^ b : Nat) : Int) := u32_xor_nat _ _ hs0 (by omega)
      have HS1 := Lib.hid (show byteS s b = its 8 (s ^^^ b) from rfl)
      generalize s ^^^ b = s1 at q0 e0 HS1
      have Q0 := Lib.hid q0
      clear q0
      obtain ⟨wo, rfl⟩ : ∃ wo : World, wo = wr := ⟨_, rfl⟩
      go_wp2_with (fail)
      go_loopw [5, 3] (fun i v wx => ∃ m : Nat, i = .int .i64 m ∧ m ≤ 8 ∧ v = .int .u32 ((its m s1 : Nat) : Int) ∧ wx = wo) (fun i _ _ => 8 - (intOf i).toNat)
      case atStart => exact ⟨0, rfl, by omega, rfl, rfl⟩
      case round =>
        obtain ⟨m, rfl, hm, rfl, rfl⟩ := hrel
        by_cases hl8 : m < 8
        · have hq := its_lt m Q0.out
          have HM := Lib.hid (show its (m + 1) s1 = stp (its m s1) from rfl)
          generalize its m s1 = s at hq HM
          by_cases h1 : s % 2 = 1
          · have ht : (s : Int).tmod 2 = 1 := by rw [Int.tmod_eq_emod_of_nonneg (by omega)]; omega
            have hx : bits .xor .u32 ((s : Int) / 2) 3988292384 = ((stp s : Nat) : Int) := by
              unfold stp
              rw [if_pos h1, show (s : Int) / 2 = ((s / 2 : Nat) : Int) by omega, show (3988292384 : Int) = ((3988292384 : Nat) : Int) by rfl, u32_xor_nat _ _ (by omega) (by decide)]
            clear h1
            go_wp2_with (fail)
            go_roundw
            case rel => exact ⟨m + 1, by go_num, by omega, by rw [HM.out], trivial⟩
            case measure => simp [intOf]; omega
          · have ht : (s : Int).tmod 2 = 0 := by rw [Int.tmod_eq_emod_of_nonneg (by omega)]; omega
            have hx : (s : Int) / 2 = ((stp s : Nat) : Int) := by
              unfold stp
              rw [if_neg h1]
              omega
            clear h1
            go_wp2_with (fail)
            go_roundw
            case rel => exact ⟨m + 1, by go_num, by omega, by rw [HM.out], trivial⟩
            case measure => simp [intOf]; omega
        · obtain rfl : m = 8 := by omega
          rw [← HS1.out]
          go_wp2_with (fail)
          go_roundw
          case rel => exact ⟨k + 1, by go_num, by omega, by rw [HS.out], trivial⟩
          case measure => simp [intOf]; omega
    · obtain rfl : k = l.length := by omega
      rw [List.take_length]
      go_wp2_with (fail)
      go_ret
      exact ⟨congrArg (fun z => Ending.returned (.int .u32 z)) HN.out, Kept.refl _ _⟩

end Go.Proofs.YtoeipjhdpeibpaaGreat
