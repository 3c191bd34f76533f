/- frame.halves, frame.Sum and the reference's Sum walked: the sum of bytes. Conditions: the bytes lie in memory; no more than an int counts. -/
import Derived.Test.YtoeipjhdpeibpaaGreatKPln
import Derived.Test.YtoeipjhdpeibpaaGreatSAt
import Derived.Test.YtoeipjhdpeibpaaGreatLHeld
import Derived.Test.YtoeipjhdpeibpaaGreatLMem
import Derived.BigQuiet
namespace Go.Proofs.YtoeipjhdpeibpaaGreat
open Go Go.RowKit

/-- The table, up to a place. -/
def tabV (i : Nat) : Array Value := ((List.range 16).map fun k => Value.int .u32 ((if k < i then its 4 k else 0 : Nat) : Int)).toArray
theorem tabV_set (i : Nat) (h : i < 16) : (tabV i).setIfInBounds i (.int .u32 ((its 4 i : Nat) : Int)) = tabV (i + 1) := by
  apply Array.ext_getElem?
  intro j
  rw [Array.getElem?_setIfInBounds]
  have hs : (tabV i).size = 16 := by simp [tabV]
  rw [hs]
  by_cases e : i = j
  · subst e
    rw [if_pos rfl, if_pos h]
    simp [tabV, h]
  · rw [if_neg e]
    by_cases hj : j < 16
    · have : (j < i) = (j < i + 1) := by apply propext; omega
      simp [tabV, hj, this]
    · simp [tabV, hj]
theorem tabV_get (i j : Nat) (h : j < 16) (hj : j < i) : (tabV i)[j]? = some (.int .u32 ((its 4 j : Nat) : Int)) := by simp [tabV, h, hj]

theorem tabV_size (i : Nat) : (tabV i).size = 16 := by simp [tabV]
theorem size_tab : (Tryz.prog.info? 45).map (·.size) = some 16 := by kernel_rfl
theorem tab_one (i : Nat) : (tabV i).all (·.oneCell') = true := by
  rw [Array.all_eq_true]
  intro j hj
  simp [tabV, Value.oneCell']
theorem wpList_load_tab {ops : Array Oper} {rest : List Oper} {o : Oper} {a : Act} {w : World} {Q : Exit → Act → World → Prop} {t : TypeId} (hgd : o.guard = none) (x : Operand) (ho : o.op = .load 45 x) (g : Nat) (hx : a.eval x = .pointer (some ⟨g, 0, none⟩)) (cs : Array Value) (hs : cs.size = 16) (hg : Box w g t cs)
    (h : wpList Tryz.prog ops Q rest (a.put o.dst (.agg cs)) w) : wpList Tryz.prog ops Q (o :: rest) a w :=
  wpList_load_box hgd _ x ho g hx t cs _ hg Tryz.underlying45 rfl (by rw [hs]; exact size_tab) h

set_option maxRecDepth 100000 in
set_option maxHeartbeats 1600000 in
theorem halves_any (w : World) : Calls Tryz.prog 13 #[] w (fun r w' => r = .returned (.agg (tabV 16)) ∧ Kept (fun _ => False) w w') := by
  obtain ⟨w0, h0⟩ : ∃ w0, (w.alloc (.cells #[.int .u32 0, .int .u32 0, .int .u32 0, .int .u32 0, .int .u32 0, .int .u32 0, .int .u32 0, .int .u32 0, .int .u32 0, .int .u32 0, .int .u32 0, .int .u32 0, .int .u32 0, .int .u32 0, .int .u32 0, .int .u32 0] 45)).alloc (.cells #[.int .u32 0, .int .u32 0, .int .u32 0, .int .u32 0, .int .u32 0, .int .u32 0, .int .u32 0, .int .u32 0, .int .u32 0, .int .u32 0, .int .u32 0, .int .u32 0, .int .u32 0, .int .u32 0, .int .u32 0, .int .u32 0] 45) = w0 := ⟨_, rfl⟩
  have HK := Lib.hid (((Kept.refl (fun _ => False) w).alloc (.cells #[.int .u32 0, .int .u32 0, .int .u32 0, .int .u32 0, .int .u32 0, .int .u32 0, .int .u32 0, .int .u32 0, .int .u32 0, .int .u32 0, .int .u32 0, .int .u32 0, .int .u32 0, .int .u32 0, .int .u32 0, .int .u32 0] 45)).alloc (.cells #[.int .u32 0, .int .u32 0, .int .u32 0, .int .u32 0, .int .u32 0, .int .u32 0, .int .u32 0, .int .u32 0, .int .u32 0, .int .u32 0, .int .u32 0, .int .u32 0, .int .u32 0, .int .u32 0, .int .u32 0, .int .u32 0] 45))
  have HB := Lib.hid ((Box.new (w.alloc (.cells #[.int .u32 0, .int .u32 0, .int .u32 0, .int .u32 0, .int .u32 0, .int .u32 0, .int .u32 0, .int .u32 0, .int .u32 0, .int .u32 0, .int .u32 0, .int .u32 0, .int .u32 0, .int .u32 0, .int .u32 0, .int .u32 0] 45)) 45 #[.int .u32 0, .int .u32 0, .int .u32 0, .int .u32 0, .int .u32 0, .int .u32 0, .int .u32 0, .int .u32 0, .int .u32 0, .int .u32 0, .int .u32 0, .int .u32 0, .int .u32 0, .int .u32 0, .int .u32 0, .int .u32 0]).at_eq (show _ = w.heap.size + 1 by simp))
  have HB0 := Lib.hid ((Box.new w 45 #[.int .u32 0, .int .u32 0, .int .u32 0, .int .u32 0, .int .u32 0, .int .u32 0, .int .u32 0, .int .u32 0, .int .u32 0, .int .u32 0, .int .u32 0, .int .u32 0, .int .u32 0, .int .u32 0, .int .u32 0, .int .u32 0]).alloc (.cells #[.int .u32 0, .int .u32 0, .int .u32 0, .int .u32 0, .int .u32 0, .int .u32 0, .int .u32 0, .int .u32 0, .int .u32 0, .int .u32 0, .int .u32 0, .int .u32 0, .int .u32 0, .int .u32 0, .int .u32 0, .int .u32 0] 45))
  have H0 := Lib.hid h0
  rw [h0] at HK HB HB0
  rw [show #[.int .u32 0, .int .u32 0, .int .u32 0, .int .u32 0, .int .u32 0, .int .u32 0, .int .u32 0, .int .u32 0, .int .u32 0, .int .u32 0, .int .u32 0, .int .u32 0, .int .u32 0, .int .u32 0, .int .u32 0, .int .u32 0] = tabV 0 from rfl] at HB
  clear h0
  go_enter Tryz.func13, Tryz.ntmps13
  go_upto_region 2 with (fail)
  rw [H0.out]
  clear H0
  go_wp2_with (fail)
  go_loopw [4] (fun i wr => ∃ k : Nat, i = .int .i64 k ∧ k ≤ 16 ∧ Box wr (w.heap.size + 1) 45 (tabV k) ∧ Kept (fun j => j = w.heap.size + 1) w0 wr) (fun i _ => 16 - (intOf i).toNat)
  case atStart => exact ⟨0, rfl, by omega, HB.out, Kept.refl _ _⟩
  case round =>
    obtain ⟨k, rfl, hk, hb, hkk⟩ := hrel
    have HB := Lib.hid hb
    have HKK := Lib.hid hkk
    clear hb hkk
    have x1 := HB.out.frozen k
    obtain ⟨ux, hux⟩ : ∃ ux, wr = ux := ⟨_, rfl⟩
    by_cases hlt : k < 16
    · have hsz : k < (tabV k).size := by simp [tabV]; omega
      have x0 : wr.cell? ⟨w.heap.size + 1, k, none⟩ = some (tabV k)[k] := (HB.out.cell k).trans (Array.getElem?_eq_getElem hsz)
      generalize (tabV k)[k] = v0 at x0
      have hkw : IntKind.u32.wrap (k : Int) = (k : Int) := by rw [IntKind.wrap_u32']; omega
      subst hux
      clear hsz
      go_wp2_with (fail)
      go_loopw [9, 3] (fun i v wx => ∃ m : Nat, i = .int .i64 m ∧ m ≤ 4 ∧ v = .int .u32 ((its m k : Nat) : Int) ∧ wx = wr) (fun i _ _ => 4 - (intOf i).toNat)
      case atStart => exact ⟨0, rfl, by omega, rfl, rfl⟩
      case round =>
        obtain ⟨m, rfl, hm, rfl, rfl⟩ := hrel
        have HS := Lib.hid (step_u32 (its m k) (its_lt m (by omega)))
        by_cases hl4 : m < 4
        · go_wp2_with (fail)
          go_roundw
          case rel => exact ⟨m + 1, by go_num, by omega, congrArg _ HS.out, trivial⟩
          case measure => simp [intOf]; omega
        · obtain rfl : m = 4 := by omega
          go_wp2_with (fail)
          go_roundw
          case rel =>
            refine ⟨k + 1, by go_num, by omega, ?_, HKK.out.at k _ (.inl rfl)⟩
            have := HB.out.set k (.int .u32 ((its 4 k : Nat) : Int))
            rwa [tabV_set k hlt] at this
          case measure => simp [intOf]; omega
    · obtain rfl : k = 16 := by omega
      subst hux
      have HB1 := Lib.hid (HB0.out.kept HKK.out (by omega))
      go_wp2_with (first | (refine wpList_load_tab rfl _ rfl (w.heap.size + 1) rfl _ (tabV_size 16) HB.out ?_) | (refine wpList_store_box rfl 45 _ _ rfl w.heap.size (tabV 16) rfl rfl 45 _ HB1.out (size_tab.trans (by rw [tabV_size])) (by rw [tabV_size]; rfl) (tab_one 16) ?_; intro w20 HRB hk20))
      have HKF := Lib.hid ((HK.out.trans HKK.out fun k hk e => by omega).trans hk20 fun k hk e => by omega)
      refine bodyPost_ret (results_cell_row rfl _ _ w.heap.size 45 (tabV 16) (0, 0) _ rfl HRB.out Tryz.underlying45 rfl (size_tab.trans (by rw [tabV_size]))) rfl ?_
      exact ⟨rfl, HKF.out⟩
/-- A sum's answer. -/
def SumPost (w : World) (l : List Int) (r : Ending) (w' : World) : Prop := r = .returned (.int .u32 ((sumC l : Nat) : Int)) ∧ Kept (fun _ => False) w w'

set_option maxRecDepth 100000 in
set_option maxHeartbeats 1600000 in
theorem Sum_any (A : Option Addr) (l : List Int) (c : Nat) (w : World) (hl : BytesAt w A l) (hb : isByte l) (hlen : l.length ≤ 4611686018427387904) : Calls Tryz.prog 5 #[.slice A l.length c] w (SumPost w l) := by
  have HL := Lib.hid hl
  have HBY := Lib.hid hb
  clear hl hb
  go_enter Tryz.func5, Tryz.ntmps5
  go_wp2_with (fail)
  refine (halves_any w).mono ?_
  rintro r w1 ⟨rfl, hk1⟩
  have HK1 := Lib.hid hk1
  clear hk1
  go_wp2_with (refine wpList_store_box rfl 45 _ _ rfl w1.heap.size (tabV 16) rfl rfl 45 _ (Box.new w1 _ _) (size_tab.trans (by rw [tabV_size])) (by rw [tabV_size]; rfl) (tab_one 16) ?_; intro w2 HT hk2; refine Hid.out ?_)
  refine Lib.hid ?_
  have HK := Lib.hid ((HK1.out.alloc _).trans hk2 fun k hk e => by have := HK1.out.size; omega)
  have HL2 := Lib.hid (HL.out.fresh HK.out)
  have HN := Lib.hid (not_u32 (sumF l) (sumF_lt l HBY.out))
  generalize w1.heap.size = g at HT ⊢
  clear hk2 HK1
  go_wp2_with (fail)
  go_loopw [10, 4] (fun i v wx => ∃ k : Nat, i = .int .i64 k ∧ k ≤ l.length ∧ v = .int .u32 ((sumF (l.take k) : Nat) : Int) ∧ wx = w2) (fun i _ _ => l.length - (intOf i).toNat)
  case atStart => exact ⟨0, rfl, Nat.zero_le _, rfl, rfl⟩
  case round =>
    obtain ⟨k, rfl, hk, rfl, rfl⟩ := hrel
    by_cases hlt : k < l.length
    · obtain ⟨ad, rfl, x0⟩ := HL2.out k hlt
      have hbb := HBY.out l[k] (List.getElem_mem hlt)
      have HS := Lib.hid (sumF_take hlt)
      have hs0 : sumF (l.take k) < 4294967296 := sumF_lt _ fun b hb => HBY.out b (List.mem_of_mem_take hb)
      generalize l[k] = b at x0 hbb HS
      generalize sumF (l.take k) = s at hs0 HS ⊢
      obtain ⟨b, rfl⟩ := Int.eq_ofNat_of_zero_le hbb.1
      have hw : IntKind.u32.wrap (b : Int) = (b : Int) := by rw [IntKind.wrap_u32']; omega
      have q0 : s ^^^ b < 4294967296 := Nat.xor_lt_two_pow (n := 32) hs0 (by omega)
      have e0 : bits .xor .u32 (s : Int) (b : Int) = ((s ^^^ b : Nat) : Int) := u32_xor_nat _ _ hs0 (by omega)
      have HS1 := Lib.hid (show byteS s b = its 4 (its 4 (s ^^^ b)) from rfl)
      generalize s ^^^ b = s1 at q0 e0 HS1
      have q1 := its_lt 4 q0
      have HT1 := Lib.hid (its_four s1)
      generalize its 4 s1 = s2 at q1 HS1 HT1
      have q2 := its_lt 4 q1
      have HT2 := Lib.hid (its_four s2)
      generalize its 4 s2 = s3 at q2 HS1 HT2
      have a1 : bits .and .u32 (s1 : Int) 15 = ((s1 % 16 : Nat) : Int) := by rw [show (15 : Int) = ((15 : Nat) : Int) by rfl, u32_and_nat _ _ q0 (by decide), nat_mask4]
      have a2 : bits .and .u32 (s2 : Int) 15 = ((s2 % 16 : Nat) : Int) := by rw [show (15 : Int) = ((15 : Nat) : Int) by rfl, u32_and_nat _ _ q1 (by decide), nat_mask4]
      have l1 : s1 % 16 < 16 := Nat.mod_lt _ (by decide)
      have l2 : s2 % 16 < 16 := Nat.mod_lt _ (by decide)
      have y1 := (HT.out.cell (s1 % 16)).trans (tabV_get 16 _ l1 l1)
      have y2 := (HT.out.cell (s2 % 16)).trans (tabV_get 16 _ l2 l2)
      have b1 : bits .xor .u32 ((s1 : Int) / 16) ((its 4 (s1 % 16) : Nat) : Int) = (s2 : Int) := by rw [show (s1 : Int) / 16 = ((s1 / 16 : Nat) : Int) by omega, u32_xor_nat _ _ (by omega) (its_lt 4 (by omega)), HT1.out]
      have b2 : bits .xor .u32 ((s2 : Int) / 16) ((its 4 (s2 % 16) : Nat) : Int) = (s3 : Int) := by rw [show (s2 : Int) / 16 = ((s2 / 16 : Nat) : Int) by omega, u32_xor_nat _ _ (by omega) (its_lt 4 (by omega)), HT2.out]
      generalize its 4 (s1 % 16) = t1 at y1 b1
      generalize its 4 (s2 % 16) = t2 at y2 b2
      generalize s1 % 16 = r1 at a1 l1 y1
      generalize s2 % 16 = r2 at a2 l2 y2
      go_wp2_with (fail)
      go_roundw
      case rel => exact ⟨k + 1, by go_num, by omega, by rw [HS.out, ← HS1.out], trivial⟩
      case measure => simp [intOf]; omega
    · obtain rfl : k = l.length := by omega
      rw [List.take_length]
      go_wp2_with (fail)
      go_ret
      exact ⟨congrArg (fun z => Ending.returned (.int .u32 z)) HN.out, HK.out⟩

end Go.Proofs.YtoeipjhdpeibpaaGreat
