/- The reference's Reader, by value: the walks of Read, Left, TakeNumber. Conditions: the bytes lie in memory as BytesAt says. -/
import Derived.Test.YtlefbnnlcacheaaSRef
namespace Go.Proofs.Ytlefbnnlcacheaa
open Go.RowKit

/-- A reference's Reader's value. -/
def rdV (A : Option Addr) (b : List Int) (c : Nat) (at_ : Nat) (e : Int) : Array Value := #[.slice A b.length c, .int .i64 at_, .int .i64 e]
theorem rdV_one (A : Option Addr) (b : List Int) (c at_ : Nat) (e : Int) : (rdV A b c at_ e).all (·.oneCell') = true := by simp [rdV, Value.oneCell']
theorem size_RR : (Try.prog.info? 53).map (·.size) = some 3 := by kernel_rfl
theorem bits_or_i64_nat (m n : Nat) (hm : m < 9223372036854775808) (hn : n < 9223372036854775808) : bits .or .i64 (m : Int) (n : Int) = ((m ||| n : Nat) : Int) := by
  have hx : m ||| n < 2 ^ 63 := Nat.or_lt_two_pow (by omega) (by omega)
  have h1 : (BitVec.ofInt 64 (m : Int)).toNat = m := by
    rw [BitVec.ofInt_natCast, BitVec.toNat_ofNat]; exact Nat.mod_eq_of_lt (by omega)
  have h2 : (BitVec.ofInt 64 (n : Int)).toNat = n := by
    rw [BitVec.ofInt_natCast, BitVec.toNat_ofNat]; exact Nat.mod_eq_of_lt (by omega)
  show IntKind.i64.wrap ((BitVec.ofInt 64 (m : Int) ||| BitVec.ofInt 64 (n : Int)).toNat : Int) = _
  rw [BitVec.toNat_or, h1, h2]
  exact IntWalk.i64_in _ ⟨by omega, by omega⟩
theorem or_lay64 (v x n : Nat) (hv : v < 128 ^ n) (hx : x < 128) (hn : n ≤ 8) : bits .or .i64 (v : Int) (wrap64 ((x : Int) * 2 ^ (7 * n))) = ((v + x * 128 ^ n : Nat) : Int) ∧ v + x * 128 ^ n < 128 ^ (n + 1) ∧ 128 ^ (n + 1) ≤ 9223372036854775808 := by
  have hp : 128 ^ n = 2 ^ (7 * n) := by rw [Nat.pow_mul]
  have h9 : 128 ^ (n + 1) ≤ 9223372036854775808 := Nat.le_trans (Nat.pow_le_pow_right (by decide) (show n + 1 ≤ 9 by omega)) (by decide)
  have hs : 128 ^ (n + 1) = 128 ^ n * 128 := Nat.pow_succ ..
  have hm : x * 128 ^ n + 128 ^ n ≤ 128 ^ n * 128 := by
    have : (x + 1) * 128 ^ n ≤ 128 * 128 ^ n := Nat.mul_le_mul_right _ (by omega)
    rw [Nat.add_mul, Nat.one_mul] at this
    rw [Nat.mul_comm (128 ^ n) 128]
    exact this
  refine ⟨?_, by omega, h9⟩
  have hc : (x : Int) * 2 ^ (7 * n) = ((x * 2 ^ (7 * n) : Nat) : Int) := by push_cast; rfl
  have hl : x * 2 ^ (7 * n) < 9223372036854775808 := by rw [← hp]; omega
  rw [hc, IntWalk.wrap64_in _ ⟨by omega, by omega⟩, bits_or_i64_nat _ _ (by omega) hl]
  congr 1
  rw [hp]
  rw [hp] at hv
  have := Nat.shiftLeft_add_eq_or_of_lt hv x
  rw [Nat.shiftLeft_eq] at this
  rw [Nat.or_comm, ← this, Nat.add_comm]
def RTPost (w : World) (A : Option Addr) (b : List Int) (c : Nat) (s : Rd) (r : Ending) (w' : World) : Prop :=
  ∃ at', r = .returned (.tuple #[.int .i64 s.val, .agg (rdV A b c at' s.nx.e)]) ∧ at' ≤ b.length ∧ b.drop at' = s.nx.l ∧ Kept (fun _ => False) w w'

theorem results_slot_cell {fn : Func} {p q : Tmp} {ty : TypeId} (h : fn.results = #[.tmp p, .cell q ty]) (tmps : Array Value) (w : World) (v u : Value) (g : Nat)
    (hv : tmps.getD p undef = v) (hp : tmps.getD q undef = .pointer (some ⟨g, 0, none⟩)) (hl : (loadVar ty ⟨g, 0, none⟩).run Try.prog w = .ok u w) :
    (results fn tmps).run Try.prog w = .ok (.tuple #[v, u]) w := by
  have hp' : tmps[q]?.getD undef = .pointer (some ⟨g, 0, none⟩) := by simpa using hp
  have hv' : tmps[p]?.getD undef = v := by simpa using hv
  simp [results, h, hp', hv', asAddr, hl]
theorem load_RR {w : World} {g : Nat} {A : Option Addr} {b : List Int} {c a : Nat} {e : Int} (hb : Box w g 53 (rdV A b c a e)) : (loadVar 53 ⟨g, 0, none⟩).run Try.prog w = .ok (.agg (rdV A b c a e)) w :=
  run_loadVar_row w g _ _ _ (0, 0) _ hb Try.underlying53 rfl (size_RR.trans rfl)
theorem RTPost.ret {w w' : World} {A : Option Addr} {b : List Int} {c at' g : Nat} {s : Rd} {v e' : Int} {a : Act} (hb : Box w' g 53 (rdV A b c at' e')) (hv : v = s.val) (he : e' = s.nx.e) (hat : at' ≤ b.length) (hd : b.drop at' = s.nx.l) (hk : Kept (fun _ => False) w w')
    (h2 : a.tmps.getD 2 undef = .int .i64 v) (h3 : a.tmps.getD 3 undef = .pointer (some ⟨g, 0, none⟩)) (hdf : a.defers = []) : bodyPost Try.prog Try.f54 (RTPost w A b c s) Exit.ret a w' := by
  refine bodyPost_ret (v := .tuple #[.int .i64 v, .agg (rdV A b c at' e')]) ?_ hdf ⟨at', by rw [hv, he], hat, hd, hk⟩
  exact results_slot_cell (show Try.f54.results = #[.tmp 2, .cell 3 53] by kernel_rfl) _ _ _ _ g h2 h3 (load_RR hb)

set_option maxHeartbeats 1600000 in
set_option maxRecDepth 100000 in
theorem RTNum_any (A : Option Addr) (b : List Int) (c at_ : Nat) (e : Int) (w : World) (hb : BytesAt w A b) (hby : isByte b) (hat : at_ ≤ b.length) (hlen : b.length ≤ 1000000) :
    Calls Try.prog 54 #[.agg #[.slice A b.length c, .int .i64 at_, .int .i64 e]] w (RTPost w A b c ⟨b.drop at_, e⟩) := by
  have HK := Lib.hid (((Kept.refl (fun _ => False) w).alloc (.cells #[.slice A b.length c, .int .i64 at_, .int .i64 e] 53)).alloc (.cells #[.slice none 0 0, .int .i64 0, .int .i64 0] 53))
  have HB := Lib.hid (show Box ((w.alloc (.cells #[.slice A b.length c, .int .i64 at_, .int .i64 e] 53)).alloc (.cells #[.slice none 0 0, .int .i64 0, .int .i64 0] 53)) w.heap.size 53 (rdV A b c at_ e) from (Box.new w _ _).alloc _)
  have HR := Lib.hid (show Box ((w.alloc (.cells #[.slice A b.length c, .int .i64 at_, .int .i64 e] 53)).alloc (.cells #[.slice none 0 0, .int .i64 0, .int .i64 0] 53)) (w.heap.size + 1) 53 (rdV none [] 0 0 0) from (Box.new (w.alloc (.cells #[.slice A b.length c, .int .i64 at_, .int .i64 e] 53)) _ _).at_eq (by simp))
  by_cases he : e = 0
  · subst he
    have HY := Lib.hid (hb.fresh HK.out)
    have HBY := Lib.hid hby
    clear hb hby
    have hld : (b.drop at_).length = b.length - at_ := List.length_drop
    have HSN := Lib.hid (show ∀ er v k, takeFrom 0 0 (b.drop at_) = (er, v, k) → (⟨b.drop at_, 0⟩ : Rd).val = v ∧ (⟨b.drop at_, 0⟩ : Rd).nx = ⟨(b.drop at_).drop k, er⟩ from fun er v k h => by simp [Rd.val, Rd.nx, h])
    go_enter Try.func54, Try.ntmps54
    go_wp2_with (fail)
    generalize (w.alloc (.cells #[.slice A b.length c, .int .i64 at_, .int .i64 0] 53)).alloc (.cells #[.slice none 0 0, .int .i64 0, .int .i64 0] 53) = W at HK HB HR HY ⊢
    go_loop [4, 6] (fun u i => ∃ n m : Nat, i = .int .i64 n ∧ u = .int .i64 m ∧ n ≤ 8 ∧ at_ + n ≤ b.length ∧ m < 128 ^ n ∧ takeFrom n m (b.drop (at_ + n)) = takeFrom 0 0 (b.drop at_)) (fun _ i => 9 - (intOf i).toNat)
    case atStart => exact ⟨0, 0, rfl, rfl, by omega, by omega, by decide, rfl⟩
    case round =>
      obtain ⟨n, m, rfl, rfl, hn, hnl, hm, ht⟩ := hrel
      have HT := Lib.hid ht
      have HM := Lib.hid hm
      clear ht hm
      have x0 : W.cell? ⟨w.heap.size, 0, none⟩ = some (.slice A b.length c) := by simpa [rdV] using HB.out.cell 0
      have x1 : W.cell? ⟨w.heap.size, 1, none⟩ = some (.int .i64 at_) := by simpa [rdV] using HB.out.cell 1
      have x2 : W.cell? ⟨w.heap.size, 2, none⟩ = some (.int .i64 0) := by simpa [rdV] using HB.out.cell 2
      have f1 : W.frozen? ⟨w.heap.size, 1, none⟩ = false := HB.out.frozen 1
      have f2 : W.frozen? ⟨w.heap.size, 2, none⟩ = false := HB.out.frozen 2
      by_cases hlt : at_ + n < b.length
      · obtain ⟨ad, rfl, hcell⟩ := HY.out (at_ + n) hlt
        have hbt := HBY.out b[at_ + n] (List.getElem_mem hlt)
        have HD := Lib.hid (List.drop_eq_getElem_cons hlt)
        generalize b[at_ + n] = x at hcell hbt HD
        obtain ⟨hx0, hx1⟩ := hbt
        obtain ⟨x, rfl⟩ : ∃ y : Nat, x = y := ⟨x.toNat, by omega⟩
        by_cases h128 : 128 ≤ x
        · obtain ⟨y, hy⟩ : ∃ y : Nat, x - 128 = y := ⟨_, rfl⟩
          have hmod : (x : Int) % 128 = y := by omega
          by_cases h8 : n = 8
          · have HTT := Lib.hid (show takeFrom 0 0 (b.drop at_) = (6, 0, 0) by rw [← HT.out, HD.out, h8, take_long (by omega)])
            have e8 : ((n : Int) == 8) = true := by simp; omega
            clear h8
            go_wp2_with (fail)
            have HB2 := Lib.hid (show Box (W.setCell ⟨w.heap.size, 2, none⟩ (.int .i64 6)) w.heap.size 53 (rdV (some ad) b c at_ 6) from by
              have := HB.out.set 2 (.int .i64 6)
              simpa [rdV] using this)
            have HR2 := Lib.hid (HR.out.far (p := ⟨w.heap.size, 2, none⟩) (by show w.heap.size + 1 ≠ w.heap.size; omega) (.int .i64 6))
            have HK2 := Lib.hid (HK.out.at 2 (.int .i64 6) (.inr (Nat.le_refl w.heap.size)))
            clear x0 x1 x2 f1 f2
            generalize W.setCell ⟨w.heap.size, 2, none⟩ (.int .i64 6) = W2 at HB2 HR2 HK2 ⊢
            have z0 : W2.cell? ⟨w.heap.size, 0, none⟩ = some (.slice (some ad) b.length c) := by simpa [rdV] using HB2.out.cell 0
            have z1 : W2.cell? ⟨w.heap.size, 1, none⟩ = some (.int .i64 at_) := by simpa [rdV] using HB2.out.cell 1
            have z2 : W2.cell? ⟨w.heap.size, 2, none⟩ = some (.int .i64 6) := by simpa [rdV] using HB2.out.cell 2
            go_still_tail 2, (by kernel_rfl)
            change wpList _ _ _ _ _ W2.drew
            have HR3 := Lib.hid (HR2.out.kept (Kept.refl (fun _ => False) W2).drew id)
            have HK3 := Lib.hid (HK2.out.drew)
            clear z0 z1 z2
            generalize W2.drew = W3 at HR3 HK3 ⊢
            go_wp2_with (refine wpList_store_box rfl 53 (.tmp 3) (.tmp 40) rfl (w.heap.size + 1) (rdV (some ad) b c at_ 6) rfl rfl 53 (rdV none [] 0 0 0) HR3.out (size_RR.trans rfl) rfl (rdV_one _ _ _ _ _) ?_; intro w9 HB9 hk9)
            exact RTPost.ret (g := w.heap.size + 1) HB9.out (by rw [(HSN.out _ _ _ HTT.out).1]; rfl) (by rw [(HSN.out _ _ _ HTT.out).2]) hat (by rw [(HSN.out _ _ _ HTT.out).2]; rfl) (HK3.out.trans hk9 fun k hk e => by omega) rfl rfl rfl
          · obtain ⟨ho, hv2, hv3⟩ := or_lay64 m y n HM.out (by omega) hn
            have HTT := Lib.hid (show takeFrom (n + 1) (m + y * 128 ^ n) (b.drop (at_ + n + 1)) = takeFrom 0 0 (b.drop at_) by rw [← HT.out, HD.out, take_more' (by omega) h8, show ((x : Int) - 128).toNat = y by omega])
            have e8 : ((n : Int) == 8) = false := by simp; omega
            generalize m + y * 128 ^ n = v2 at ho hv2 HTT
            have HV2 := Lib.hid hv2
            clear hv2 hv3 hy
            go_wp2_with (fail)
            go_round
            case rel => exact ⟨n + 1, v2, by go_num, rfl, by omega, by omega, HV2.out, HTT.out⟩
            case measure => simp [intOf]; omega
        · have hmod : (x : Int) % 128 = x := by omega
          obtain ⟨ho, hv2, hv3⟩ := or_lay64 m x n HM.out (by omega) hn
          by_cases h0 : x = 0 ∧ 0 < n
          · have HTT := Lib.hid (show takeFrom 0 0 (b.drop at_) = (6, 0, 0) by
              rw [← HT.out, HD.out, h0.1]
              exact take_zero h0.2)
            have e8 : decide (0 < n) = true := decide_eq_true (by omega)
            have e9 : ((x : Int) == 0) = true := by simp; omega
            have h8 : ((n : Int) == 8) = true ∨ ((n : Int) == 8) = false := by cases ((n : Int) == 8) <;> simp
            clear h0
            clear ho hv2 hv3 hmod
            rcases h8 with h8 | h8
            all_goals
              go_wp2_with (fail)
              have HB2 := Lib.hid (show Box (W.setCell ⟨w.heap.size, 2, none⟩ (.int .i64 6)) w.heap.size 53 (rdV (some ad) b c at_ 6) from by
                have := HB.out.set 2 (.int .i64 6)
                simpa [rdV] using this)
              have HR2 := Lib.hid (HR.out.far (p := ⟨w.heap.size, 2, none⟩) (by show w.heap.size + 1 ≠ w.heap.size; omega) (.int .i64 6))
              have HK2 := Lib.hid (HK.out.at 2 (.int .i64 6) (.inr (Nat.le_refl w.heap.size)))
              clear x0 x1 x2 f1 f2
              generalize W.setCell ⟨w.heap.size, 2, none⟩ (.int .i64 6) = W2 at HB2 HR2 HK2 ⊢
              have z0 : W2.cell? ⟨w.heap.size, 0, none⟩ = some (.slice (some ad) b.length c) := by simpa [rdV] using HB2.out.cell 0
              have z1 : W2.cell? ⟨w.heap.size, 1, none⟩ = some (.int .i64 at_) := by simpa [rdV] using HB2.out.cell 1
              have z2 : W2.cell? ⟨w.heap.size, 2, none⟩ = some (.int .i64 6) := by simpa [rdV] using HB2.out.cell 2
              go_still_tail 2, (by kernel_rfl)
              change wpList _ _ _ _ _ W2.drew
              have HR3 := Lib.hid (HR2.out.kept (Kept.refl (fun _ => False) W2).drew id)
              have HK3 := Lib.hid (HK2.out.drew)
              clear z0 z1 z2
              generalize W2.drew = W3 at HR3 HK3 ⊢
              go_wp2_with (refine wpList_store_box rfl 53 (.tmp 3) (.tmp 57) rfl (w.heap.size + 1) (rdV (some ad) b c at_ 6) rfl rfl 53 (rdV none [] 0 0 0) HR3.out (size_RR.trans rfl) rfl (rdV_one _ _ _ _ _) ?_; intro w9 HB9 hk9)
              exact RTPost.ret (g := w.heap.size + 1) HB9.out (by rw [(HSN.out _ _ _ HTT.out).1]; rfl) (by rw [(HSN.out _ _ _ HTT.out).2]) hat (by rw [(HSN.out _ _ _ HTT.out).2]; rfl) (HK3.out.trans hk9 fun k hk e => by omega) rfl rfl rfl
          · have HTT := Lib.hid (show takeFrom 0 0 (b.drop at_) = (0, m + x * 128 ^ n, n + 1) by rw [← HT.out, HD.out, take_end (by omega) (by omega)]; rfl)
            generalize m + x * 128 ^ n = v2 at ho hv2 HTT
            have HO := Lib.hid ho
            have hz : (decide (0 < n) = true ∧ ((x : Int) == 0) = false) ∨ decide (0 < n) = false := by
              rcases Nat.eq_zero_or_pos n with h | h
              · exact .inr (decide_eq_false (by omega))
              · exact .inl ⟨decide_eq_true (by omega), by simp; omega⟩
            have h8 : ((n : Int) == 8) = true ∨ ((n : Int) == 8) = false := by cases ((n : Int) == 8) <;> simp
            clear h0 hv2 hv3
            rcases hz with ⟨e0, e1⟩ | e0 <;> rcases h8 with h8 | h8
            all_goals
              go_wp2_with (fail)
              have HB2 := Lib.hid (show Box (W.setCell ⟨w.heap.size, 1, none⟩ (.int .i64 ((at_ : Int) + n + 1))) w.heap.size 53 (rdV (some ad) b c (at_ + n + 1) 0) from by
                have := HB.out.set 1 (.int .i64 ((at_ : Int) + n + 1))
                simpa [rdV] using this)
              have HR2 := Lib.hid (HR.out.far (p := ⟨w.heap.size, 1, none⟩) (by show w.heap.size + 1 ≠ w.heap.size; omega) (.int .i64 ((at_ : Int) + n + 1)))
              have HK2 := Lib.hid (HK.out.at 1 (.int .i64 ((at_ : Int) + n + 1)) (.inr (Nat.le_refl w.heap.size)))
              clear x0 x1 x2 f1 f2
              generalize W.setCell ⟨w.heap.size, 1, none⟩ (.int .i64 ((at_ : Int) + n + 1)) = W2 at HB2 HR2 HK2 ⊢
              have z0 : W2.cell? ⟨w.heap.size, 0, none⟩ = some (.slice (some ad) b.length c) := by simpa [rdV] using HB2.out.cell 0
              have z1 : W2.cell? ⟨w.heap.size, 1, none⟩ = some (.int .i64 ((at_ : Int) + n + 1)) := by simpa [rdV] using HB2.out.cell 1
              have z2 : W2.cell? ⟨w.heap.size, 2, none⟩ = some (.int .i64 0) := by simpa [rdV] using HB2.out.cell 2
              go_still_tail 3, (by kernel_rfl)
              change wpList _ _ _ _ _ W2.drew
              have HR3 := Lib.hid (HR2.out.kept (Kept.refl (fun _ => False) W2).drew id)
              have HK3 := Lib.hid (HK2.out.drew)
              clear z0 z1 z2
              generalize W2.drew = W3 at HR3 HK3 ⊢
              go_wp2_with (refine wpList_store_box rfl 53 (.tmp 3) (.tmp 64) rfl (w.heap.size + 1) (rdV (some ad) b c (at_ + n + 1) 0) rfl rfl 53 (rdV none [] 0 0 0) HR3.out (size_RR.trans rfl) rfl (rdV_one _ _ _ _ _) ?_; intro w9 HB9 hk9)
              exact RTPost.ret (g := w.heap.size + 1) HB9.out (by rw [(HSN.out _ _ _ HTT.out).1]) (by rw [(HSN.out _ _ _ HTT.out).2]) (by omega) (by rw [(HSN.out _ _ _ HTT.out).2, List.drop_drop]; rfl) (HK3.out.trans hk9 fun k hk e => by omega) rfl rfl rfl
      · have HTT := Lib.hid (show takeFrom 0 0 (b.drop at_) = (5, 0, 0) by rw [← HT.out, List.drop_eq_nil_of_le (by omega)]; rfl)
        go_wp2_with (fail)
        have HB2 := Lib.hid (show Box (W.setCell ⟨w.heap.size, 2, none⟩ (.int .i64 5)) w.heap.size 53 (rdV A b c at_ 5) from by
          have := HB.out.set 2 (.int .i64 5)
          simpa [rdV] using this)
        have HR2 := Lib.hid (HR.out.far (p := ⟨w.heap.size, 2, none⟩) (by show w.heap.size + 1 ≠ w.heap.size; omega) (.int .i64 5))
        have HK2 := Lib.hid (HK.out.at 2 (.int .i64 5) (.inr (Nat.le_refl w.heap.size)))
        clear x0 x1 x2 f1 f2
        generalize W.setCell ⟨w.heap.size, 2, none⟩ (.int .i64 5) = W2 at HB2 HR2 HK2 ⊢
        have z0 : W2.cell? ⟨w.heap.size, 0, none⟩ = some (.slice A b.length c) := by simpa [rdV] using HB2.out.cell 0
        have z1 : W2.cell? ⟨w.heap.size, 1, none⟩ = some (.int .i64 at_) := by simpa [rdV] using HB2.out.cell 1
        have z2 : W2.cell? ⟨w.heap.size, 2, none⟩ = some (.int .i64 5) := by simpa [rdV] using HB2.out.cell 2
        go_still_tail 2, (by kernel_rfl)
        change wpList _ _ _ _ _ W2.drew
        have HR3 := Lib.hid (HR2.out.kept (Kept.refl (fun _ => False) W2).drew id)
        have HK3 := Lib.hid (HK2.out.drew)
        clear z0 z1 z2
        generalize W2.drew = W3 at HR3 HK3 ⊢
        go_wp2_with (refine wpList_store_box rfl 53 (.tmp 3) (.tmp 24) rfl (w.heap.size + 1) (rdV A b c at_ 5) rfl rfl 53 (rdV none [] 0 0 0) HR3.out (size_RR.trans rfl) rfl (rdV_one _ _ _ _ _) ?_; intro w9 HB9 hk9)
        exact RTPost.ret (g := w.heap.size + 1) HB9.out (by rw [(HSN.out _ _ _ HTT.out).1]; rfl) (by rw [(HSN.out _ _ _ HTT.out).2]) hat (by rw [(HSN.out _ _ _ HTT.out).2]; rfl) (HK3.out.trans hk9 fun k hk e => by omega) rfl rfl rfl
  · have e1 : (e != 0) = true := by simp [he]
    have HN := Lib.hid (Rd.stop (s := ⟨b.drop at_, e⟩) he)
    clear he
    go_enter Try.func54, Try.ntmps54
    go_wp2_with (fail)
    generalize (w.alloc (.cells #[.slice A b.length c, .int .i64 at_, .int .i64 e] 53)).alloc (.cells #[.slice none 0 0, .int .i64 0, .int .i64 0] 53) = W at HK HB HR ⊢
    have z0 : W.cell? ⟨w.heap.size, 0, none⟩ = some (.slice A b.length c) := by simpa [rdV] using HB.out.cell 0
    have z1 : W.cell? ⟨w.heap.size, 1, none⟩ = some (.int .i64 at_) := by simpa [rdV] using HB.out.cell 1
    have z2 : W.cell? ⟨w.heap.size, 2, none⟩ = some (.int .i64 e) := by simpa [rdV] using HB.out.cell 2
    go_still_tail 2, (by kernel_rfl)
    change wpList _ _ _ _ _ W.drew
    have HR3 := Lib.hid (HR.out.kept (Kept.refl (fun _ => False) W).drew id)
    have HK3 := Lib.hid (HK.out.drew)
    clear z0 z1 z2
    generalize W.drew = W3 at HR3 HK3 ⊢
    go_wp2_with (refine wpList_store_box rfl 53 (.tmp 3) (.tmp 11) rfl (w.heap.size + 1) (rdV A b c at_ e) rfl rfl 53 (rdV none [] 0 0 0) HR3.out (size_RR.trans rfl) rfl (rdV_one _ _ _ _ _) ?_; intro w9 HB9 hk9)
    exact RTPost.ret (g := w.heap.size + 1) HB9.out (by rw [HN.out.1]; rfl) (by rw [HN.out.2]) hat (by rw [HN.out.2]) (HK3.out.trans hk9 fun k hk e => by omega) rfl rfl rfl
end Go.Proofs.Ytlefbnnlcacheaa
