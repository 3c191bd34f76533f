/- The reference's Reader, by value: the walks of Read, Left, TakeNumber. Conditions: the bytes lie in memory as BytesAt says. · The walks of the reference's Read, Left, Take. Conditions: the bytes lie in memory as BytesAt says. -/
import Derived.Test.YtnlklhlnnoihiaaMO30
import Derived.Test.YtnlklhlnnoihiaaMO18
namespace Go.Proofs.Ytnlklhlnnoihiaa
open Go.RowKit

/-- A reference's Reader's value. -/
def rdV (A : Option Addr) (b : List Int) (c : Nat) (at_ : Nat) (e : Int) : Array Value := #[.slice A b.length c, .int .i64 at_, .int .i64 e]
theorem rdV_one (A : Option Addr) (b : List Int) (c at_ : Nat) (e : Int) : (rdV A b c at_ e).all (·.oneCell') = true := by simp [rdV, Value.oneCell']
theorem size_RR : (Try.prog.info? 52).map (·.size) = some 3 := by kernel_rfl
theorem bits_or_i64_nat (m n : Nat) (hm : m < 9223372036854775808) (hn : n < 9223372036854775808) : bits .or .i64 (m : Int) (n : Int) = ((m ||| n : Nat) : Int) := by
  have hx : m ||| n < 2 ^ 63 := Nat.or_lt_two_pow (by omega) (by omega)
  have h1 : (BitVec.ofInt 64 (m : Int)).toNat = m := by
    rw [BitVec.ofInt_natCast, BitVec.toNat_ofNat]; exact Nat.mod_eq_of_lt (by omega)
  have h2 : (BitVec.ofInt 64 (n : Int)).toNat = n := by
    rw [BitVec.ofInt_natCast, BitVec.toNat_ofNat]; exact Nat.mod_eq_of_lt (by omega)
  show IntKind.i64.wrap ((BitVec.ofInt 64 (m : Int) ||| BitVec.ofInt 64 (n : Int)).toNat : Int) = _
  rw [BitVec.toNat_or, h1, h2]
  exact IntWalk.i64_in _ ⟨by omega, by omega⟩
theorem or_lay64 (v x n : Nat) (hv : v < 128 ^ n) (hx : x < 128) (hn : n ≤ 8) : bits .or .i64 (v : Int) (wrap64 ((x : Int) * 2 ^ (7 * n))) = ((v + x * 128 ^ n : Nat) : Int) ∧ v + x * 128 ^ n < 128 ^ (n + 1) ∧ 128 ^ (n + 1) ≤ 9223372036854775808 := by
  have hp : 128 ^ n = 2 ^ (7 * n) := by rw [Nat.pow_mul]
  have h9 : 128 ^ (n + 1) ≤ 9223372036854775808 := Nat.le_trans (Nat.pow_le_pow_right (by decide) (show n + 1 ≤ 9 by omega)) (by decide)
  have hs : 128 ^ (n + 1) = 128 ^ n * 128 := Nat.pow_succ ..
  have hm : x * 128 ^ n + 128 ^ n ≤ 128 ^ n * 128 := by
    have : (x + 1) * 128 ^ n ≤ 128 * 128 ^ n := Nat.mul_le_mul_right _ (by omega)
    rw [Nat.add_mul, Nat.one_mul] at this
    rw [Nat.mul_comm (128 ^ n) 128]
    exact this
  refine ⟨?_, by omega, h9⟩
  have hc : (x : Int) * 2 ^ (7 * n) = ((x * 2 ^ (7 * n) : Nat) : Int) := by push_cast; rfl
  have hl : x * 2 ^ (7 * n) < 9223372036854775808 := by rw [← hp]; omega
  rw [hc, IntWalk.wrap64_in _ ⟨by omega, by omega⟩, bits_or_i64_nat _ _ (by omega) hl]
  congr 1
  rw [hp]
  rw [hp] at hv
  have := Nat.shiftLeft_add_eq_or_of_lt hv x
  rw [Nat.shiftLeft_eq] at this
  rw [Nat.or_comm, ← this, Nat.add_comm]
def RTPost (w : World) (A : Option Addr) (b : List Int) (c : Nat) (s : Rd) (r : Ending) (w' : World) : Prop :=
  ∃ at', r = .returned (.tuple #[.int .i64 s.val, .agg (rdV A b c at' s.nx.e)]) ∧ at' ≤ b.length ∧ b.drop at' = s.nx.l ∧ Kept (fun _ => False) w w'

theorem results_slot_cell {fn : Func} {p q : Tmp} {ty : TypeId} (h : fn.results = #[.tmp p, .cell q ty]) (tmps : Array Value) (w : World) (v u : Value) (g : Nat)
    (hv : tmps.getD p undef = v) (hp : tmps.getD q undef = .pointer (some ⟨g, 0, none⟩)) (hl : (loadVar ty ⟨g, 0, none⟩).run Try.prog w = .ok u w) :
    (results fn tmps).run Try.prog w = .ok (.tuple #[v, u]) w := by
  have hp' : tmps[q]?.getD undef = .pointer (some ⟨g, 0, none⟩) := by simpa using hp
  have hv' : tmps[p]?.getD undef = v := by simpa using hv
  simp [results, h, hp', hv', asAddr, hl]
theorem load_RR {w : World} {g : Nat} {A : Option Addr} {b : List Int} {c a : Nat} {e : Int} (hb : Box w g 52 (rdV A b c a e)) : (loadVar 52 ⟨g, 0, none⟩).run Try.prog w = .ok (.agg (rdV A b c a e)) w :=
  run_loadVar_row w g _ _ _ (0, 0) _ hb Try.underlying52 rfl (size_RR.trans rfl)
theorem RTPost.ret {w w' : World} {A : Option Addr} {b : List Int} {c at' g : Nat} {s : Rd} {v e' : Int} {a : Act} (hb : Box w' g 52 (rdV A b c at' e')) (hv : v = s.val) (he : e' = s.nx.e) (hat : at' ≤ b.length) (hd : b.drop at' = s.nx.l) (hk : Kept (fun _ => False) w w')
    (h2 : a.tmps.getD 2 undef = .int .i64 v) (h3 : a.tmps.getD 3 undef = .pointer (some ⟨g, 0, none⟩)) (hdf : a.defers = []) : bodyPost Try.prog Try.f60 (RTPost w A b c s) Exit.ret a w' := by
  refine bodyPost_ret (v := .tuple #[.int .i64 v, .agg (rdV A b c at' e')]) ?_ hdf ⟨at', by rw [hv, he], hat, hd, hk⟩
  exact results_slot_cell (show Try.f60.results = #[.tmp 2, .cell 3 52] by kernel_rfl) _ _ _ _ g h2 h3 (load_RR hb)

set_option maxHeartbeats 1600000 in
set_option maxRecDepth 100000 in
theorem RTNum_any (A : Option Addr) (b : List Int) (c at_ : Nat) (e : Int) (w : World) (hb : BytesAt w A b) (hby : isByte b) (hat : at_ ≤ b.length) (hlen : b.length ≤ 1000000) :
    Calls Try.prog 60 #[.agg #[.slice A b.length c, .int .i64 at_, .int .i64 e]] w (RTPost w A b c ⟨b.drop at_, e⟩) := by
  have HK := Lib.hid (((Kept.refl (fun _ => False) w).alloc (.cells #[.slice A b.length c, .int .i64 at_, .int .i64 e] 52)).alloc (.cells #[.slice none 0 0, .int .i64 0, .int .i64 0] 52))
  have HB := Lib.hid (show Box ((w.alloc (.cells #[.slice A b.length c, .int .i64 at_, .int .i64 e] 52)).alloc (.cells #[.slice none 0 0, .int .i64 0, .int .i64 0] 52)) w.heap.size 52 (rdV A b c at_ e) from (Box.new w _ _).alloc _)
  have HR := Lib.hid (show Box ((w.alloc (.cells #[.slice A b.length c, .int .i64 at_, .int .i64 e] 52)).alloc (.cells #[.slice none 0 0, .int .i64 0, .int .i64 0] 52)) (w.heap.size + 1) 52 (rdV none [] 0 0 0) from (Box.new (w.alloc (.cells #[.slice A b.length c, .int .i64 at_, .int .i64 e] 52)) _ _).at_eq (by simp))
  by_cases he : e = 0
  · subst he
    have HY := Lib.hid (hb.fresh HK.out)
    have HBY := Lib.hid hby
    clear hb hby
    have hld : (b.drop at_).length = b.length - at_ := List.length_drop
    have HSN := Lib.hid (show ∀ er v k, takeFrom 0 0 (b.drop at_) = (er, v, k) → (⟨b.drop at_, 0⟩ : Rd).val = v ∧ (⟨b.drop at_, 0⟩ : Rd).nx = ⟨(b.drop at_).drop k, er⟩ from fun er v k h => by simp [Rd.val, Rd.nx, h])
    go_enter Try.func60, Try.ntmps60
    go_wp2_with (fail)
    generalize (w.alloc (.cells #[.slice A b.length c, .int .i64 at_, .int .i64 0] 52)).alloc (.cells #[.slice none 0 0, .int .i64 0, .int .i64 0] 52) = W at HK HB HR HY ⊢
    go_loop [4, 6] (fun u i => ∃ n m : Nat, i = .int .i64 n ∧ u = .int .i64 m ∧ n ≤ 8 ∧ at_ + n ≤ b.length ∧ m < 128 ^ n ∧ takeFrom n m (b.drop (at_ + n)) = takeFrom 0 0 (b.drop at_)) (fun _ i => 9 - (intOf i).toNat)
    case atStart => exact ⟨0, 0, rfl, rfl, by omega, by omega, by decide, rfl⟩
    case round =>
      obtain ⟨n, m, rfl, rfl, hn, hnl, hm, ht⟩ := hrel
      have HT := Lib.hid ht
      have HM := Lib.hid hm
      clear ht hm
      have x0 : W.cell? ⟨w.heap.size, 0, none⟩ = some (.slice A b.length c) := by simpa [rdV] using HB.out.cell 0
      have x1 : W.cell? ⟨w.heap.size, 1, none⟩ = some (.int .i64 at_) := by simpa [rdV] using HB.out.cell 1
      have x2 : W.cell? ⟨w.heap.size, 2, none⟩ = some (.int .i64 0) := by simpa [rdV] using HB.out.cell 2
      have f1 : W.frozen? ⟨w.heap.size, 1, none⟩ = false := HB.out.frozen 1
      have f2 : W.frozen? ⟨w.heap.size, 2, none⟩ = false := HB.out.frozen 2
      by_cases hlt : at_ + n < b.length
      · obtain ⟨ad, rfl, hcell⟩ := HY.out (at_ + n) hlt
        have hbt := HBY.out b[at_ + n] (List.getElem_mem hlt)
        have HD := Lib.hid (List.drop_eq_getElem_cons hlt)
        generalize b[at_ + n] = x at hcell hbt HD
        obtain ⟨hx0, hx1⟩ := hbt
        obtain ⟨x, rfl⟩ : ∃ y : Nat, x = y := ⟨x.toNat, by omega⟩
        by_cases h128 : 128 ≤ x
        · obtain ⟨y, hy⟩ : ∃ y : Nat, x - 128 = y := ⟨_, rfl⟩
          have hmod : (x : Int) % 128 = y := by omega
          by_cases h8 : n = 8
          · have HTT := Lib.hid (show takeFrom 0 0 (b.drop at_) = (6, 0, 0) by rw [← HT.out, HD.out, h8, take_long (by omega)])
            have e8 : ((n : Int) == 8) = true := by simp; omega
            clear h8
            go_wp2_with (fail)
            have HB2 := Lib.hid (show Box (W.setCell ⟨w.heap.size, 2, none⟩ (.int .i64 6)) w.heap.size 52 (rdV (some ad) b c at_ 6) from by
              have := HB.out.set 2 (.int .i64 6)
              simpa [rdV] using this)
            have HR2 := Lib.hid (HR.out.far (p := ⟨w.heap.size, 2, none⟩) (by show w.heap.size + 1 ≠ w.heap.size; omega) (.int .i64 6))
            have HK2 := Lib.hid (HK.out.at 2 (.int .i64 6) (.inr (Nat.le_refl w.heap.size)))
            clear x0 x1 x2 f1 f2
            generalize W.setCell ⟨w.heap.size, 2, none⟩ (.int .i64 6) = W2 at HB2 HR2 HK2 ⊢
            have z0 : W2.cell? ⟨w.heap.size, 0, none⟩ = some (.slice (some ad) b.length c) := by simpa [rdV] using HB2.out.cell 0
            have z1 : W2.cell? ⟨w.heap.size, 1, none⟩ = some (.int .i64 at_) := by simpa [rdV] using HB2.out.cell 1
            have z2 : W2.cell? ⟨w.heap.size, 2, none⟩ = some (.int .i64 6) := by simpa [rdV] using HB2.out.cell 2
            go_still_tail 2, (by kernel_rfl)
            change wpList _ _ _ _ _ W2.drew
            have HR3 := Lib.hid (HR2.out.kept (Kept.refl (fun _ => False) W2).drew id)
            have HK3 := Lib.hid (HK2.out.drew)
            clear z0 z1 z2
            generalize W2.drew = W3 at HR3 HK3 ⊢
            go_wp2_with (refine wpList_store_box rfl 52 (.tmp 3) (.tmp 40) rfl (w.heap.size + 1) (rdV (some ad) b c at_ 6) rfl rfl 52 (rdV none [] 0 0 0) HR3.out (size_RR.trans rfl) rfl (rdV_one _ _ _ _ _) ?_; intro w9 HB9 hk9)
            exact RTPost.ret (g := w.heap.size + 1) HB9.out (by rw [(HSN.out _ _ _ HTT.out).1]; rfl) (by rw [(HSN.out _ _ _ HTT.out).2]) hat (by rw [(HSN.out _ _ _ HTT.out).2]; rfl) (HK3.out.trans hk9 fun k hk e => by omega) rfl rfl rfl
          · obtain ⟨ho, hv2, hv3⟩ := or_lay64 m y n HM.out (by omega) hn
            have HTT := Lib.hid (show takeFrom (n + 1) (m + y * 128 ^ n) (b.drop (at_ + n + 1)) = takeFrom 0 0 (b.drop at_) by rw [← HT.out, HD.out, take_more' (by omega) h8, show ((x : Int) - 128).toNat = y by omega])
            have e8 : ((n : Int) == 8) = false := by simp; omega
            generalize m + y * 128 ^ n = v2 at ho hv2 HTT
            have HV2 := Lib.hid hv2
            clear hv2 hv3 hy
            go_wp2_with (fail)
            go_round
            case rel => exact ⟨n + 1, v2, by go_num, rfl, by omega, by omega, HV2.out, HTT.out⟩
            case measure => simp [intOf]; omega
        · have hmod : (x : Int) % 128 = x := by omega
          obtain ⟨ho, hv2, hv3⟩ := or_lay64 m x n HM.out (by omega) hn
          by_cases h0 : x = 0 ∧ 0 < n
          · have HTT := Lib.hid (show takeFrom 0 0 (b.drop at_) = (6, 0, 0) by
              rw [← HT.out, HD.out, h0.1]
              exact take_zero h0.2)
            have e8 : decide (0 < n) = true := decide_eq_true (by omega)
            have e9 : ((x : Int) == 0) = true := by simp; omega
            have h8 : ((n : Int) == 8) = true ∨ ((n : Int) == 8) = false := by cases ((n : Int) == 8) <;> simp
            clear h0
            clear ho hv2 hv3 hmod
            rcases h8 with h8 | h8
            all_goals
              go_wp2_with (fail)
              have HB2 := Lib.hid (show Box (W.setCell ⟨w.heap.size, 2, none⟩ (.int .i64 6)) w.heap.size 52 (rdV (some ad) b c at_ 6) from by
                have := HB.out.set 2 (.int .i64 6)
                simpa [rdV] using this)
              have HR2 := Lib.hid (HR.out.far (p := ⟨w.heap.size, 2, none⟩) (by show w.heap.size + 1 ≠ w.heap.size; omega) (.int .i64 6))
              have HK2 := Lib.hid (HK.out.at 2 (.int .i64 6) (.inr (Nat.le_refl w.heap.size)))
              clear x0 x1 x2 f1 f2
              generalize W.setCell ⟨w.heap.size, 2, none⟩ (.int .i64 6) = W2 at HB2 HR2 HK2 ⊢
              have z0 : W2.cell? ⟨w.heap.size, 0, none⟩ = some (.slice (some ad) b.length c) := by simpa [rdV] using HB2.out.cell 0
              have z1 : W2.cell? ⟨w.heap.size, 1, none⟩ = some (.int .i64 at_) := by simpa [rdV] using HB2.out.cell 1
              have z2 : W2.cell? ⟨w.heap.size, 2, none⟩ = some (.int .i64 6) := by simpa [rdV] using HB2.out.cell 2
              go_still_tail 2, (by kernel_rfl)
              change wpList _ _ _ _ _ W2.drew
              have HR3 := Lib.hid (HR2.out.kept (Kept.refl (fun _ => False) W2).drew id)
              have HK3 := Lib.hid (HK2.out.drew)
              clear z0 z1 z2
              generalize W2.drew = W3 at HR3 HK3 ⊢
              go_wp2_with (refine wpList_store_box rfl 52 (.tmp 3) (.tmp 57) rfl (w.heap.size + 1) (rdV (some ad) b c at_ 6) rfl rfl 52 (rdV none [] 0 0 0) HR3.out (size_RR.trans rfl) rfl (rdV_one _ _ _ _ _) ?_; intro w9 HB9 hk9)
              exact RTPost.ret (g := w.heap.size + 1) HB9.out (by rw [(HSN.out _ _ _ HTT.out).1]; rfl) (by rw [(HSN.out _ _ _ HTT.out).2]) hat (by rw [(HSN.out _ _ _ HTT.out).2]; rfl) (HK3.out.trans hk9 fun k hk e => by omega) rfl rfl rfl
          · have HTT := Lib.hid (show takeFrom 0 0 (b.drop at_) = (0, m + x * 128 ^ n, n + 1) by rw [← HT.out, HD.out, take_end (by omega) (by omega)]; rfl)
            generalize m + x * 128 ^ n = v2 at ho hv2 HTT
            have HO := Lib.hid ho
            have hz : (decide (0 < n) = true ∧ ((x : Int) == 0) = false) ∨ decide (0 < n) = false := by
              rcases Nat.eq_zero_or_pos n with h | h
              · exact .inr (decide_eq_false (by omega))
              · exact .inl ⟨decide_eq_true (by omega), by simp; omega⟩
            have h8 : ((n : Int) == 8) = true ∨ ((n : Int) == 8) = false := by cases ((n : Int) == 8) <;> simp
            clear h0 hv2 hv3
            rcases hz with ⟨e0, e1⟩ | e0 <;> rcases h8 with h8 | h8
            all_goals
              go_wp2_with (fail)
              have HB2 := Lib.hid (show Box (W.setCell ⟨w.heap.size, 1, none⟩ (.int .i64 ((at_ : Int) + n + 1))) w.heap.size 52 (rdV (some ad) b c (at_ + n + 1) 0) from by
                have := HB.out.set 1 (.int .i64 ((at_ : Int) + n + 1))
                simpa [rdV] using this)
              have HR2 := Lib.hid (HR.out.far (p := ⟨w.heap.size, 1, none⟩) (by show w.heap.size + 1 ≠ w.heap.size; omega) (.int .i64 ((at_ : Int) + n + 1)))
              have HK2 := Lib.hid (HK.out.at 1 (.int .i64 ((at_ : Int) + n + 1)) (.inr (Nat.le_refl w.heap.size)))
              clear x0 x1 x2 f1 f2
              generalize W.setCell ⟨w.heap.size, 1, none⟩ (.int .i64 ((at_ : Int) + n + 1)) = W2 at HB2 HR2 HK2 ⊢
              have z0 : W2.cell? ⟨w.heap.size, 0, none⟩ = some (.slice (some ad) b.length c) := by simpa [rdV] using HB2.out.cell 0
              have z1 : W2.cell? ⟨w.heap.size, 1, none⟩ = some (.int .i64 ((at_ : Int) + n + 1)) := by simpa [rdV] using HB2.out.cell 1
              have z2 : W2.cell? ⟨w.heap.size, 2, none⟩ = some (.int .i64 0) := by simpa [rdV] using HB2.out.cell 2
              go_still_tail 3, (by kernel_rfl)
              change wpList _ _ _ _ _ W2.drew
              have HR3 := Lib.hid (HR2.out.kept (Kept.refl (fun _ => False) W2).drew id)
              have HK3 := Lib.hid (HK2.out.drew)
              clear z0 z1 z2
              generalize W2.drew = W3 at HR3 HK3 ⊢
              go_wp2_with (refine wpList_store_box rfl 52 (.tmp 3) (.tmp 64) rfl (w.heap.size + 1) (rdV (some ad) b c (at_ + n + 1) 0) rfl rfl 52 (rdV none [] 0 0 0) HR3.out (size_RR.trans rfl) rfl (rdV_one _ _ _ _ _) ?_; intro w9 HB9 hk9)
              exact RTPost.ret (g := w.heap.size + 1) HB9.out (by rw [(HSN.out _ _ _ HTT.out).1]) (by rw [(HSN.out _ _ _ HTT.out).2]) (by omega) (by rw [(HSN.out _ _ _ HTT.out).2, List.drop_drop]; rfl) (HK3.out.trans hk9 fun k hk e => by omega) rfl rfl rfl
      · have HTT := Lib.hid (show takeFrom 0 0 (b.drop at_) = (5, 0, 0) by rw [← HT.out, List.drop_eq_nil_of_le (by omega)]; rfl)
        go_wp2_with (fail)
        have HB2 := Lib.hid (show Box (W.setCell ⟨w.heap.size, 2, none⟩ (.int .i64 5)) w.heap.size 52 (rdV A b c at_ 5) from by
          have := HB.out.set 2 (.int .i64 5)
          simpa [rdV] using this)
        have HR2 := Lib.hid (HR.out.far (p := ⟨w.heap.size, 2, none⟩) (by show w.heap.size + 1 ≠ w.heap.size; omega) (.int .i64 5))
        have HK2 := Lib.hid (HK.out.at 2 (.int .i64 5) (.inr (Nat.le_refl w.heap.size)))
        clear x0 x1 x2 f1 f2
        generalize W.setCell ⟨w.heap.size, 2, none⟩ (.int .i64 5) = W2 at HB2 HR2 HK2 ⊢
        have z0 : W2.cell? ⟨w.heap.size, 0, none⟩ = some (.slice A b.length c) := by simpa [rdV] using HB2.out.cell 0
        have z1 : W2.cell? ⟨w.heap.size, 1, none⟩ = some (.int .i64 at_) := by simpa [rdV] using HB2.out.cell 1
        have z2 : W2.cell? ⟨w.heap.size, 2, none⟩ = some (.int .i64 5) := by simpa [rdV] using HB2.out.cell 2
        go_still_tail 2, (by kernel_rfl)
        change wpList _ _ _ _ _ W2.drew
        have HR3 := Lib.hid (HR2.out.kept (Kept.refl (fun _ => False) W2).drew id)
        have HK3 := Lib.hid (HK2.out.drew)
        clear z0 z1 z2
        generalize W2.drew = W3 at HR3 HK3 ⊢
        go_wp2_with (refine wpList_store_box rfl 52 (.tmp 3) (.tmp 24) rfl (w.heap.size + 1) (rdV A b c at_ 5) rfl rfl 52 (rdV none [] 0 0 0) HR3.out (size_RR.trans rfl) rfl (rdV_one _ _ _ _ _) ?_; intro w9 HB9 hk9)
        exact RTPost.ret (g := w.heap.size + 1) HB9.out (by rw [(HSN.out _ _ _ HTT.out).1]; rfl) (by rw [(HSN.out _ _ _ HTT.out).2]) hat (by rw [(HSN.out _ _ _ HTT.out).2]; rfl) (HK3.out.trans hk9 fun k hk e => by omega) rfl rfl rfl
  · have e1 : (e != 0) = true := by simp [he]
    have HN := Lib.hid (Rd.stop (s := ⟨b.drop at_, e⟩) he)
    clear he
    go_enter Try.func60, Try.ntmps60
    go_wp2_with (fail)
    generalize (w.alloc (.cells #[.slice A b.length c, .int .i64 at_, .int .i64 e] 52)).alloc (.cells #[.slice none 0 0, .int .i64 0, .int .i64 0] 52) = W at HK HB HR ⊢
    have z0 : W.cell? ⟨w.heap.size, 0, none⟩ = some (.slice A b.length c) := by simpa [rdV] using HB.out.cell 0
    have z1 : W.cell? ⟨w.heap.size, 1, none⟩ = some (.int .i64 at_) := by simpa [rdV] using HB.out.cell 1
    have z2 : W.cell? ⟨w.heap.size, 2, none⟩ = some (.int .i64 e) := by simpa [rdV] using HB.out.cell 2
    go_still_tail 2, (by kernel_rfl)
    change wpList _ _ _ _ _ W.drew
    have HR3 := Lib.hid (HR.out.kept (Kept.refl (fun _ => False) W).drew id)
    have HK3 := Lib.hid (HK.out.drew)
    clear z0 z1 z2
    generalize W.drew = W3 at HR3 HK3 ⊢
    go_wp2_with (refine wpList_store_box rfl 52 (.tmp 3) (.tmp 11) rfl (w.heap.size + 1) (rdV A b c at_ e) rfl rfl 52 (rdV none [] 0 0 0) HR3.out (size_RR.trans rfl) rfl (rdV_one _ _ _ _ _) ?_; intro w9 HB9 hk9)
    exact RTPost.ret (g := w.heap.size + 1) HB9.out (by rw [HN.out.1]; rfl) (by rw [HN.out.2]) hat (by rw [HN.out.2]) (HK3.out.trans hk9 fun k hk e => by omega) rfl rfl rfl
end Go.Proofs.Ytnlklhlnnoihiaa

namespace Go.Proofs.Ytnlklhlnnoihiaa
open Go.RowKit

theorem results_slot_cell_slot {fn : Func} {p q r : Tmp} {ty : TypeId} (h : fn.results = #[.tmp p, .cell q ty, .tmp r]) (tmps : Array Value) (w : World) (v u x : Value) (g : Nat)
    (hv : tmps.getD p undef = v) (hp : tmps.getD q undef = .pointer (some ⟨g, 0, none⟩)) (hl : (loadVar ty ⟨g, 0, none⟩).run Try.prog w = .ok u w) (hx : tmps.getD r undef = x) :
    (results fn tmps).run Try.prog w = .ok (.tuple #[v, u, x]) w := by
  have hp' : tmps[q]?.getD undef = .pointer (some ⟨g, 0, none⟩) := by simpa using hp
  have hv' : tmps[p]?.getD undef = v := by simpa using hv
  have hx' : tmps[r]?.getD undef = x := by simpa using hx
  simp [results, h, hp', hv', hx', asAddr, hl]

/-- The reference's Reader in block g (its result's in the next): it has s of the bytes b. -/
structure RAt (w : World) (g : Nat) (A : Option Addr) (b : List Int) (c : Nat) (s : Rd) (wr : World) : Prop where
  box : ∃ a, Box wr g 52 (rdV A b c a s.e) ∧ a ≤ b.length ∧ b.drop a = s.l
  res : Box wr (g + 1) 52 (rdV none [] 0 0 0)
  bytes : BytesAt wr A b
  off : b ≠ [] → ∀ a, A = some a → a.block < g
  k : Kept (fun _ => False) w wr
  ge : w.heap.size ≤ g
theorem RAt.kept {S : Nat → Prop} {w : World} {g : Nat} {A : Option Addr} {b : List Int} {c : Nat} {s : Rd} {w1 w2 : World} (h : RAt w g A b c s w1) (hk : Kept S w1 w2) (hS : ∀ k, S k → g + 2 ≤ k) : RAt w g A b c s w2 := by
  obtain ⟨a, hb, h1, h2⟩ := h.box
  refine ⟨⟨a, hb.kept hk fun e => (by have := hS _ e; omega), h1, h2⟩, h.res.kept hk fun e => (by have := hS _ e; omega), ?_, h.off, h.k.trans hk fun k hk e => (by have := hS _ e; have := h.ge; omega), h.ge⟩
  rcases b with _ | ⟨x, b⟩
  · exact BytesAt.nil
  · exact h.bytes.kept hk fun a ha e => by have := hS _ e; have := h.off (by simp) a ha; omega
theorem RAt.fresh {w : World} {g : Nat} {A : Option Addr} {b : List Int} {c : Nat} {s : Rd} {w1 w2 : World} (h : RAt w g A b c s w1) (hk : Kept (fun _ => False) w1 w2) : RAt w g A b c s w2 := h.kept hk fun _ e => e.elim
theorem RAt.store {w : World} {g : Nat} {A : Option Addr} {b : List Int} {c : Nat} {s s' : Rd} {w1 w2 : World} {a : Nat} (h : RAt w g A b c s w1) (hb : Box w2 g 52 (rdV A b c a s'.e)) (h1 : a ≤ b.length) (h2 : b.drop a = s'.l) (hk : Kept (fun k => k = g) w1 w2) : RAt w g A b c s' w2 := by
  refine ⟨⟨a, hb, h1, h2⟩, h.res.kept hk (by omega), ?_, h.off, h.k.trans hk fun k hk e => (by have := h.ge; omega), h.ge⟩
  rcases b with _ | ⟨x, b⟩
  · exact BytesAt.nil
  · exact h.bytes.kept hk fun a ha e => by have := h.off (by simp) a ha; omega
def RTakePost (w : World) (A : Option Addr) (b : List Int) (c : Nat) (x : Int × List Dt × Rd) (r : Ending) (w' : World) : Prop :=
  ∃ V C a, r = .returned (.tuple #[.slice V x.2.1.length C, .agg (rdV A b c a x.2.2.e), .int .i64 x.1]) ∧ a ≤ b.length ∧ b.drop a = x.2.2.l ∧ DotsAt w' V x.2.1 ∧ Kept (fun _ => False) w w'
theorem RTakePost.ret {w w' : World} {A : Option Addr} {b : List Int} {c g C n : Nat} {V : Option Addr} {er e : Int} {L : List Dt} {s : Rd} {x : Int × List Dt × Rd} {ac : Act} {a : Nat} (hx : x = (er, L, s)) (hse : s.e = e) (hb : Box w' (g + 1) 52 (rdV A b c a e)) (h1 : a ≤ b.length) (h2 : b.drop a = s.l)
    (hd : DotsAt w' V L) (hk : Kept (fun _ => False) w w') (hn : n = L.length) (e2 : ac.tmps.getD 2 undef = .slice V n C) (e3 : ac.tmps.getD 3 undef = .pointer (some ⟨g + 1, 0, none⟩)) (e4 : ac.tmps.getD 4 undef = .int .i64 er) (hdf : ac.defers = []) :
    bodyPost Try.prog Try.f61 (RTakePost w A b c x) Exit.ret ac w' := by
  subst hx hn hse
  exact bodyPost_ret (results_slot_cell_slot (show Try.f61.results = #[.tmp 2, .cell 3 52, .tmp 4] by kernel_rfl) _ _ _ _ _ (g + 1) e2 e3 (load_RR hb) e4) hdf ⟨V, C, a, rfl, h1, h2, hd, hk⟩

set_option maxRecDepth 100000 in
set_option maxHeartbeats 6400000 in
theorem RTake_any (A : Option Addr) (b : List Int) (c : Nat) (w : World) (hb : BytesAt w A b) (hby : isByte b) (hlen : b.length ≤ 1000000) (hA : b ≠ [] → ∀ a, A = some a → a.block < w.heap.size) :
    Calls Try.prog 61 #[.agg #[.slice A b.length c, .int .i64 0, .int .i64 0]] w (RTakePost w A b c (takeV ⟨b, 0⟩)) := by
  have HK0 := Lib.hid (((Kept.refl (fun _ => False) w).alloc (.cells #[.slice A b.length c, .int .i64 0, .int .i64 0] 52)).alloc (.cells #[.slice none 0 0, .int .i64 0, .int .i64 0] 52))
  have HR := Lib.hid (show RAt w w.heap.size A b c ⟨b, 0⟩ ((w.alloc (.cells #[.slice A b.length c, .int .i64 0, .int .i64 0] 52)).alloc (.cells #[.slice none 0 0, .int .i64 0, .int .i64 0] 52)) from
    ⟨⟨0, (Box.new w _ _).alloc _, by omega, rfl⟩, (Box.new (w.alloc (.cells #[.slice A b.length c, .int .i64 0, .int .i64 0] 52)) _ _).at_eq (by simp), hb.fresh HK0.out, hA, HK0.out, Nat.le_refl _⟩)
  have HBY := Lib.hid hby
  obtain ⟨x, hx⟩ : ∃ x, takeV ⟨b, 0⟩ = x := ⟨_, rfl⟩
  have HX1 := Lib.hid (show (⟨b, 0⟩ : Rd).nx.e ≠ 0 → x = ((⟨b, 0⟩ : Rd).nx.e, [], (⟨b, 0⟩ : Rd).nx) from fun h => by rw [← hx]; exact if_pos h)
  have HX2 := Lib.hid (show (⟨b, 0⟩ : Rd).nx.e = 0 → 16 < (⟨b, 0⟩ : Rd).val → x = (6, [], (⟨b, 0⟩ : Rd).nx) from fun h h' => by rw [← hx, takeV, if_neg (fun h'' => h'' h), if_pos h'])
  have HX3 := Lib.hid (show (⟨b, 0⟩ : Rd).nx.e = 0 → ¬ 16 < (⟨b, 0⟩ : Rd).val → takeLoop (⟨b, 0⟩ : Rd).val 0 [] (⟨b, 0⟩ : Rd).nx = x from fun h h' => by rw [← hx, takeV, if_neg (fun h'' => h'' h), if_neg h'])
  rw [hx]
  clear hx hb hby hA HK0
  generalize hs0 : (⟨b, 0⟩ : Rd) = s0 at HR HX1 HX2 HX3
  have HS0 := Lib.hid (show (⟨b.drop 0, 0⟩ : Rd) = s0 by rw [← hs0]; rfl)
  clear hs0
  go_enter Try.func61, Try.ntmps61
  go_wp2_with (fail)
  generalize (w.alloc (.cells #[.slice A b.length c, .int .i64 0, .int .i64 0] 52)).alloc (.cells #[.slice none 0 0, .int .i64 0, .int .i64 0] 52) = W at HR ⊢

  refine (RTNum_any A b c 0 0 _ HR.out.bytes HBY.out (Nat.zero_le _) hlen).mono ?_
  rw [HS0.out]
  rintro r w1 ⟨a1, rfl, ha1, hl1, hk⟩
  have HR1 := Lib.hid (HR.out.fresh hk)
  clear hk HR HS0
  obtain ⟨aq, hbq, -, -⟩ := HR1.out.box
  have HBQ := Lib.hid hbq
  clear hbq
  have ha_a1 := ha1
  have hl_a1 := Lib.hid hl1
  clear ha1 hl1
  by_cases he : s0.nx.e = 0
  · rw [he]
    have HEE := Lib.hid he
    by_cases hn : 16 < s0.val
    · have HXX := Lib.hid (HX2.out he hn)
      have hn' : (16 : Int) < (s0.val : Int) := by omega
      clear HX1 HX2 HX3 he hn
      go_wp2_with (refine wpList_store_box rfl 52 (.tmp 1) (.tmp 14) rfl w.heap.size (rdV A b c a1 0) rfl rfl 52 (rdV A b c aq s0.e) HBQ.out (size_RR.trans rfl) rfl (rdV_one _ _ _ _ _) ?_; intro w2 HB_w2 hk_w2; have z2 : w2.cell? ⟨w.heap.size, 2, none⟩ = some (.int .i64 0) := (by simpa [rdV] using HB_w2.out.cell 2))
      have HR2 := Lib.hid (HR1.out.store (s' := s0.nx) (a := a1) (by rw [HEE.out]; exact HB_w2.out) ha_a1 hl_a1.out hk_w2)
      clear z2
      have y0 : w2.cell? ⟨w.heap.size, 0, none⟩ = some (.slice A b.length c) := by simpa [rdV] using HB_w2.out.cell 0
      have y1 : w2.cell? ⟨w.heap.size, 1, none⟩ = some (.int .i64 a1) := by simpa [rdV] using HB_w2.out.cell 1
      have y2 : w2.cell? ⟨w.heap.size, 2, none⟩ = some (.int .i64 0) := by simpa [rdV] using HB_w2.out.cell 2
      go_wp2_with (fail)
      go_still_tail 2, (by kernel_rfl)
      change wpList _ _ _ _ _ w2.drew
      have HR9 := Lib.hid (HR2.out.fresh (Kept.refl _ _).drew)
      clear y0 y1 y2
      generalize w2.drew = W9 at HR9 ⊢
      go_wp2_with (refine wpList_store_box rfl 52 (.tmp 3) (.tmp 23) rfl (w.heap.size + 1) (rdV A b c a1 0) rfl rfl 52 (rdV none [] 0 0 0) HR9.out.res (size_RR.trans rfl) rfl (rdV_one _ _ _ _ _) ?_; intro w9 HBX hkX)
      exact RTakePost.ret (g := w.heap.size) (s := _) HXX.out HEE.out HBX.out ha_a1 hl_a1.out DotsAt.nil (HR9.out.k.trans hkX fun k hk e => by omega) rfl rfl rfl rfl rfl
    · have HXX := Lib.hid (HX3.out he hn)
      have hn' : ¬ (16 : Int) < (s0.val : Int) := by omega
      clear HX1 HX2 HX3 he
      go_wp2_with (refine wpList_store_box rfl 52 (.tmp 1) (.tmp 14) rfl w.heap.size (rdV A b c a1 0) rfl rfl 52 (rdV A b c aq s0.e) HBQ.out (size_RR.trans rfl) rfl (rdV_one _ _ _ _ _) ?_; intro w2 HB_w2 hk_w2; have z2 : w2.cell? ⟨w.heap.size, 2, none⟩ = some (.int .i64 0) := (by simpa [rdV] using HB_w2.out.cell 2))
      have HR2 := Lib.hid (HR1.out.store (s' := s0.nx) (a := a1) (by rw [HEE.out]; exact HB_w2.out) ha_a1 hl_a1.out hk_w2)
      clear z2 HB_w2 hk_w2 ha_a1 hl_a1 HR1 HBQ
      generalize s0.nx = s1 at HR2 HXX HEE
      generalize s0.val = n at hn hn' HXX ⊢
      go_loopw [6, 7, 8] (fun v t i wr => ∃ (k : Nat) (last : Int) (acc : List Dt) (s' : Rd), i = .int .i64 k ∧ k ≤ n ∧ t = .int .i64 last ∧ acc.length = k ∧ wr.ownsRow w.heap.size 23 2 v acc.length (dots acc) ∧ takeLoop (n - k) last acc s' = x ∧ s'.e = 0 ∧ RAt w w.heap.size A b c s' wr) (fun _ _ i _ => n - (intOf i).toNat)
      case atStart => exact ⟨0, 0, [], s1, rfl, Nat.zero_le _, rfl, rfl, World.ownsRow_nil _ _ _ _, HXX.out, HEE.out, HR2.out⟩
      case round =>
        clear HR2 HXX HEE
        obtain ⟨k, last, acc, s', rfl, hk, rfl, hacc, hown, htl, hse, hrat⟩ := hrel
        obtain ⟨V, cv, rfl⟩ := own_form hown
        by_cases hlt : k < n
        · have HT := Lib.hid (show takeLoop (n - (k + 1) + 1) last acc s' = x by rw [← htl]; congr 1; omega)
          have HSE := Lib.hid hse
          have HA := Lib.hid hacc
          have haccl : acc.length ≤ 16 := by omega
          have hka := (Kept.refl (fun _ => False) wr).alloc (.cells #[.int .i64 0, .int .i64 0] 23)
          have HRd := Lib.hid (hrat.fresh hka)
          have HO := Lib.hid (hown.alloc (.cells #[.int .i64 0, .int .i64 0] 23))
          have HBd := Lib.hid (Box.new wr 23 #[.int .i64 0, .int .i64 0])
          have HGD := Lib.hid (show w.heap.size + 2 ≤ wr.heap.size from by have := hrat.res.lt; omega)
          have HOG := Lib.hid (show ∀ j, (Value.slice V acc.length cv).ownBlock = some j → j < wr.heap.size ∧ w.heap.size ≤ j from fun j e => ⟨(hown.lt j e).2, (hown.lt j e).1⟩)
          have HOB := Lib.hid (show (Value.slice V acc.length cv).ownBlock ≠ some w.heap.size ∧ (Value.slice V acc.length cv).ownBlock ≠ some (w.heap.size + 1) from by
            obtain ⟨_, hbb, _⟩ := hrat.box
            exact ⟨own_box_ne hown hbb (by decide), own_box_ne hown hrat.res (by decide)⟩)
          obtain ⟨ak, hbk, ha_ak, hl_ak⟩ := HRd.out.box
          rw [hse] at hbk
          have hs : (⟨b.drop ak, 0⟩ : Rd) = s' := by rw [hl_ak, ← hse]
          have HS := Lib.hid hs
          have HBk := Lib.hid hbk
          clear hown htl hse hrat hacc hka hbk hl_ak hs
          go_upto_region 12 with (fail)
          generalize wr.alloc (.cells #[.int .i64 0, .int .i64 0] 23) = Wd at HRd HO HBd HBk ⊢
          obtain ⟨gd, hgd⟩ : ∃ gd, wr.heap.size = gd := ⟨_, rfl⟩
          rw [hgd] at HBd HGD HOG ⊢
          clear hgd
          have y0 : Wd.cell? ⟨w.heap.size, 0, none⟩ = some (.slice A b.length c) := by simpa [rdV] using HBk.out.cell 0
          have y1 : Wd.cell? ⟨w.heap.size, 1, none⟩ = some (.int .i64 ak) := by simpa [rdV] using HBk.out.cell 1
          have y2 : Wd.cell? ⟨w.heap.size, 2, none⟩ = some (.int .i64 0) := by simpa [rdV] using HBk.out.cell 2
          go_wp2_with (fail)
          refine (RTNum_any A b c ak 0 _ HRd.out.bytes HBY.out ha_ak hlen).mono ?_
          rw [HS.out]
          rintro r w3 ⟨a3, rfl, ha_a3, hl3, hk3⟩
          have hl_a3 := Lib.hid hl3
          have HR3 := Lib.hid ((HRd.out.fresh hk3).kept (w2 := w3.setCell ⟨gd, 0, none⟩ (.int .i64 (s'.val : Int))) ((Kept.refl (fun k => k = gd) _).at 0 _ (.inl rfl)) fun k e => by have := HGD.out; omega)
          have HB3 := Lib.hid ((HBk.out.kept hk3 id).far (p := ⟨gd, 0, none⟩) (by have := HGD.out; show w.heap.size ≠ gd; omega) (.int .i64 (s'.val : Int)))
          have HD3 := Lib.hid (show Box (w3.setCell ⟨gd, 0, none⟩ (.int .i64 (s'.val : Int))) gd 23 #[.int .i64 (s'.val : Int), .int .i64 0] from by have := (HBd.out.kept hk3 id).set 0 (.int .i64 (s'.val : Int)); simpa using this)
          have HO3 := Lib.hid ((show Kept (fun k => k = gd) w3 (w3.setCell ⟨gd, 0, none⟩ (.int .i64 (s'.val : Int))) from (Kept.refl _ _).at 0 _ (.inl rfl)).own (hk3.own HO.out fun _ _ => id) fun j e hj => by have := (HOG.out j e).1; omega)
          have d0 : w3.cell? ⟨gd, 0, none⟩ = some (.int .i64 0) := by simpa using (HBd.out.kept hk3 id).cell 0
          have df : w3.frozen? ⟨gd, 0, none⟩ = false := (HBd.out.kept hk3 id).frozen 0
          clear hl3 hk3 HRd HBk HBd HO HS y0 y1 y2
          have HT1 := Lib.hid (show s'.nx.e ≠ 0 → x = (s'.nx.e, [], s'.nx) from fun h => by rw [← HT.out, tl1 h])
          have HT2 := Lib.hid (show s'.nx.e = 0 → siteB s'.val = false ∨ (s'.val : Int) ≤ last → x = (6, [], s'.nx) from fun h h' => by rw [← HT.out, tl2 h h'])
          have HT3 := Lib.hid (show s'.nx.e = 0 → ¬ (siteB s'.val = false ∨ (s'.val : Int) ≤ last) → s'.nx.nx.e ≠ 0 → x = (s'.nx.nx.e, [], s'.nx.nx) from fun h h' h'' => by rw [← HT.out, tl3 h h' h''])
          have HT4 := Lib.hid (show s'.nx.e = 0 → ¬ (siteB s'.val = false ∨ (s'.val : Int) ≤ last) → s'.nx.nx.e = 0 → s'.nx.val < 1 ∨ 2147483647 < s'.nx.val → x = (6, [], s'.nx.nx) from fun h h' h'' h4 => by rw [← HT.out, tl4 h h' h'' h4])
          have HT5 := Lib.hid (show s'.nx.e = 0 → ¬ (siteB s'.val = false ∨ (s'.val : Int) ≤ last) → s'.nx.nx.e = 0 → ¬ (s'.nx.val < 1 ∨ 2147483647 < s'.nx.val) → takeLoop (n - (k + 1)) s'.val (acc ++ [⟨s'.val, s'.nx.val⟩]) s'.nx.nx = x from fun h h' h'' h4 => by rw [← HT.out, tl5 h h' h'' h4])
          clear HT
          generalize s'.val = st at HT2 HT3 HT4 HT5 HR3 HB3 HD3 HO3 ⊢
          generalize s'.nx = s2 at HT1 HT2 HT3 HT4 HT5 hl_a3 ⊢
          by_cases he : s2.e = 0
          case' neg =>
            have HXX := Lib.hid (HT1.out he)
            have e1 : (s2.e != 0) = true := by simp [he]
            obtain ⟨ee, hee⟩ : ∃ ee, s2.e = ee := ⟨_, rfl⟩
            rw [hee] at e1 ⊢
            have HEE := Lib.hid hee
            clear HT1 HT2 HT3 HT4 HT5 he hee
            go_wp2_with (refine wpList_store_box rfl 52 (.tmp 1) (.tmp 33) rfl w.heap.size (rdV A b c a3 ee) rfl rfl 52 (rdV A b c ak 0) HB3.out (size_RR.trans rfl) rfl (rdV_one _ _ _ _ _) ?_; intro w5 HB_w5 hk_w5; have z0 : w5.cell? ⟨w.heap.size, 0, none⟩ = some (.slice A b.length c) := (by simpa [rdV] using HB_w5.out.cell 0); have z1 : w5.cell? ⟨w.heap.size, 1, none⟩ = some (.int .i64 a3) := (by simpa [rdV] using HB_w5.out.cell 1); have z2 : w5.cell? ⟨w.heap.size, 2, none⟩ = some (.int .i64 ee) := (by simpa [rdV] using HB_w5.out.cell 2); have q0 : w5.cell? ⟨gd, 0, none⟩ = some (.int .i64 (st : Int)) := (by simpa using (HD3.out.kept hk_w5 (by have := HGD.out; omega)).cell 0); have q1 : w5.cell? ⟨gd, 1, none⟩ = some (.int .i64 0) := (by simpa using (HD3.out.kept hk_w5 (by have := HGD.out; omega)).cell 1))
            have HR5 := Lib.hid (HR3.out.store (s' := s2) (a := a3) (by rw [HEE.out]; exact HB_w5.out) ha_a3 hl_a3.out hk_w5)
            clear z0 z1 z2 q0 q1 d0 df
            have y0 : w5.cell? ⟨w.heap.size, 0, none⟩ = some (.slice A b.length c) := by simpa [rdV] using HB_w5.out.cell 0
            have y1 : w5.cell? ⟨w.heap.size, 1, none⟩ = some (.int .i64 a3) := by simpa [rdV] using HB_w5.out.cell 1
            have y2 : w5.cell? ⟨w.heap.size, 2, none⟩ = some (.int .i64 ee) := by simpa [rdV] using HB_w5.out.cell 2
            have r0 : w5.cell? ⟨w.heap.size + 1, 0, none⟩ = some (.slice none 0 0) := by simpa [rdV] using HR5.out.res.cell 0
            have f0 : w5.frozen? ⟨w.heap.size + 1, 0, none⟩ = false := HR5.out.res.frozen 0
            have r1 : w5.cell? ⟨w.heap.size + 1, 1, none⟩ = some (.int .i64 0) := by simpa [rdV] using HR5.out.res.cell 1
            have f1 : w5.frozen? ⟨w.heap.size + 1, 1, none⟩ = false := HR5.out.res.frozen 1
            have r2 : w5.cell? ⟨w.heap.size + 1, 2, none⟩ = some (.int .i64 0) := by simpa [rdV] using HR5.out.res.cell 2
            have f2 : w5.frozen? ⟨w.heap.size + 1, 2, none⟩ = false := HR5.out.res.frozen 2
            go_wp2_with (fail)
            go_region
            all_goals
              go_wp2
              have hbx : Box (((w5.drew.setCell ⟨w.heap.size + 1, 0, none⟩ (.slice A b.length c)).setCell ⟨w.heap.size + 1, 1, none⟩ (.int .i64 a3)).setCell ⟨w.heap.size + 1, 2, none⟩ (.int .i64 ee)) (w.heap.size + 1) 52 (rdV A b c a3 ee) := by
                have := (((HR5.out.fresh (Kept.refl _ _).drew).res.set 0 (.slice A b.length c)).set 1 (.int .i64 a3)).set 2 (.int .i64 ee)
                simpa [rdV] using this
              have hkx : Kept (fun k => k = w.heap.size + 1) w5 (((w5.drew.setCell ⟨w.heap.size + 1, 0, none⟩ (.slice A b.length c)).setCell ⟨w.heap.size + 1, 1, none⟩ (.int .i64 a3)).setCell ⟨w.heap.size + 1, 2, none⟩ (.int .i64 ee)) := ((((Kept.refl (fun k => k = w.heap.size + 1) w5).drew).at 0 _ (.inl rfl)).at 1 _ (.inl rfl)).at 2 _ (.inl rfl)
              exact RTakePost.ret (g := w.heap.size) (s := _) (HXX.out.trans (by rw [HEE.out])) HEE.out hbx ha_a3 hl_a3.out DotsAt.nil (HR5.out.k.trans hkx fun k hk e => by omega) rfl rfl rfl rfl rfl
          have HEE := Lib.hid he
          rw [he]
          clear HT1 he
          have hst : (siteB (st : Int) = false ∨ (st : Int) ≤ last) ∨ ¬ (siteB (st : Int) = false ∨ (st : Int) ≤ last) := Classical.em _
          rcases hst with hst | hst
          · have HXX := Lib.hid (HT2.out HEE.out hst)
            have hc : (st : Int) < 1 ∨ (1 ≤ (st : Int) ∧ 16 < (st : Int)) ∨ (1 ≤ (st : Int) ∧ (st : Int) ≤ 16 ∧ (st : Int) ≤ last) := by simp [siteB] at hst; omega
            clear HT2 HT3 HT4 HT5 hst
            rcases hc with hc | ⟨hc, hc2⟩ | ⟨hc, hc2, hc3⟩
            all_goals
              go_wp2_with (refine wpList_store_box rfl 52 (.tmp 1) (.tmp 33) rfl w.heap.size (rdV A b c a3 0) rfl rfl 52 (rdV A b c ak 0) HB3.out (size_RR.trans rfl) rfl (rdV_one _ _ _ _ _) ?_; intro w5 HB_w5 hk_w5; have z0 : w5.cell? ⟨w.heap.size, 0, none⟩ = some (.slice A b.length c) := (by simpa [rdV] using HB_w5.out.cell 0); have z1 : w5.cell? ⟨w.heap.size, 1, none⟩ = some (.int .i64 a3) := (by simpa [rdV] using HB_w5.out.cell 1); have z2 : w5.cell? ⟨w.heap.size, 2, none⟩ = some (.int .i64 0) := (by simpa [rdV] using HB_w5.out.cell 2); have q0 : w5.cell? ⟨gd, 0, none⟩ = some (.int .i64 (st : Int)) := (by simpa using (HD3.out.kept hk_w5 (by have := HGD.out; omega)).cell 0); have q1 : w5.cell? ⟨gd, 1, none⟩ = some (.int .i64 0) := (by simpa using (HD3.out.kept hk_w5 (by have := HGD.out; omega)).cell 1))
              have HR5 := Lib.hid (HR3.out.store (s' := s2) (a := a3) (by rw [HEE.out]; exact HB_w5.out) ha_a3 hl_a3.out hk_w5)
              clear z0 z1 z2 q0 q1 d0 df
              have y0 : w5.cell? ⟨w.heap.size, 0, none⟩ = some (.slice A b.length c) := by simpa [rdV] using HB_w5.out.cell 0
              have y1 : w5.cell? ⟨w.heap.size, 1, none⟩ = some (.int .i64 a3) := by simpa [rdV] using HB_w5.out.cell 1
              have y2 : w5.cell? ⟨w.heap.size, 2, none⟩ = some (.int .i64 0) := by simpa [rdV] using HB_w5.out.cell 2
              go_wp2_with (fail)
              go_still_tail 2, (by kernel_rfl)
              change wpList _ _ _ _ _ w5.drew
              have HR9 := Lib.hid (HR5.out.fresh (Kept.refl _ _).drew)
              clear y0 y1 y2
              generalize w5.drew = W9 at HR9 ⊢
              go_wp2_with (refine wpList_store_box rfl 52 (.tmp 3) (.tmp 55) rfl (w.heap.size + 1) (rdV A b c a3 0) rfl rfl 52 (rdV none [] 0 0 0) HR9.out.res (size_RR.trans rfl) rfl (rdV_one _ _ _ _ _) ?_; intro w9 HBX hkX)
              exact RTakePost.ret (g := w.heap.size) (s := _) HXX.out HEE.out HBX.out ha_a3 hl_a3.out DotsAt.nil (HR9.out.k.trans hkX fun k hk e => by omega) rfl rfl rfl rfl rfl
          · have HT3' := Lib.hid (HT3.out HEE.out hst)
            have HT4' := Lib.hid (HT4.out HEE.out hst)
            have HT5' := Lib.hid (HT5.out HEE.out hst)
            obtain ⟨hc1, hc2, hc3⟩ : 1 ≤ (st : Int) ∧ (st : Int) ≤ 16 ∧ ¬ (st : Int) ≤ last := by simp [siteB] at hst; omega
            clear HT2 HT3 HT4 HT5 hst
            go_wp2_with (refine wpList_store_box rfl 52 (.tmp 1) (.tmp 33) rfl w.heap.size (rdV A b c a3 0) rfl rfl 52 (rdV A b c ak 0) HB3.out (size_RR.trans rfl) rfl (rdV_one _ _ _ _ _) ?_; intro w5 HB_w5 hk_w5; have z0 : w5.cell? ⟨w.heap.size, 0, none⟩ = some (.slice A b.length c) := (by simpa [rdV] using HB_w5.out.cell 0); have z1 : w5.cell? ⟨w.heap.size, 1, none⟩ = some (.int .i64 a3) := (by simpa [rdV] using HB_w5.out.cell 1); have z2 : w5.cell? ⟨w.heap.size, 2, none⟩ = some (.int .i64 0) := (by simpa [rdV] using HB_w5.out.cell 2); have q0 : w5.cell? ⟨gd, 0, none⟩ = some (.int .i64 (st : Int)) := (by simpa using (HD3.out.kept hk_w5 (by have := HGD.out; omega)).cell 0); have q1 : w5.cell? ⟨gd, 1, none⟩ = some (.int .i64 0) := (by simpa using (HD3.out.kept hk_w5 (by have := HGD.out; omega)).cell 1))
            have HR5 := Lib.hid (HR3.out.store (s' := s2) (a := a3) (by rw [HEE.out]; exact HB_w5.out) ha_a3 hl_a3.out hk_w5)
            have HD5 := Lib.hid (HD3.out.kept hk_w5 (by have := HGD.out; omega))
            have HO5 := Lib.hid (hk_w5.own HO3.out fun j e hj => by subst hj; exact HOB.out.1 e)
            have HS2 := Lib.hid (show (⟨b.drop a3, 0⟩ : Rd) = s2 by rw [hl_a3.out, ← HEE.out])
            clear z0 z1 z2 q0 q1 d0 df hk_w5 HR3 HB3 HD3 HO3 HEE hl_a3
            refine (RTNum_any A b c a3 0 _ HR5.out.bytes HBY.out ha_a3 hlen).mono ?_
            rw [HS2.out]
            rintro r w6 ⟨a6, rfl, ha_a6, hl6, hk6⟩
            have hl_a6 := Lib.hid hl6
            have HR6 := Lib.hid ((HR5.out.fresh hk6).kept (w2 := w6.setCell ⟨gd, 1, none⟩ (.int .i64 (s2.val : Int))) ((Kept.refl (fun k => k = gd) _).at 1 _ (.inl rfl)) fun k e => by have := HGD.out; omega)
            have HB6 := Lib.hid ((HB_w5.out.kept hk6 id).far (p := ⟨gd, 1, none⟩) (by have := HGD.out; show w.heap.size ≠ gd; omega) (.int .i64 (s2.val : Int)))
            have HD6 := Lib.hid (show Box (w6.setCell ⟨gd, 1, none⟩ (.int .i64 (s2.val : Int))) gd 23 #[.int .i64 (st : Int), .int .i64 (s2.val : Int)] from by have := (HD5.out.kept hk6 id).set 1 (.int .i64 (s2.val : Int)); simpa using this)
            have HO6 := Lib.hid ((show Kept (fun k => k = gd) w6 (w6.setCell ⟨gd, 1, none⟩ (.int .i64 (s2.val : Int))) from (Kept.refl _ _).at 1 _ (.inl rfl)).own (hk6.own HO5.out fun _ _ => id) fun j e hj => by have := (HOG.out j e).1; omega)
            have d0 : w6.cell? ⟨gd, 1, none⟩ = some (.int .i64 0) := by simpa using (HD5.out.kept hk6 id).cell 1
            have df : w6.frozen? ⟨gd, 1, none⟩ = false := (HD5.out.kept hk6 id).frozen 1
            clear hl6 hk6 HR5 HB_w5 HD5 HO5 HS2
            generalize s2.val = sq at HT4' HT5' HR6 HB6 HD6 HO6 ⊢
            generalize s2.nx = s3 at HT3' HT4' HT5' hl_a6 ⊢
            by_cases he : s3.e = 0
            case' neg =>
              have HXX := Lib.hid (HT3'.out he)
              have e1 : (s3.e != 0) = true := by simp [he]
              obtain ⟨ee, hee⟩ : ∃ ee, s3.e = ee := ⟨_, rfl⟩
              rw [hee] at e1 ⊢
              have HEE := Lib.hid hee
              clear HT3' HT4' HT5' he hee
              go_wp2_with (refine wpList_store_box rfl 52 (.tmp 1) (.tmp 62) rfl w.heap.size (rdV A b c a6 ee) rfl rfl 52 (rdV A b c a3 0) HB6.out (size_RR.trans rfl) rfl (rdV_one _ _ _ _ _) ?_; intro w8 HB_w8 hk_w8; have z0 : w8.cell? ⟨w.heap.size, 0, none⟩ = some (.slice A b.length c) := (by simpa [rdV] using HB_w8.out.cell 0); have z1 : w8.cell? ⟨w.heap.size, 1, none⟩ = some (.int .i64 a6) := (by simpa [rdV] using HB_w8.out.cell 1); have z2 : w8.cell? ⟨w.heap.size, 2, none⟩ = some (.int .i64 ee) := (by simpa [rdV] using HB_w8.out.cell 2); have q0 : w8.cell? ⟨gd, 0, none⟩ = some (.int .i64 (st : Int)) := (by simpa using (HD6.out.kept hk_w8 (by have := HGD.out; omega)).cell 0); have q1 : w8.cell? ⟨gd, 1, none⟩ = some (.int .i64 (sq : Int)) := (by simpa using (HD6.out.kept hk_w8 (by have := HGD.out; omega)).cell 1))
              have HR8 := Lib.hid (HR6.out.store (s' := s3) (a := a6) (by rw [HEE.out]; exact HB_w8.out) ha_a6 hl_a6.out hk_w8)
              clear z0 z1 z2 q0 q1 d0 df
              have y0 : w8.cell? ⟨w.heap.size, 0, none⟩ = some (.slice A b.length c) := by simpa [rdV] using HB_w8.out.cell 0
              have y1 : w8.cell? ⟨w.heap.size, 1, none⟩ = some (.int .i64 a6) := by simpa [rdV] using HB_w8.out.cell 1
              have y2 : w8.cell? ⟨w.heap.size, 2, none⟩ = some (.int .i64 ee) := by simpa [rdV] using HB_w8.out.cell 2
              have r0 : w8.cell? ⟨w.heap.size + 1, 0, none⟩ = some (.slice none 0 0) := by simpa [rdV] using HR8.out.res.cell 0
              have f0 : w8.frozen? ⟨w.heap.size + 1, 0, none⟩ = false := HR8.out.res.frozen 0
              have r1 : w8.cell? ⟨w.heap.size + 1, 1, none⟩ = some (.int .i64 0) := by simpa [rdV] using HR8.out.res.cell 1
              have f1 : w8.frozen? ⟨w.heap.size + 1, 1, none⟩ = false := HR8.out.res.frozen 1
              have r2 : w8.cell? ⟨w.heap.size + 1, 2, none⟩ = some (.int .i64 0) := by simpa [rdV] using HR8.out.res.cell 2
              have f2 : w8.frozen? ⟨w.heap.size + 1, 2, none⟩ = false := HR8.out.res.frozen 2
              go_wp2_with (fail)
              go_region
              all_goals
                go_wp2
                have hbx : Box (((w8.drew.setCell ⟨w.heap.size + 1, 0, none⟩ (.slice A b.length c)).setCell ⟨w.heap.size + 1, 1, none⟩ (.int .i64 a6)).setCell ⟨w.heap.size + 1, 2, none⟩ (.int .i64 ee)) (w.heap.size + 1) 52 (rdV A b c a6 ee) := by
                  have := (((HR8.out.fresh (Kept.refl _ _).drew).res.set 0 (.slice A b.length c)).set 1 (.int .i64 a6)).set 2 (.int .i64 ee)
                  simpa [rdV] using this
                have hkx : Kept (fun k => k = w.heap.size + 1) w8 (((w8.drew.setCell ⟨w.heap.size + 1, 0, none⟩ (.slice A b.length c)).setCell ⟨w.heap.size + 1, 1, none⟩ (.int .i64 a6)).setCell ⟨w.heap.size + 1, 2, none⟩ (.int .i64 ee)) := ((((Kept.refl (fun k => k = w.heap.size + 1) w8).drew).at 0 _ (.inl rfl)).at 1 _ (.inl rfl)).at 2 _ (.inl rfl)
                exact RTakePost.ret (g := w.heap.size) (s := _) (HXX.out.trans (by rw [HEE.out])) HEE.out hbx ha_a6 hl_a6.out DotsAt.nil (HR8.out.k.trans hkx fun k hk e => by omega) rfl rfl rfl rfl rfl
            have HEE := Lib.hid he
            have HT4 := Lib.hid (HT4'.out he)
            have HT5 := Lib.hid (HT5'.out he)
            rw [he]
            clear HT3' HT4' HT5' he
            by_cases hq : sq < 1 ∨ 2147483647 < sq
            · have HXX := Lib.hid (HT4.out hq)
              have hc : (sq : Int) < 1 ∨ (1 ≤ (sq : Int) ∧ 2147483647 < (sq : Int)) := by omega
              clear HT4 HT5 hq
              rcases hc with hc | ⟨hc, hc4⟩
              all_goals
                go_wp2_with (refine wpList_store_box rfl 52 (.tmp 1) (.tmp 62) rfl w.heap.size (rdV A b c a6 0) rfl rfl 52 (rdV A b c a3 0) HB6.out (size_RR.trans rfl) rfl (rdV_one _ _ _ _ _) ?_; intro w8 HB_w8 hk_w8; have z0 : w8.cell? ⟨w.heap.size, 0, none⟩ = some (.slice A b.length c) := (by simpa [rdV] using HB_w8.out.cell 0); have z1 : w8.cell? ⟨w.heap.size, 1, none⟩ = some (.int .i64 a6) := (by simpa [rdV] using HB_w8.out.cell 1); have z2 : w8.cell? ⟨w.heap.size, 2, none⟩ = some (.int .i64 0) := (by simpa [rdV] using HB_w8.out.cell 2); have q0 : w8.cell? ⟨gd, 0, none⟩ = some (.int .i64 (st : Int)) := (by simpa using (HD6.out.kept hk_w8 (by have := HGD.out; omega)).cell 0); have q1 : w8.cell? ⟨gd, 1, none⟩ = some (.int .i64 (sq : Int)) := (by simpa using (HD6.out.kept hk_w8 (by have := HGD.out; omega)).cell 1))
                have HR8 := Lib.hid (HR6.out.store (s' := s3) (a := a6) (by rw [HEE.out]; exact HB_w8.out) ha_a6 hl_a6.out hk_w8)
                clear z0 z1 z2 q0 q1 d0 df
                have y0 : w8.cell? ⟨w.heap.size, 0, none⟩ = some (.slice A b.length c) := by simpa [rdV] using HB_w8.out.cell 0
                have y1 : w8.cell? ⟨w.heap.size, 1, none⟩ = some (.int .i64 a6) := by simpa [rdV] using HB_w8.out.cell 1
                have y2 : w8.cell? ⟨w.heap.size, 2, none⟩ = some (.int .i64 0) := by simpa [rdV] using HB_w8.out.cell 2
                go_wp2_with (fail)
                go_still_tail 2, (by kernel_rfl)
                change wpList _ _ _ _ _ w8.drew
                have HR9 := Lib.hid (HR8.out.fresh (Kept.refl _ _).drew)
                clear y0 y1 y2
                generalize w8.drew = W9 at HR9 ⊢
                go_wp2_with (refine wpList_store_box rfl 52 (.tmp 3) (.tmp 78) rfl (w.heap.size + 1) (rdV A b c a6 0) rfl rfl 52 (rdV none [] 0 0 0) HR9.out.res (size_RR.trans rfl) rfl (rdV_one _ _ _ _ _) ?_; intro w9 HBX hkX)
                exact RTakePost.ret (g := w.heap.size) (s := _) HXX.out HEE.out HBX.out ha_a6 hl_a6.out DotsAt.nil (HR9.out.k.trans hkX fun k hk e => by omega) rfl rfl rfl rfl rfl
            · have HXX := Lib.hid (HT5.out hq)
              have hq1 : 1 ≤ (sq : Int) := by omega
              have hq2 : (sq : Int) ≤ 2147483647 := by omega
              clear HT4 HT5 hq
              go_upto_region 23 with (refine wpList_store_box rfl 52 (.tmp 1) (.tmp 62) rfl w.heap.size (rdV A b c a6 0) rfl rfl 52 (rdV A b c a3 0) HB6.out (size_RR.trans rfl) rfl (rdV_one _ _ _ _ _) ?_; intro w8 HB_w8 hk_w8; have z2 : w8.cell? ⟨w.heap.size, 2, none⟩ = some (.int .i64 0) := (by simpa [rdV] using HB_w8.out.cell 2); have q0 : w8.cell? ⟨gd, 0, none⟩ = some (.int .i64 (st : Int)) := (by simpa using (HD6.out.kept hk_w8 (by have := HGD.out; omega)).cell 0); have q1 : w8.cell? ⟨gd, 1, none⟩ = some (.int .i64 (sq : Int)) := (by simpa using (HD6.out.kept hk_w8 (by have := HGD.out; omega)).cell 1))
              have HR8 := Lib.hid (HR6.out.store (s' := s3) (a := a6) (by rw [HEE.out]; exact HB_w8.out) ha_a6 hl_a6.out hk_w8)
              have HO8 := Lib.hid (hk_w8.own HO6.out fun j e hj => by subst hj; exact HOB.out.1 e)
              have HSZ := Lib.hid (show w.heap.size ≤ w8.heap.size from by have := HR8.out.res.lt; omega)
              clear z2 d0 df hk_w8 HB_w8 HR6 HB6 HD6 HO6
              have hsz := HSZ.out
              go_wp2_with (at_builtin; refine wpList_append_new eltDts rfl (.tmp 79) (.tmp 81) rfl w.heap.size _ acc.length (dots acc) rfl HO8.out 1 1 rfl rfl rfl (by omega) hsz ?_)
              intro A2 c2 w10 HO10 HK10 _
              have HR10 := Lib.hid (show RAt w w.heap.size A b c s3 w10 from by
                obtain ⟨aq, hbq, h1, h2⟩ := HR8.out.box
                refine ⟨⟨aq, hbq.kept HK10.out fun e => HOB.out.1 e, h1, h2⟩, HR8.out.res.kept HK10.out fun e => HOB.out.2 e, ?_, HR8.out.off, HR8.out.k.trans HK10.out fun k hk e => by have := (HOG.out k e).2; omega, HR8.out.ge⟩
                rcases b with _ | ⟨x, b⟩
                · exact BytesAt.nil
                · exact HR8.out.bytes.kept HK10.out fun a ha e => by have := HR8.out.off (by simp) a ha; have := (HOG.out _ e).2; omega)
              clear q0 q1 HR8 HO8
              go_wp2
              go_roundw
              case rel => exact ⟨k + 1, st, acc ++ [⟨st, sq⟩], s3, by go_num, by omega, rfl, by simp [HA.out], by rw [dots_app, List.length_append]; exact HO10.out, HXX.out, HEE.out, HR10.out⟩
              case measure => simp [intOf]; omega
        · obtain rfl : k = n := by omega
          have HXX := Lib.hid (show x = (0, acc, s') by rw [← htl, Nat.sub_self]; rfl)
          have HRz := Lib.hid hrat
          have HSE := Lib.hid hse
          have HOz := Lib.hid (show DotsAt wr V acc from DotsAt.of_own hown)
          have HVg := Lib.hid (show ∀ a, V = some a → ¬ a.block = w.heap.size + 1 from fun a ha e => by subst ha; exact own_box_ne hown hrat.res (by decide) (by rw [← e]; rfl))
          obtain ⟨az, hbz, ha_az, hl_z⟩ := hrat.box
          rw [hse] at hbz
          have HB_z := Lib.hid hbz
          have hl_az := Lib.hid hl_z
          clear hown htl hse hrat hbz hl_z
          have y0 : wr.cell? ⟨w.heap.size, 0, none⟩ = some (.slice A b.length c) := by simpa [rdV] using HB_z.out.cell 0
          have y1 : wr.cell? ⟨w.heap.size, 1, none⟩ = some (.int .i64 az) := by simpa [rdV] using HB_z.out.cell 1
          have y2 : wr.cell? ⟨w.heap.size, 2, none⟩ = some (.int .i64 0) := by simpa [rdV] using HB_z.out.cell 2
          go_wp2_with (fail)
          go_still_tail 3, (by kernel_rfl)
          change wpList _ _ _ _ _ wr.drew
          have HR9 := Lib.hid (HRz.out.fresh (Kept.refl _ _).drew)
          have HD9 := Lib.hid (HOz.out.fresh (Kept.refl (fun _ => False) wr).drew)
          clear y0 y1 y2
          generalize wr.drew = W9 at HR9 HD9 ⊢
          go_wp2_with (refine wpList_store_box rfl 52 (.tmp 3) (.tmp 84) rfl (w.heap.size + 1) (rdV A b c az 0) rfl rfl 52 (rdV none [] 0 0 0) HR9.out.res (size_RR.trans rfl) rfl (rdV_one _ _ _ _ _) ?_; intro w9 HBX hkX)
          exact RTakePost.ret (g := w.heap.size) (s := _) HXX.out HSE.out HBX.out ha_az hl_az.out (HD9.out.kept hkX fun a ha => HVg.out a ha) (HR9.out.k.trans hkX fun k hk e => by omega) hacc.symm rfl rfl rfl rfl
  · have HXX := Lib.hid (HX1.out he)
    have e1 : (s0.nx.e != 0) = true := by simp [he]
    obtain ⟨ee, hee⟩ : ∃ ee, s0.nx.e = ee := ⟨_, rfl⟩
    rw [hee] at e1 ⊢
    have HEE := Lib.hid hee
    clear HX1 HX2 HX3 he hee
    go_wp2_with (refine wpList_store_box rfl 52 (.tmp 1) (.tmp 14) rfl w.heap.size (rdV A b c a1 ee) rfl rfl 52 (rdV A b c aq s0.e) HBQ.out (size_RR.trans rfl) rfl (rdV_one _ _ _ _ _) ?_; intro w2 HB_w2 hk_w2; have z2 : w2.cell? ⟨w.heap.size, 2, none⟩ = some (.int .i64 ee) := (by simpa [rdV] using HB_w2.out.cell 2))
    have HR2 := Lib.hid (HR1.out.store (s' := s0.nx) (a := a1) (by rw [HEE.out]; exact HB_w2.out) ha_a1 hl_a1.out hk_w2)
    clear z2
    have y0 : w2.cell? ⟨w.heap.size, 0, none⟩ = some (.slice A b.length c) := by simpa [rdV] using HB_w2.out.cell 0
    have y1 : w2.cell? ⟨w.heap.size, 1, none⟩ = some (.int .i64 a1) := by simpa [rdV] using HB_w2.out.cell 1
    have y2 : w2.cell? ⟨w.heap.size, 2, none⟩ = some (.int .i64 ee) := by simpa [rdV] using HB_w2.out.cell 2
    have r0 : w2.cell? ⟨w.heap.size + 1, 0, none⟩ = some (.slice none 0 0) := by simpa [rdV] using HR2.out.res.cell 0
    have f0 : w2.frozen? ⟨w.heap.size + 1, 0, none⟩ = false := HR2.out.res.frozen 0
    have r1 : w2.cell? ⟨w.heap.size + 1, 1, none⟩ = some (.int .i64 0) := by simpa [rdV] using HR2.out.res.cell 1
    have f1 : w2.frozen? ⟨w.heap.size + 1, 1, none⟩ = false := HR2.out.res.frozen 1
    have r2 : w2.cell? ⟨w.heap.size + 1, 2, none⟩ = some (.int .i64 0) := by simpa [rdV] using HR2.out.res.cell 2
    have f2 : w2.frozen? ⟨w.heap.size + 1, 2, none⟩ = false := HR2.out.res.frozen 2
    go_wp2_with (fail)
    go_region
    all_goals
      go_wp2
      have hbx : Box (((w2.drew.setCell ⟨w.heap.size + 1, 0, none⟩ (.slice A b.length c)).setCell ⟨w.heap.size + 1, 1, none⟩ (.int .i64 a1)).setCell ⟨w.heap.size + 1, 2, none⟩ (.int .i64 ee)) (w.heap.size + 1) 52 (rdV A b c a1 ee) := by
        have := (((HR2.out.fresh (Kept.refl _ _).drew).res.set 0 (.slice A b.length c)).set 1 (.int .i64 a1)).set 2 (.int .i64 ee)
        simpa [rdV] using this
      have hkx : Kept (fun k => k = w.heap.size + 1) w2 (((w2.drew.setCell ⟨w.heap.size + 1, 0, none⟩ (.slice A b.length c)).setCell ⟨w.heap.size + 1, 1, none⟩ (.int .i64 a1)).setCell ⟨w.heap.size + 1, 2, none⟩ (.int .i64 ee)) := ((((Kept.refl (fun k => k = w.heap.size + 1) w2).drew).at 0 _ (.inl rfl)).at 1 _ (.inl rfl)).at 2 _ (.inl rfl)
      exact RTakePost.ret (g := w.heap.size) (s := _) (HXX.out.trans (by rw [HEE.out])) HEE.out hbx ha_a1 hl_a1.out DotsAt.nil (HR2.out.k.trans hkx fun k hk e => by omega) rfl rfl rfl rfl rfl
end Go.Proofs.Ytnlklhlnnoihiaa
