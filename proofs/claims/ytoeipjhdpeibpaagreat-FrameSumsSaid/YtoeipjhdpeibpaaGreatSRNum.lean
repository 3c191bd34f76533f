/- The walk of Reader.Number. Conditions: the Reader lies in memory as ReaderAt says. -/
import Derived.Test.YtoeipjhdpeibpaaGreatSRead
import Derived.Test.YtoeipjhdpeibpaaGreatSJump
namespace Go.Proofs.YtoeipjhdpeibpaaGreat
open Go.RowKit

theorem jumps_ret (J : Nat → Act → World → Prop) (Q : Exit → Act → World → Prop) (a : Act) (w : World) : jumps J Q Exit.ret a w = Q Exit.ret a w := rfl

set_option maxRecDepth 100000 in
theorem RNumber_nil (w : World) : Calls Tryz.prog 53 #[.pointer none] w (fun r w' => r = .returned (.int .i64 0) ∧ w = w') := by
  go_enter Tryz.func53, Tryz.ntmps53
  go_wp2
  go_step3
  go_wp2
  rw [Exit.noGoto_ret]
  go_ret
  exact ⟨rfl, rfl⟩

set_option maxRecDepth 100000 in
theorem RNumber_err (d g : Nat) (l : List Int) (e : Int) (w : World) (h : ReaderAt w d g l e) (he : e ≠ 0) :
    Calls Tryz.prog 53 #[.pointer (some ⟨g, 0, none⟩)] w (fun r w' => r = .returned (.int .i64 0) ∧ w = w') := by
  obtain ⟨A, c, hb, -⟩ := h.box
  have x1 : w.cell? ⟨g, 1, none⟩ = some (.int .i64 e) := by simpa using hb.cell 1
  have e1 : (e == 0) = false := beq_eq_false_iff_ne.2 he
  have e2 : (e != 0) = true := by simp [he]
  clear h hb he
  go_enter Tryz.func53, Tryz.ntmps53
  go_wp2
  go_step3
  go_wp2
  rw [Exit.noGoto_ret]
  go_ret
  exact ⟨rfl, rfl⟩

theorem or_lay (v x n : Nat) (hv : v < 128 ^ n) (hx : x < 128) (hn : n ≤ 8) : bits .or .u64 (v : Int) (IntKind.u64.wrap ((x : Int) * 2 ^ (7 * n))) = ((v + x * 128 ^ n : Nat) : Int) ∧ v + x * 128 ^ n < 128 ^ (n + 1) ∧ 128 ^ (n + 1) ≤ 9223372036854775808 := by
  have hp : 128 ^ n = 2 ^ (7 * n) := by rw [Nat.pow_mul]
  have h9 : 128 ^ (n + 1) ≤ 9223372036854775808 := Nat.le_trans (Nat.pow_le_pow_right (by decide) (show n + 1 ≤ 9 by omega)) (by decide)
  have hs : 128 ^ (n + 1) = 128 ^ n * 128 := Nat.pow_succ ..
  have hm : x * 128 ^ n + 128 ^ n ≤ 128 ^ n * 128 := by
    have : (x + 1) * 128 ^ n ≤ 128 * 128 ^ n := Nat.mul_le_mul_right _ (by omega)
    rw [Nat.add_mul, Nat.one_mul] at this
    rw [Nat.mul_comm (128 ^ n) 128]
    exact this
  refine ⟨?_, by omega, h9⟩
  have hc : (x : Int) * 2 ^ (7 * n) = ((x * 2 ^ (7 * n) : Nat) : Int) := by push_cast; rfl
  have hl : x * 2 ^ (7 * n) < 18446744073709551616 := by rw [← hp]; omega
  rw [hc, IntWalk.u64_in _ ⟨by omega, by omega⟩, bits_or_u64_nat _ _ (by omega) hl]
  congr 1
  rw [hp]
  rw [hp] at hv
  have := Nat.shiftLeft_add_eq_or_of_lt hv x
  rw [Nat.shiftLeft_eq] at this
  rw [Nat.or_comm, ← this, Nat.add_comm]
theorem take_nil {n v : Nat} : takeFrom n v [] = (5, 0, 0) := rfl
theorem take_long {v : Nat} {b : Int} {t : List Int} (h : 128 ≤ b) : takeFrom 8 v (b :: t) = (6, 0, 0) := by rw [takeFrom, if_pos h, if_pos rfl]
theorem take_more' {n v : Nat} {b : Int} {t : List Int} (h : 128 ≤ b) (hn : n ≠ 8) : takeFrom n v (b :: t) = takeFrom (n + 1) (v + (b - 128).toNat * 128 ^ n) t := by rw [takeFrom, if_pos h, if_neg hn]
theorem take_zero {n v : Nat} {t : List Int} (hn : 0 < n) : takeFrom n v (0 :: t) = (6, 0, 0) := by rw [takeFrom, if_neg (by decide), if_pos ⟨rfl, hn⟩]
theorem take_end {n v : Nat} {b : Int} {t : List Int} (h : ¬ 128 ≤ b) (h0 : ¬ (b = 0 ∧ 0 < n)) : takeFrom n v (b :: t) = (0, v + b.toNat * 128 ^ n, n + 1) := by rw [takeFrom, if_neg h, if_neg h0]

theorem far_cell {w : World} {g : Nat} {i : Nat} {u : Value} {a : Addr} (h : a.block ≠ g) : (w.setCell ⟨g, i, none⟩ u).cell? a = w.cell? a :=
  World.cell?_of_block (Below.heap_setCell w ⟨g, i, none⟩ u a.block h)
theorem took {w : World} {d g : Nat} {l : List Int} {ad : Addr} {c k : Nat} (hb : Box w g 97 #[.slice (some ad) l.length c, .int .i64 0]) (hy : BytesAt w (some ad) l)
    (ho : ∀ a, some ad = some a → l ≠ [] → a.block = d ∧ d ≠ g) (hbg : d < w.heap.size) (hc : l.length ≤ c ∧ c ≤ maxLen) (hk : k ≤ l.length) :
    ReaderAt (w.setCell ⟨g, 0, none⟩ (.slice (some (ad.add k)) (l.length - k) (c - k))) d g (l.drop k) 0 := by
  have hab : (ad.add k).block = ad.block := by unfold Addr.add; split <;> rfl
  refine ⟨⟨some (ad.add k), c - k, ?_, ?_, ?_, ?_⟩, by simpa using hbg⟩
  · have := hb.set 0 (.slice (some (ad.add k)) (l.length - k) (c - k))
    simpa using this
  · rw [List.length_drop]; omega
  · intro j hj
    rw [List.length_drop] at hj
    obtain ⟨a, e, h0⟩ := hy (k + j) (by omega)
    injection e with e
    subst e
    have hne : l ≠ [] := fun e => by rw [e] at hj; simp at hj
    have hg : ad.block ≠ g := by have := ho ad rfl hne; rw [this.1]; exact this.2
    have haa : ((ad.add k).add j).block = ad.block := by
      have : ∀ (x : Addr) (m : Nat), (x.add m).block = x.block := fun x m => by unfold Addr.add; split <;> rfl
      rw [this, this]
    refine ⟨_, rfl, ?_⟩
    rw [far_cell (by rw [haa]; exact hg), Addr.add_add, h0]
    simp
  · intro a e hne
    injection e with e
    subst e
    rw [hab]
    refine ho ad rfl fun e => hne ?_
    rw [e]; simp
theorem took_all {w : World} {d g : Nat} {l : List Int} {ad : Addr} {c k : Nat} (hb : Box w g 97 #[.slice (some ad) l.length c, .int .i64 0]) (hbg : d < w.heap.size) (hk : k = l.length) :
    ReaderAt (w.setCell ⟨g, 0, none⟩ (.slice (some ad) (l.length - k) 0)) d g (l.drop k) 0 := by
  subst hk
  refine ⟨⟨some ad, 0, ?_, ?_, ?_, ?_⟩, by simpa using hbg⟩
  · have := hb.set 0 (.slice (some ad) (l.length - l.length) 0)
    simpa using this
  · rw [List.drop_length]; simp [maxLen]
  · rw [List.drop_length]; exact BytesAt.nil
  · intro a e hne
    rw [List.drop_length] at hne
    exact absurd rfl hne
theorem ReaderAt.err {w : World} {d g : Nat} {l : List Int} {e : Int} (h : ReaderAt w d g l e) (e' : Int) : ReaderAt (w.setCell ⟨g, 1, none⟩ (.int .i64 e')) d g l e' := by
  obtain ⟨A, c, hb, hc, hy, ho⟩ := h.box
  refine ⟨⟨A, c, ?_, hc, ?_, ho⟩, by simpa using h.dlt⟩
  · have := hb.set 1 (.int .i64 e')
    simpa using this
  · intro k hk
    obtain ⟨a, ea, h0⟩ := hy k hk
    have hne : l ≠ [] := fun e => by rw [e] at hk; simp at hk
    have haa : (a.add k).block = a.block := by unfold Addr.add; split <;> rfl
    refine ⟨a, ea, ?_⟩
    rw [far_cell (by rw [haa]; exact (by have := ho a ea hne; rw [this.1]; exact this.2)), h0]

def Frame (g : Nat) (v : Nat) (n : Nat) (er : Int) (a : Act) : Prop := ∃ u6 u7 u8 u9 u10 u11 u12 u13 u14 u15 u16 u17 u18 u19 u20 u21 u22 u23 u24 u25 u26 u27 u28 u29 u30 u31 u32 u33 u34 u35 u36 u37 u38 u39 u40 u41 u42 u43 u44 u45 u46 u47 u48 u49 u50 u51 u52 u53 u54 u55 u56 u57 u58 u59 u60 u61 u62 u63 u64 u65 u66 u67 u68 u69 u70 u71 u72 : Value,
  a = { tmps := #[.pointer (some ⟨g, 0, none⟩), undef, .int .i64 0, .int .u64 v, .int .i64 n, .int .i64 er, u6, u7, u8, u9, u10, u11, u12, u13, u14, u15, u16, u17, u18, u19, u20, u21, u22, u23, u24, u25, u26, u27, u28, u29, u30, u31, u32, u33, u34, u35, u36, u37, u38, u39, u40, u41, u42, u43, u44, u45, u46, u47, u48, u49, u50, u51, u52, u53, u54, u55, u56, u57, u58, u59, u60, u61, u62, u63, u64, u65, u66, u67, u68, u69, u70, u71, u72], defers := [] }

def NPost (w : World) (d g : Nat) (l : List Int) (r : Ending) (w' : World) : Prop :=
  r = .returned (.int .i64 (takeFrom 0 0 l).2.1) ∧ Kept (fun k => k = g) w w' ∧ ReaderAt w' d g (l.drop (takeFrom 0 0 l).2.2) (takeFrom 0 0 l).1

theorem NPost.mk {w w' : World} {d g : Nat} {l : List Int} {r : Ending} {v n : Nat} (h : takeFrom 0 0 l = (0, v, n)) (hr : r = .returned (.int .i64 v)) {u : Value} (hw : ReaderAt (w.setCell ⟨g, 0, none⟩ u) d g (l.drop n) 0) (he : w' = w.setCell ⟨g, 0, none⟩ u := by rfl) : NPost w d g l r w' := by
  subst he
  rw [NPost, h]
  exact ⟨hr, (Kept.refl _ _).at 0 _ (.inl rfl), hw⟩
theorem NPost.no {w w' : World} {d g : Nat} {l : List Int} {r : Ending} {er : Int} (h : takeFrom 0 0 l = (er, 0, 0)) (hw : ReaderAt (w.setCell ⟨g, 1, none⟩ (.int .i64 er)) d g l er) (hr : r = .returned (.int .i64 0) := by rfl) (he : w' = w.setCell ⟨g, 1, none⟩ (.int .i64 er) := by rfl) : NPost w d g l r w' := by
  subst he
  rw [NPost, h]
  exact ⟨hr, (Kept.refl _ _).at 1 _ (.inl rfl), hw⟩

set_option maxRecDepth 100000 in
theorem RNumber_any (d g : Nat) (l : List Int) (w : World) (h : ReaderAt w d g l 0) (hbyte : isByte l) :
    Calls Tryz.prog 53 #[.pointer (some ⟨g, 0, none⟩)] w (NPost w d g l) := by
  have H := Lib.hid h
  obtain ⟨A, c, hb, ⟨hc1, hc2⟩, hy, how⟩ := h.box
  have HOW := Lib.hid how
  have HY := Lib.hid hy
  have HB := Lib.hid hb
  clear h hb hy how
  go_enter Tryz.func53, Tryz.ntmps53
  go_wp2
  refine wp_scope_two 1 0 (by decide) _ _ rfl rfl (fun a w' => w' = w ∧ ∃ n v : Nat, n ≤ 8 ∧ n ≤ l.length ∧ v < 128 ^ n ∧ takeFrom n v (l.drop n) = takeFrom 0 0 l ∧ Frame g v n 6 a)
    (fun a w' => w' = w ∧ ∃ (n v : Nat) (er : Int), er ≠ 0 ∧ takeFrom 0 0 l = (er, 0, 0) ∧ Frame g v n er a) (fun a _ => 8 - (intOf (a.tmps.getD 4 undef)).toNat) ?_ ?_ ?_
  · rintro a w' ⟨rfl, n, v, hn, hnl, hv, ht, u6, u7, u8, u9, u10, u11, u12, u13, u14, u15, u16, u17, u18, u19, u20, u21, u22, u23, u24, u25, u26, u27, u28, u29, u30, u31, u32, u33, u34, u35, u36, u37, u38, u39, u40, u41, u42, u43, u44, u45, u46, u47, u48, u49, u50, u51, u52, u53, u54, u55, u56, u57, u58, u59, u60, u61, u62, u63, u64, u65, u66, u67, u68, u69, u70, u71, u72, rfl⟩
    have x0 : w'.cell? ⟨g, 0, none⟩ = some (.slice A l.length c) := by simpa using HB.out.cell 0
    have HT := Lib.hid ht
    have HV := Lib.hid hv
    clear ht hv
    by_cases hlt : n < l.length
    · obtain ⟨ad, rfl, hcell⟩ := HY.out n hlt
      have hbt := hbyte l[n] (List.getElem_mem hlt)
      have HD := Lib.hid (List.drop_eq_getElem_cons hlt)
      have hne : ((n : Int) == (l.length : Int)) = false := by simp; omega
      generalize l[n] = b at hcell hbt HD
      obtain ⟨hb0, hb1⟩ := hbt
      have HBY := Lib.hid hbyte
      clear hbyte
      by_cases h128 : 128 ≤ b
      · by_cases h8 : n = 8
        · have HTT := Lib.hid (show takeFrom 0 0 l = (6, 0, 0) by rw [← HT.out, HD.out, h8, take_long h128])
          have e8 : ((n : Int) == 8) = true := by simp; omega
          clear h8
          go_wp2_with (fail)
          go_step3
          exact .inr ⟨rfl, rfl, n, v, 6, by decide, HTT.out, _, _, _, _, _, _, _, _, _, _, _, _, _, _, _, _, _, _, _, _, _, _, _, _, _, _, _, _, _, _, _, _, _, _, _, _, _, _, _, _, _, _, _, _, _, _, _, _, _, _, _, _, _, _, _, _, _, _, _, _, _, _, _, _, _, _, _, rfl⟩
        · obtain ⟨x, hx⟩ : ∃ x : Nat, b - 128 = x := ⟨(b - 128).toNat, by omega⟩
          obtain ⟨ho, hv2, hv3⟩ := or_lay v x n HV.out (by omega) hn
          have hxn : (b - 128).toNat = x := by omega
          have HTT := Lib.hid (show takeFrom (n + 1) (v + x * 128 ^ n) (l.drop (n + 1)) = takeFrom 0 0 l by rw [← HT.out, HD.out, take_more' h128 h8, hxn])
          generalize v + x * 128 ^ n = v2 at ho hv2 HTT
          have HV2 := Lib.hid hv2
          clear hv2 hv3 hxn
          go_wp2_with (fail)
          go_step3
          exact .inl ⟨rfl, ⟨rfl, n + 1, v2, by omega, by omega, HV2.out, HTT.out, _, _, _, _, _, _, _, _, _, _, _, _, _, _, _, _, _, _, _, _, _, _, _, _, _, _, _, _, _, _, _, _, _, _, _, _, _, _, _, _, _, _, _, _, _, _, _, _, _, _, _, _, _, _, _, _, _, _, _, _, _, _, _, _, _, _, _, rfl⟩, by simp [intOf]; omega⟩
      · by_cases h0 : b = 0 ∧ 0 < n
        · obtain ⟨rfl, hn0⟩ := h0
          have HTT := Lib.hid (show takeFrom 0 0 l = (6, 0, 0) by rw [← HT.out, HD.out, take_zero hn0])
          go_wp2_with (fail)
          go_step3
          exact .inr ⟨rfl, rfl, n, v, 6, by decide, HTT.out, _, _, _, _, _, _, _, _, _, _, _, _, _, _, _, _, _, _, _, _, _, _, _, _, _, _, _, _, _, _, _, _, _, _, _, _, _, _, _, _, _, _, _, _, _, _, _, _, _, _, _, _, _, _, _, _, _, _, _, _, _, _, _, _, _, _, _, rfl⟩
        · obtain ⟨x, rfl⟩ : ∃ x : Nat, b = x := ⟨b.toNat, by omega⟩
          obtain ⟨ho, hv2, hv3⟩ := or_lay v x n HV.out (by omega) hn
          have HTT := Lib.hid (show takeFrom 0 0 l = (0, v + x * 128 ^ n, n + 1) by rw [← HT.out, HD.out, take_end h128 h0]; rfl)
          generalize v + x * 128 ^ n = v2 at ho hv2 HTT
          have hv4 : (v2 : Int) ≤ 9223372036854775807 := by omega
          clear hv2 hv3
          have hz : ((x : Int) == 0) = false ∨ (((x : Int) == 0) = true ∧ decide (0 < n) = false) := by
            by_cases hx : x = 0
            · exact .inr ⟨by simp [hx], decide_eq_false (by omega)⟩
            · exact .inl (by simp; omega)
          clear h0
          have f0 : w'.frozen? ⟨g, 0, none⟩ = false := HB.out.frozen 0
          have HDN := Lib.hid hlt
          by_cases hcap : c = n + 1
          · have HA := Lib.hid (took_all HB.out H.out.dlt (show n + 1 = l.length by omega))
            rcases hz with e0 | ⟨e0, e1⟩
            all_goals
              go_wp2_with (fail)
              rw [jumps_ret]
              go_ret
              exact NPost.mk HTT.out rfl HA.out
          · have HA := Lib.hid (took HB.out HY.out HOW.out H.out.dlt ⟨hc1, hc2⟩ (show n + 1 ≤ l.length by omega))
            rcases hz with e0 | ⟨e0, e1⟩
            all_goals
              go_wp2_with (fail)
              rw [jumps_ret]
              go_ret
              exact NPost.mk HTT.out rfl HA.out
    · obtain rfl : n = l.length := by omega
      have HTT := Lib.hid (show takeFrom 0 0 l = (5, 0, 0) by rw [← HT.out, List.drop_length]; rfl)
      go_wp2_with (fail)
      go_step3
      exact .inr ⟨rfl, rfl, l.length, v, 5, by decide, HTT.out, _, _, _, _, _, _, _, _, _, _, _, _, _, _, _, _, _, _, _, _, _, _, _, _, _, _, _, _, _, _, _, _, _, _, _, _, _, _, _, _, _, _, _, _, _, _, _, _, _, _, _, _, _, _, _, _, _, _, _, _, _, _, _, _, _, _, _, rfl⟩
  · rintro a w' ⟨rfl, n, v, er, he, ht, u6, u7, u8, u9, u10, u11, u12, u13, u14, u15, u16, u17, u18, u19, u20, u21, u22, u23, u24, u25, u26, u27, u28, u29, u30, u31, u32, u33, u34, u35, u36, u37, u38, u39, u40, u41, u42, u43, u44, u45, u46, u47, u48, u49, u50, u51, u52, u53, u54, u55, u56, u57, u58, u59, u60, u61, u62, u63, u64, u65, u66, u67, u68, u69, u70, u71, u72, rfl⟩
    have x1 : w'.cell? ⟨g, 1, none⟩ = some (.int .i64 0) := by simpa using HB.out.cell 1
    have f1 : w'.frozen? ⟨g, 1, none⟩ = false := HB.out.frozen 1
    have HT := Lib.hid ht
    clear ht
    go_wp2_with (fail)
    rw [jumps_ret]
    go_ret
    exact NPost.no HT.out (H.out.err er)
  · intro hr
    have HR := Lib.hid hr
    clear hr
    have x1 : w.cell? ⟨g, 1, none⟩ = some (.int .i64 0) := by simpa using HB.out.cell 1
    go_wp2_with (fail)
    rename_i Q' K hK
    refine wp_label ?_
    refine hK _ _ ?_
    exact HR.out _ _ ⟨rfl, 0, 0, Nat.zero_le _, Nat.zero_le _, by decide, rfl, _, _, _, _, _, _, _, _, _, _, _, _, _, _, _, _, _, _, _, _, _, _, _, _, _, _, _, _, _, _, _, _, _, _, _, _, _, _, _, _, _, _, _, _, _, _, _, _, _, _, _, _, _, _, _, _, _, _, _, _, _, _, _, _, _, _, _, rfl⟩
end Go.Proofs.YtoeipjhdpeibpaaGreat
