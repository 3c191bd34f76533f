/- A law: a scope with several labels: what holds at each jump, and a measure that falls from jump to jump. After the library's wp_scope_jumps (one label). No program in sight. · The walk of Reader.Number. Conditions: the Reader lies in memory as ReaderAt says. · The walk of Put. Conditions: the Writer and the Dots lie in memory as WriterAt and DotsAt say. -/
import Derived.ScopeJumps
import Derived.WalkMore
import Derived.Test.YtnajbkccaclkcaaGreatIM14
import Derived.Test.YtnajbkccaclkcaaGreatIM13
namespace Go.Proofs.YtnajbkccaclkcaaGreat
open Go

/-- As Q; by a goto to a label l: J l. -/
def jumps (J : Nat → Act → World → Prop) (Q : Exit → Act → World → Prop) : Exit → Act → World → Prop
  | .goto l, a, w => J l a w
  | e, a, w => Q e a w
theorem jumps_imp {J J' : Nat → Act → World → Prop} {Q : Exit → Act → World → Prop} (h : ∀ l a w, J l a w → J' l a w) : ∀ (e : Exit) (a : Act) (w : World), jumps J Q e a w → jumps J' Q e a w := fun e a w hj => by
  cases e <;> first | exact h _ _ _ hj | exact hj

theorem wp_scope_labels {P : Program} {a : Act} {w : World} {Q : Exit → Act → World → Prop} {c : Code} (J : Nat → Act → World → Prop) (μ : Nat → Act → World → Nat)
    (hJ : ∀ l a w, J l a w → ∃ r, findLabel c l = some r)
    (first : c.wp P (jumps J Q) a w)
    (pass : ∀ l r a w, findLabel c l = some r → J l a w → r.wp P (jumps (fun l' a' w' => J l' a' w' ∧ μ l' a' w' < μ l a w) Q) a w) : (Code.scope c).wp P Q a w := by
  intro b k cs
  have hg : ∀ l r, findLabel c l = some r → gotoIn l (.inScope c :: k) = some (.code r :: .inScope c :: k) := fun l r h => by simp [gotoIn, h]
  have key : ∀ n l r a w, μ l a w = n → findLabel c l = some r → J l a w → ∃ e a' w', Q e a' w' ∧ Arrives P (lone (b.at a (.code r :: .inScope c :: k)) cs w) b k cs e a' w' := by
    intro n
    induction n using Nat.strongRecOn with
    | _ n ih =>
      intro l r a w hn hf hj
      obtain ⟨e, a₁, w₁, hq, harr⟩ := pass l r a w hf hj b (.inScope c :: k) cs
      cases e with
      | normal => exact ⟨.normal, a₁, w₁, hq, Steps.trans harr (.one step_inScope)⟩
      | exit id => exact ⟨.exit id, a₁, w₁, hq, fun k' hk => harr k' (by simp [exitTo, hk])⟩
      | goto l' =>
        obtain ⟨hj', hlt⟩ := hq
        obtain ⟨r', hf'⟩ := hJ l' a₁ w₁ hj'
        obtain ⟨e₂, a₂, w₂, hq₂, harr₂⟩ := ih _ (by omega) l' r' a₁ w₁ rfl hf' hj'
        exact ⟨e₂, a₂, w₂, hq₂, .of_steps (harr _ (hg l' r' hf')) harr₂⟩
      | ret => exact ⟨_, a₁, w₁, hq, harr⟩
      | panic ch => exact ⟨_, a₁, w₁, hq, harr⟩
      | outgrown => exact ⟨_, a₁, w₁, hq, harr⟩
  obtain ⟨e, a₁, w₁, hq, harr⟩ := first b (.inScope c :: k) cs
  cases e with
  | normal => exact ⟨.normal, a₁, w₁, hq, .head step_scope (Steps.trans harr (.one step_inScope))⟩
  | exit id => exact ⟨.exit id, a₁, w₁, hq, fun k' hk => .head step_scope (harr k' (by simp [exitTo, hk]))⟩
  | goto l' =>
    obtain ⟨r', hf'⟩ := hJ l' a₁ w₁ hq
    obtain ⟨e₂, a₂, w₂, hq₂, harr₂⟩ := key _ l' r' a₁ w₁ rfl hf' hq
    exact ⟨e₂, a₂, w₂, hq₂, .of_steps (.head step_scope (harr _ (hg l' r' hf'))) harr₂⟩
  | ret => exact ⟨_, a₁, w₁, hq, .of_steps (.one step_scope) harr⟩
  | panic ch => exact ⟨_, a₁, w₁, hq, .of_steps (.one step_scope) harr⟩
  | outgrown => exact ⟨_, a₁, w₁, hq, .of_steps (.one step_scope) harr⟩
/-- Two labels: l1, to which the run jumps back; l0, at the end. What runs from l1 on may be leant on by the first way too. -/
theorem wp_scope_two {P : Program} {a : Act} {w : World} {Q : Exit → Act → World → Prop} {c : Code} (l1 l0 : Nat) (hne : l0 ≠ l1) (r1 r0 : Code) (h1 : findLabel c l1 = some (Code.skip.seq r1)) (h0 : findLabel c l0 = some r0)
    (J1 J0 : Act → World → Prop) (μ : Act → World → Nat)
    (pass1 : ∀ a w, J1 a w → r1.wp P (jumps (fun l a' w' => (l = l1 ∧ J1 a' w' ∧ μ a' w' < μ a w) ∨ (l = l0 ∧ J0 a' w')) Q) a w)
    (pass0 : ∀ a w, J0 a w → r0.wp P (jumps (fun _ _ _ => False) Q) a w)
    (first : (∀ a w, J1 a w → r1.wp P (jumps (fun l a' w' => (l = l1 ∧ J1 a' w') ∨ (l = l0 ∧ J0 a' w')) Q) a w) → c.wp P (jumps (fun l a' w' => (l = l1 ∧ J1 a' w') ∨ (l = l0 ∧ J0 a' w')) Q) a w) :
    (Code.scope c).wp P Q a w := by
  refine wp_scope_labels (fun l a' w' => (l = l1 ∧ J1 a' w') ∨ (l = l0 ∧ J0 a' w')) (fun l a w => if l = l1 then μ a w + 1 else 0) ?_ ?_ ?_
  · rintro l a w (⟨rfl, _⟩ | ⟨rfl, _⟩)
    · exact ⟨_, h1⟩
    · exact ⟨_, h0⟩
  · exact first fun a w hj => Code.wp_mono (jumps_imp fun l a' w' h => h.imp (fun h => ⟨h.1, h.2.1⟩) id) (pass1 a w hj)
  · rintro l r a w hf (⟨rfl, hj⟩ | ⟨rfl, hj⟩)
    · rw [h1] at hf
      injection hf with hf
      subst hf
      refine wp_seq (wp_skip (Code.wp_mono (jumps_imp fun l' a' w' h => ?_) (pass1 a w hj)))
      rcases h with ⟨rfl, hj', hlt⟩ | ⟨rfl, hj'⟩
      · exact ⟨.inl ⟨rfl, hj'⟩, by simp; exact hlt⟩
      · exact ⟨.inr ⟨rfl, hj'⟩, by simp [hne]⟩
    · rw [h0] at hf
      injection hf with hf
      subst hf
      exact Code.wp_mono (jumps_imp fun _ _ _ h => h.elim) (pass0 a w hj)
end Go.Proofs.YtnajbkccaclkcaaGreat

namespace Go.Proofs.YtnajbkccaclkcaaGreat
open Go.RowKit

theorem jumps_ret (J : Nat → Act → World → Prop) (Q : Exit → Act → World → Prop) (a : Act) (w : World) : jumps J Q Exit.ret a w = Q Exit.ret a w := rfl

set_option maxRecDepth 100000 in
theorem RNumber_nil (w : World) : Calls Tryz.prog 25 #[.pointer none] w (fun r w' => r = .returned (.int .i64 0) ∧ w = w') := by
  go_enter Tryz.func25, Tryz.ntmps25
  go_wp2
  go_step3
  go_wp2
  rw [Exit.noGoto_ret]
  go_ret
  exact ⟨rfl, rfl⟩

set_option maxRecDepth 100000 in
theorem RNumber_err (d g : Nat) (l : List Int) (e : Int) (w : World) (h : ReaderAt w d g l e) (he : e ≠ 0) :
    Calls Tryz.prog 25 #[.pointer (some ⟨g, 0, none⟩)] w (fun r w' => r = .returned (.int .i64 0) ∧ w = w') := by
  obtain ⟨A, c, hb, -⟩ := h.box
  have x1 : w.cell? ⟨g, 1, none⟩ = some (.int .i64 e) := by simpa using hb.cell 1
  have e1 : (e == 0) = false := beq_eq_false_iff_ne.2 he
  have e2 : (e != 0) = true := by simp [he]
  clear h hb he
  go_enter Tryz.func25, Tryz.ntmps25
  go_wp2
  go_step3
  go_wp2
  rw [Exit.noGoto_ret]
  go_ret
  exact ⟨rfl, rfl⟩

theorem or_lay (v x n : Nat) (hv : v < 128 ^ n) (hx : x < 128) (hn : n ≤ 8) : bits .or .u64 (v : Int) (IntKind.u64.wrap ((x : Int) * 2 ^ (7 * n))) = ((v + x * 128 ^ n : Nat) : Int) ∧ v + x * 128 ^ n < 128 ^ (n + 1) ∧ 128 ^ (n + 1) ≤ 9223372036854775808 := by
  have hp : 128 ^ n = 2 ^ (7 * n) := by rw [Nat.pow_mul]
  have h9 : 128 ^ (n + 1) ≤ 9223372036854775808 := Nat.le_trans (Nat.pow_le_pow_right (by decide) (show n + 1 ≤ 9 by omega)) (by decide)
  have hs : 128 ^ (n + 1) = 128 ^ n * 128 := Nat.pow_succ ..
  have hm : x * 128 ^ n + 128 ^ n ≤ 128 ^ n * 128 := by
    have : (x + 1) * 128 ^ n ≤ 128 * 128 ^ n := Nat.mul_le_mul_right _ (by omega)
    rw [Nat.add_mul, Nat.one_mul] at this
    rw [Nat.mul_comm (128 ^ n) 128]
    exact this
  refine ⟨?_, by omega, h9⟩
  have hc : (x : Int) * 2 ^ (7 * n) = ((x * 2 ^ (7 * n) : Nat) : Int) := by push_cast; rfl
  have hl : x * 2 ^ (7 * n) < 18446744073709551616 := by rw [← hp]; omega
  rw [hc, IntWalk.u64_in _ ⟨by omega, by omega⟩, bits_or_u64_nat _ _ (by omega) hl]
  congr 1
  rw [hp]
  rw [hp] at hv
  have := Nat.shiftLeft_add_eq_or_of_lt hv x
  rw [Nat.shiftLeft_eq] at this
  rw [Nat.or_comm, ← this, Nat.add_comm]
theorem take_nil {n v : Nat} : takeFrom n v [] = (5, 0, 0) := rfl
theorem take_long {v : Nat} {b : Int} {t : List Int} (h : 128 ≤ b) : takeFrom 8 v (b :: t) = (6, 0, 0) := by rw [takeFrom, if_pos h, if_pos rfl]
theorem take_more' {n v : Nat} {b : Int} {t : List Int} (h : 128 ≤ b) (hn : n ≠ 8) : takeFrom n v (b :: t) = takeFrom (n + 1) (v + (b - 128).toNat * 128 ^ n) t := by rw [takeFrom, if_pos h, if_neg hn]
theorem take_zero {n v : Nat} {t : List Int} (hn : 0 < n) : takeFrom n v (0 :: t) = (6, 0, 0) := by rw [takeFrom, if_neg (by decide), if_pos ⟨rfl, hn⟩]
theorem take_end {n v : Nat} {b : Int} {t : List Int} (h : ¬ 128 ≤ b) (h0 : ¬ (b = 0 ∧ 0 < n)) : takeFrom n v (b :: t) = (0, v + b.toNat * 128 ^ n, n + 1) := by rw [takeFrom, if_neg h, if_neg h0]

theorem far_cell {w : World} {g : Nat} {i : Nat} {u : Value} {a : Addr} (h : a.block ≠ g) : (w.setCell ⟨g, i, none⟩ u).cell? a = w.cell? a :=
  World.cell?_of_block (Below.heap_setCell w ⟨g, i, none⟩ u a.block h)
theorem took {w : World} {d g : Nat} {l : List Int} {ad : Addr} {c k : Nat} (hb : Box w g 94 #[.slice (some ad) l.length c, .int .i64 0]) (hy : BytesAt w (some ad) l)
    (ho : ∀ a, some ad = some a → l ≠ [] → a.block = d ∧ d ≠ g) (hbg : d < w.heap.size) (hc : l.length ≤ c ∧ c ≤ maxLen) (hk : k ≤ l.length) :
    ReaderAt (w.setCell ⟨g, 0, none⟩ (.slice (some (ad.add k)) (l.length - k) (c - k))) d g (l.drop k) 0 := by
  have hab : (ad.add k).block = ad.block := by unfold Addr.add; split <;> rfl
  refine ⟨⟨some (ad.add k), c - k, ?_, ?_, ?_, ?_⟩, by simpa using hbg⟩
  · have := hb.set 0 (.slice (some (ad.add k)) (l.length - k) (c - k))
    simpa using this
  · rw [List.length_drop]; omega
  · intro j hj
    rw [List.length_drop] at hj
    obtain ⟨a, e, h0⟩ := hy (k + j) (by omega)
    injection e with e
    subst e
    have hne : l ≠ [] := fun e => by rw [e] at hj; simp at hj
    have hg : ad.block ≠ g := by have := ho ad rfl hne; rw [this.1]; exact this.2
    have haa : ((ad.add k).add j).block = ad.block := by
      have : ∀ (x : Addr) (m : Nat), (x.add m).block = x.block := fun x m => by unfold Addr.add; split <;> rfl
      rw [this, this]
    refine ⟨_, rfl, ?_⟩
    rw [far_cell (by rw [haa]; exact hg), Addr.add_add, h0]
    simp
  · intro a e hne
    injection e with e
    subst e
    rw [hab]
    refine ho ad rfl fun e => hne ?_
    rw [e]; simp
theorem took_all {w : World} {d g : Nat} {l : List Int} {ad : Addr} {c k : Nat} (hb : Box w g 94 #[.slice (some ad) l.length c, .int .i64 0]) (hbg : d < w.heap.size) (hk : k = l.length) :
    ReaderAt (w.setCell ⟨g, 0, none⟩ (.slice (some ad) (l.length - k) 0)) d g (l.drop k) 0 := by
  subst hk
  refine ⟨⟨some ad, 0, ?_, ?_, ?_, ?_⟩, by simpa using hbg⟩
  · have := hb.set 0 (.slice (some ad) (l.length - l.length) 0)
    simpa using this
  · rw [List.drop_length]; simp [maxLen]
  · rw [List.drop_length]; exact BytesAt.nil
  · intro a e hne
    rw [List.drop_length] at hne
    exact absurd rfl hne
theorem ReaderAt.err {w : World} {d g : Nat} {l : List Int} {e : Int} (h : ReaderAt w d g l e) (e' : Int) : ReaderAt (w.setCell ⟨g, 1, none⟩ (.int .i64 e')) d g l e' := by
  obtain ⟨A, c, hb, hc, hy, ho⟩ := h.box
  refine ⟨⟨A, c, ?_, hc, ?_, ho⟩, by simpa using h.dlt⟩
  · have := hb.set 1 (.int .i64 e')
    simpa using this
  · intro k hk
    obtain ⟨a, ea, h0⟩ := hy k hk
    have hne : l ≠ [] := fun e => by rw [e] at hk; simp at hk
    have haa : (a.add k).block = a.block := by unfold Addr.add; split <;> rfl
    refine ⟨a, ea, ?_⟩
    rw [far_cell (by rw [haa]; exact (by have := ho a ea hne; rw [this.1]; exact this.2)), h0]

def Frame (g : Nat) (v : Nat) (n : Nat) (er : Int) (a : Act) : Prop := ∃ u6 u7 u8 u9 u10 u11 u12 u13 u14 u15 u16 u17 u18 u19 u20 u21 u22 u23 u24 u25 u26 u27 u28 u29 u30 u31 u32 u33 u34 u35 u36 u37 u38 u39 u40 u41 u42 u43 u44 u45 u46 u47 u48 u49 u50 u51 u52 u53 u54 u55 u56 u57 u58 u59 u60 u61 u62 u63 u64 u65 u66 u67 u68 u69 u70 u71 u72 : Value,
  a = { tmps := #[.pointer (some ⟨g, 0, none⟩), undef, .int .i64 0, .int .u64 v, .int .i64 n, .int .i64 er, u6, u7, u8, u9, u10, u11, u12, u13, u14, u15, u16, u17, u18, u19, u20, u21, u22, u23, u24, u25, u26, u27, u28, u29, u30, u31, u32, u33, u34, u35, u36, u37, u38, u39, u40, u41, u42, u43, u44, u45, u46, u47, u48, u49, u50, u51, u52, u53, u54, u55, u56, u57, u58, u59, u60, u61, u62, u63, u64, u65, u66, u67, u68, u69, u70, u71, u72], defers := [] }

def NPost (w : World) (d g : Nat) (l : List Int) (r : Ending) (w' : World) : Prop :=
  r = .returned (.int .i64 (takeFrom 0 0 l).2.1) ∧ Kept (fun k => k = g) w w' ∧ ReaderAt w' d g (l.drop (takeFrom 0 0 l).2.2) (takeFrom 0 0 l).1

theorem NPost.mk {w w' : World} {d g : Nat} {l : List Int} {r : Ending} {v n : Nat} (h : takeFrom 0 0 l = (0, v, n)) (hr : r = .returned (.int .i64 v)) {u : Value} (hw : ReaderAt (w.setCell ⟨g, 0, none⟩ u) d g (l.drop n) 0) (he : w' = w.setCell ⟨g, 0, none⟩ u := by rfl) : NPost w d g l r w' := by
  subst he
  rw [NPost, h]
  exact ⟨hr, (Kept.refl _ _).at 0 _ (.inl rfl), hw⟩
theorem NPost.no {w w' : World} {d g : Nat} {l : List Int} {r : Ending} {er : Int} (h : takeFrom 0 0 l = (er, 0, 0)) (hw : ReaderAt (w.setCell ⟨g, 1, none⟩ (.int .i64 er)) d g l er) (hr : r = .returned (.int .i64 0) := by rfl) (he : w' = w.setCell ⟨g, 1, none⟩ (.int .i64 er) := by rfl) : NPost w d g l r w' := by
  subst he
  rw [NPost, h]
  exact ⟨hr, (Kept.refl _ _).at 1 _ (.inl rfl), hw⟩

set_option maxRecDepth 100000 in
theorem RNumber_any (d g : Nat) (l : List Int) (w : World) (h : ReaderAt w d g l 0) (hbyte : isByte l) :
    Calls Tryz.prog 25 #[.pointer (some ⟨g, 0, none⟩)] w (NPost w d g l) := by
  have H := Lib.hid h
  obtain ⟨A, c, hb, ⟨hc1, hc2⟩, hy, how⟩ := h.box
  have HOW := Lib.hid how
  have HY := Lib.hid hy
  have HB := Lib.hid hb
  clear h hb hy how
  go_enter Tryz.func25, Tryz.ntmps25
  go_wp2
  refine wp_scope_two 1 0 (by decide) _ _ rfl rfl (fun a w' => w' = w ∧ ∃ n v : Nat, n ≤ 8 ∧ n ≤ l.length ∧ v < 128 ^ n ∧ takeFrom n v (l.drop n) = takeFrom 0 0 l ∧ Frame g v n 6 a)
    (fun a w' => w' = w ∧ ∃ (n v : Nat) (er : Int), er ≠ 0 ∧ takeFrom 0 0 l = (er, 0, 0) ∧ Frame g v n er a) (fun a _ => 8 - (intOf (a.tmps.getD 4 undef)).toNat) ?_ ?_ ?_
  · rintro a w' ⟨rfl, n, v, hn, hnl, hv, ht, u6, u7, u8, u9, u10, u11, u12, u13, u14, u15, u16, u17, u18, u19, u20, u21, u22, u23, u24, u25, u26, u27, u28, u29, u30, u31, u32, u33, u34, u35, u36, u37, u38, u39, u40, u41, u42, u43, u44, u45, u46, u47, u48, u49, u50, u51, u52, u53, u54, u55, u56, u57, u58, u59, u60, u61, u62, u63, u64, u65, u66, u67, u68, u69, u70, u71, u72, rfl⟩
    have x0 : w'.cell? ⟨g, 0, none⟩ = some (.slice A l.length c) := by simpa using HB.out.cell 0
    have HT := Lib.hid ht
    have HV := Lib.hid hv
    clear ht hv
    by_cases hlt : n < l.length
    · obtain ⟨ad, rfl, hcell⟩ := HY.out n hlt
      have hbt := hbyte l[n] (List.getElem_mem hlt)
      have HD := Lib.hid (List.drop_eq_getElem_cons hlt)
      have hne : ((n : Int) == (l.length : Int)) = false := by simp; omega
      generalize l[n] = b at hcell hbt HD
      obtain ⟨hb0, hb1⟩ := hbt
      have HBY := Lib.hid hbyte
      clear hbyte
      by_cases h128 : 128 ≤ b
      · by_cases h8 : n = 8
        · have HTT := Lib.hid (show takeFrom 0 0 l = (6, 0, 0) by rw [← HT.out, HD.out, h8, take_long h128])
          have e8 : ((n : Int) == 8) = true := by simp; omega
          clear h8
          go_wp2_with (fail)
          go_step3
          exact .inr ⟨rfl, rfl, n, v, 6, by decide, HTT.out, _, _, _, _, _, _, _, _, _, _, _, _, _, _, _, _, _, _, _, _, _, _, _, _, _, _, _, _, _, _, _, _, _, _, _, _, _, _, _, _, _, _, _, _, _, _, _, _, _, _, _, _, _, _, _, _, _, _, _, _, _, _, _, _, _, _, _, rfl⟩
        · obtain ⟨x, hx⟩ : ∃ x : Nat, b - 128 = x := ⟨(b - 128).toNat, by omega⟩
          obtain ⟨ho, hv2, hv3⟩ := or_lay v x n HV.out (by omega) hn
          have hxn : (b - 128).toNat = x := by omega
          have HTT := Lib.hid (show takeFrom (n + 1) (v + x * 128 ^ n) (l.drop (n + 1)) = takeFrom 0 0 l by rw [← HT.out, HD.out, take_more' h128 h8, hxn])
          generalize v + x * 128 ^ n = v2 at ho hv2 HTT
          have HV2 := Lib.hid hv2
          clear hv2 hv3 hxn
          go_wp2_with (fail)
          go_step3
          exact .inl ⟨rfl, ⟨rfl, n + 1, v2, by omega, by omega, HV2.out, HTT.out, _, _, _, _, _, _, _, _, _, _, _, _, _, _, _, _, _, _, _, _, _, _, _, _, _, _, _, _, _, _, _, _, _, _, _, _, _, _, _, _, _, _, _, _, _, _, _, _, _, _, _, _, _, _, _, _, _, _, _, _, _, _, _, _, _, _, _, rfl⟩, by simp [intOf]; omega⟩
      · by_cases h0 : b = 0 ∧ 0 < n
        · obtain ⟨rfl, hn0⟩ := h0
          have HTT := Lib.hid (show takeFrom 0 0 l = (6, 0, 0) by rw [← HT.out, HD.out, take_zero hn0])
          go_wp2_with (fail)
          go_step3
          exact .inr ⟨rfl, rfl, n, v, 6, by decide, HTT.out, _, _, _, _, _, _, _, _, _, _, _, _, _, _, _, _, _, _, _, _, _, _, _, _, _, _, _, _, _, _, _, _, _, _, _, _, _, _, _, _, _, _, _, _, _, _, _, _, _, _, _, _, _, _, _, _, _, _, _, _, _, _, _, _, _, _, _, rfl⟩
        · obtain ⟨x, rfl⟩ : ∃ x : Nat, b = x := ⟨b.toNat, by omega⟩
          obtain ⟨ho, hv2, hv3⟩ := or_lay v x n HV.out (by omega) hn
          have HTT := Lib.hid (show takeFrom 0 0 l = (0, v + x * 128 ^ n, n + 1) by rw [← HT.out, HD.out, take_end h128 h0]; rfl)
          generalize v + x * 128 ^ n = v2 at ho hv2 HTT
          have hv4 : (v2 : Int) ≤ 9223372036854775807 := by omega
          clear hv2 hv3
          have hz : ((x : Int) == 0) = false ∨ (((x : Int) == 0) = true ∧ decide (0 < n) = false) := by
            by_cases hx : x = 0
            · exact .inr ⟨by simp [hx], decide_eq_false (by omega)⟩
            · exact .inl (by simp; omega)
          clear h0
          have f0 : w'.frozen? ⟨g, 0, none⟩ = false := HB.out.frozen 0
          have HDN := Lib.hid hlt
          by_cases hcap : c = n + 1
          · have HA := Lib.hid (took_all HB.out H.out.dlt (show n + 1 = l.length by omega))
            rcases hz with e0 | ⟨e0, e1⟩
            all_goals
              go_wp2_with (fail)
              rw [jumps_ret]
              go_ret
              exact NPost.mk HTT.out rfl HA.out
          · have HA := Lib.hid (took HB.out HY.out HOW.out H.out.dlt ⟨hc1, hc2⟩ (show n + 1 ≤ l.length by omega))
            rcases hz with e0 | ⟨e0, e1⟩
            all_goals
              go_wp2_with (fail)
              rw [jumps_ret]
              go_ret
              exact NPost.mk HTT.out rfl HA.out
    · obtain rfl : n = l.length := by omega
      have HTT := Lib.hid (show takeFrom 0 0 l = (5, 0, 0) by rw [← HT.out, List.drop_length]; rfl)
      go_wp2_with (fail)
      go_step3
      exact .inr ⟨rfl, rfl, l.length, v, 5, by decide, HTT.out, _, _, _, _, _, _, _, _, _, _, _, _, _, _, _, _, _, _, _, _, _, _, _, _, _, _, _, _, _, _, _, _, _, _, _, _, _, _, _, _, _, _, _, _, _, _, _, _, _, _, _, _, _, _, _, _, _, _, _, _, _, _, _, _, _, _, _, rfl⟩
  · rintro a w' ⟨rfl, n, v, er, he, ht, u6, u7, u8, u9, u10, u11, u12, u13, u14, u15, u16, u17, u18, u19, u20, u21, u22, u23, u24, u25, u26, u27, u28, u29, u30, u31, u32, u33, u34, u35, u36, u37, u38, u39, u40, u41, u42, u43, u44, u45, u46, u47, u48, u49, u50, u51, u52, u53, u54, u55, u56, u57, u58, u59, u60, u61, u62, u63, u64, u65, u66, u67, u68, u69, u70, u71, u72, rfl⟩
    have x1 : w'.cell? ⟨g, 1, none⟩ = some (.int .i64 0) := by simpa using HB.out.cell 1
    have f1 : w'.frozen? ⟨g, 1, none⟩ = false := HB.out.frozen 1
    have HT := Lib.hid ht
    clear ht
    go_wp2_with (fail)
    rw [jumps_ret]
    go_ret
    exact NPost.no HT.out (H.out.err er)
  · intro hr
    have HR := Lib.hid hr
    clear hr
    have x1 : w.cell? ⟨g, 1, none⟩ = some (.int .i64 0) := by simpa using HB.out.cell 1
    go_wp2_with (fail)
    rename_i Q' K hK
    refine wp_label ?_
    refine hK _ _ ?_
    exact HR.out _ _ ⟨rfl, 0, 0, Nat.zero_le _, Nat.zero_le _, by decide, rfl, _, _, _, _, _, _, _, _, _, _, _, _, _, _, _, _, _, _, _, _, _, _, _, _, _, _, _, _, _, _, _, _, _, _, _, _, _, _, _, _, _, _, _, _, _, _, _, _, _, _, _, _, _, _, _, _, _, _, _, _, _, _, _, _, _, _, _, rfl⟩
end Go.Proofs.YtnajbkccaclkcaaGreat

namespace Go.Proofs.YtnajbkccaclkcaaGreat
open Go.RowKit

/-- what numbers lay behind l, if there is no error -/
def puts (l : List Int) (e : Int) (m : List Nat) : List Int := if e ≠ 0 then l else l ++ m.flatMap enc
def dotNums (l : List Dt) : List Nat := l.flatMap fun d => [d.site.toNat, d.seq.toNat]
def vnums (l : List Dt) : List Nat := l.length :: dotNums l
theorem puts_nil (l : List Int) (e : Int) : puts l e [] = l := by unfold puts; split <;> simp
theorem puts_num (l : List Int) (e : Int) (m : List Nat) (x : Nat) : wrB (puts l e m) e (x : Int) = puts l e (m ++ [x]) ∧ wrE e (x : Int) = e := by
  by_cases h : e = 0
  · subst h
    have := wr_ok (l := puts l 0 m) (v := x)
    rw [this.1, this.2]
    simp [puts]
  · have := wr_err (l := puts l e m) (v := (x : Int)) h
    rw [this.1, this.2]
    simp [puts, h]
theorem enc_len9 (x : Nat) (h : x ≤ 9223372036854775807) : (enc x).length ≤ 9 := enc_len 8 x (Nat.lt_of_le_of_lt h (by decide))
theorem encs_len (m : List Nat) (h : ∀ x ∈ m, x ≤ 9223372036854775807) : (m.flatMap enc).length ≤ 9 * m.length := by
  induction m with
  | nil => simp
  | cons x m ih =>
    have h1 := enc_len9 x (h x (by simp))
    have h2 := ih fun y hy => h y (by simp [hy])
    simp only [List.flatMap_cons, List.length_append, List.length_cons]
    omega
theorem puts_len (l : List Int) (e : Int) (m : List Nat) (h : ∀ x ∈ m, x ≤ 9223372036854775807) : (puts l e m).length ≤ l.length + 9 * m.length := by
  unfold puts
  split
  · omega
  · rw [List.length_append]
    have := encs_len m h
    omega
theorem dotNums_snoc (l : List Dt) (k : Nat) (h : k < l.length) : dotNums (l.take (k + 1)) = dotNums (l.take k) ++ [l[k].site.toNat, l[k].seq.toNat] := by
  unfold dotNums
  rw [List.take_succ_eq_append_getElem h, List.flatMap_append]
  rfl
theorem dotNums_len (l : List Dt) : (dotNums l).length = 2 * l.length := by
  induction l with
  | nil => rfl
  | cons d l ih => simp only [dotNums, List.flatMap_cons, List.length_append, List.length_cons, List.length_nil] at ih ⊢; omega
def okDots (l : List Dt) : Prop := ∀ d ∈ l, okDot d = true
theorem vec_ok {r : List Int} (h : Row r) (k : Nat) (hk : k ≤ 17) : okDots (vecTo r k) := by
  induction k with
  | zero => intro d hd; simp [vecTo] at hd
  | succ k ih =>
    intro d hd
    unfold vecTo at hd
    split at hd
    · rename_i hp
      rcases List.mem_append.1 hd with hd | hd
      · exact ih (by omega) d hd
      · simp at hd
        subst hd
        have hb := h.bd k
        have h0 := h.zero
        have : k ≠ 0 := by rintro rfl; omega
        simp [okDot]
        omega
    · exact ih (by omega) d hd
theorem dotNums_bd (l : List Dt) (h : okDots l) : ∀ x ∈ dotNums l, x ≤ 2147483647 := by
  intro x hx
  simp only [dotNums, List.mem_flatMap] at hx
  obtain ⟨d, hd, hx⟩ := hx
  have := h d hd
  simp [okDot] at this
  simp at hx
  omega

/-- A Writer gone on from. -/
def WNext (w : World) (base g : Nat) (sv : Value) (l : List Int) (e : Int) (w' : World) : Prop := ∃ sv', WriterAt w' base g sv' l e ∧ Kept (OwnsW g sv) w w' ∧ MovedW w sv sv'
theorem WNext.refl {w : World} {base g : Nat} {sv : Value} {l : List Int} {e : Int} (h : WriterAt w base g sv l e) : WNext w base g sv l e w := ⟨sv, h, Kept.refl _ _, fun _ h => .inl h⟩
theorem WNext.fresh {w w1 w2 : World} {base g : Nat} {sv : Value} {l : List Int} {e : Int} (h : WNext w base g sv l e w1) (hk : Kept (fun _ => False) w1 w2) : WNext w base g sv l e w2 := by
  obtain ⟨sv', h1, h2, h3⟩ := h
  exact ⟨sv', h1.fresh hk, h2.trans hk fun _ _ e => e.elim, h3⟩
theorem WNext.before {w w1 w2 : World} {base g : Nat} {sv : Value} {l : List Int} {e : Int} (h : WNext w1 base g sv l e w2) (hk : Kept (fun _ => False) w w1) : WNext w base g sv l e w2 := by
  obtain ⟨sv', h1, h2, h3⟩ := h
  exact ⟨sv', h1, (hk.more fun _ _ e => e.elim).trans h2 fun _ _ e => e, fun k e => (h3 k e).imp_right fun h => Nat.le_trans hk.size h⟩
theorem WNext.trans {w w1 w2 : World} {base g : Nat} {sv sv' : Value} {l : List Int} {e : Int} (h2 : Kept (OwnsW g sv) w w1) (h3 : MovedW w sv sv') (h : WNext w1 base g sv' l e w2) : WNext w base g sv l e w2 := by
  obtain ⟨sv'', g1, g2, g3⟩ := h
  exact ⟨sv'', g1, h2.trans g2 h3.owns, h3.trans g3 h2.size⟩

set_option maxRecDepth 100000 in
set_option maxHeartbeats 1600000 in
theorem Put_any (base g : Nat) (sv : Value) (l : List Int) (e : Int) (A : Option Addr) (v : List Dt) (c : Nat) (w : World) (h : WriterAt w base g sv l e) (hv : DotsAt w A v) (hlen : v.length ≤ 4611686018427387904) (hl : l.length ≤ 900000) :
    Calls Tryz.prog 36 #[.pointer (some ⟨g, 0, none⟩), .slice A v.length c] w (WPost w base g sv (puts l e (vnums (vec (says v)))) e) := by
  have H := Lib.hid h
  have HV := Lib.hid hv
  obtain ⟨out, hout⟩ : ∃ out, puts l e (vnums (vec (says v))) = out := ⟨_, rfl⟩
  rw [hout]
  have HOUT := Lib.hid (show ∀ r, says v = r → puts l e (vnums (vec r)) = out from fun r hr => by rw [← hr]; exact hout)
  clear h hv hout
  go_enter Tryz.func36, Tryz.ntmps36
  go_wp2_with (fail)
  refine (of_any A v c _ HV.out hlen).mono ?_
  rintro r w1 ⟨rfl, hk⟩
  have HK := Lib.hid hk
  have HR := Lib.hid (Row.says v)
  clear hk
  obtain ⟨r, hr⟩ : ∃ r, says v = r := ⟨_, rfl⟩
  rw [hr] at HR ⊢
  have HOU := Lib.hid (HOUT.out r hr)
  clear hr HOUT
  go_wp2_with (fail)
  refine (vector_any _ _ HR.out).mono ?_
  rintro e2 w2 hf
  obtain ⟨A', c', rfl, ho, hk⟩ := hf.since HK.out
  have HO := Lib.hid ho
  have HK2 := Lib.hid hk
  have HOK := Lib.hid (vec_ok HR.out 17 (Nat.le_refl _))
  have hll := vecTo_len r 17
  have HA := Lib.hid (show ∀ a, A' = some a → ¬ OwnsW g sv a.block from fun a ha hw => by
    subst ha
    have h1 := (H.out.own_lt _ hw).2
    have h2 := (ho.lt a.block rfl).1
    omega)
  have HW := Lib.hid (H.out.fresh hk)
  clear hf ho hk HK H HV
  generalize hL : vecTo r 17 = L at HOK hll
  have HL := Lib.hid (show vec r = L from hL)
  clear hL
  have HO2 := Lib.hid (show w2.ownsRow w.heap.size 59 2 (.slice A' L.length c') L.length (dots L) by rw [← HL.out]; exact HO.out)
  rw [HL.out]
  clear HO
  have HD := Lib.hid (DotsAt.of_own HO2.out)
  have HP := Lib.hid (show wrB l e L.length = puts l e [L.length] ∧ wrE e L.length = e by have := puts_num l e [] L.length; rwa [puts_nil] at this)
  go_wp2_with (fail)
  refine (Number_any base g sv l e L.length _ HW.out (by omega) (by omega)).mono ?_
  rw [HP.out.1, HP.out.2]
  rintro e3 w3 ⟨rfl, hn⟩
  have HN := Lib.hid (show WNext w2 base g sv (puts l e (L.length :: dotNums (L.take 0))) e w3 from hn)
  clear hn HW
  go_wp2_with (fail)
  go_loopw [16] (fun i wr => ∃ k : Nat, i = .int .i64 k ∧ k ≤ L.length ∧ WNext w2 base g sv (puts l e (L.length :: dotNums (L.take k))) e wr) (fun i _ => L.length - (intOf i).toNat)
  case atStart => exact ⟨0, rfl, Nat.zero_le _, HN.out⟩
  case round =>
    obtain ⟨k, rfl, hk, hn⟩ := hrel
    by_cases hlt : k < L.length
    · obtain ⟨sv', hw, hkk, hm⟩ := hn
      obtain ⟨ad, rfl, x0, x1⟩ := (HD.out.kept hkk HA.out) k hlt
      have hs := dotNums_snoc L k hlt
      have hdk := HOK.out L[k] (List.getElem_mem hlt)
      have hbl : ∀ m : List Nat, m.length ≤ 1 → (∀ x ∈ m, x ≤ 9223372036854775807) → (puts l e (L.length :: dotNums (L.take k) ++ m)).length ≤ l.length + 9 * 36 := by
        intro m hm1 hm2
        have h1 := puts_len l e (L.length :: dotNums (L.take k) ++ m) fun x hx => by
          rcases List.mem_append.1 hx with hx | hx
          · rcases List.mem_cons.1 hx with rfl | hx
            · omega
            · have := dotNums_bd (L.take k) (fun d hd => HOK.out d (List.mem_of_mem_take hd)) x hx
              omega
          · exact hm2 x hx
        have h2 := dotNums_len (L.take k)
        have h3 := List.length_take_le k L
        simp only [List.length_cons, List.length_append] at h1
        omega
      generalize L[k] = d at x0 x1 hs hdk
      obtain ⟨site, seq⟩ := d
      have hd : 1 ≤ site ∧ site ≤ 16 ∧ 1 ≤ seq ∧ seq ≤ 2147483647 := by simpa [okDot] using hdk
      obtain ⟨st, rfl⟩ : ∃ n : Nat, site = n := ⟨site.toNat, by omega⟩
      obtain ⟨sq, rfl⟩ : ∃ n : Nat, seq = n := ⟨seq.toNat, by omega⟩
      simp only [Int.toNat_natCast] at x0 x1 hs
      have HS := Lib.hid hs
      have HDB := Lib.hid hd
      have HPS := Lib.hid (puts_num l e (L.length :: dotNums (L.take k)) st)
      have HPQ := Lib.hid (puts_num l e (L.length :: dotNums (L.take k) ++ [st]) sq)
      have HBL := Lib.hid hbl
      have HX := Lib.hid (Box.new wr 59 #[.int .i64 (st : Int), .int .i64 (sq : Int)])
      have HKX := Lib.hid ((Kept.refl (fun _ => False) wr).alloc (.cells #[.int .i64 (st : Int), .int .i64 (sq : Int)] 59))
      have HWW := Lib.hid (hw.fresh HKX.out)
      have HKK := Lib.hid (hkk.trans HKX.out fun _ _ e => e.elim)
      have HM := Lib.hid hm
      have HG := Lib.hid (show ¬ OwnsW g sv' wr.heap.size from fun e => by have := (hw.own_lt _ e).2; omega)
      clear hs hdk hbl hd hw hkk hm
      go_wp2_with (fail)
      generalize wr.alloc (.cells #[.int .i64 (st : Int), .int .i64 (sq : Int)] 59) = W at HX HKX HWW HKK ⊢
      clear x0 x1
      have y1 : W.cell? ⟨wr.heap.size, 1, none⟩ = some (.int .i64 (sq : Int)) := by simpa using HX.out.cell 1
      refine (Number_any base g sv' _ e st _ HWW.out (by have := HBL.out [] (by simp) (by simp); simp only [List.append_nil] at this; omega) (by have := HDB.out; omega)).mono ?_
      rw [HPS.out.1, HPS.out.2]
      rintro e4 w4 ⟨rfl, sv2, hw4, hk4, hm4⟩
      have z1 : w4.cell? ⟨wr.heap.size, 1, none⟩ = some (.int .i64 (sq : Int)) := by simpa using (HX.out.kept hk4 HG.out).cell 1
      have HW4 := Lib.hid hw4
      have HK4 := Lib.hid (HKK.out.trans hk4 (fun k hk h => HM.out.owns k hk h))
      have HM4 := Lib.hid (HM.out.trans hm4 HKK.out.size)
      clear hw4 hk4 hm4 y1
      go_wp2_with (fail)
      refine (Number_any base g sv2 _ e sq _ HW4.out (by have h0 := HDB.out; have := HBL.out [st] (by simp) (by simp; omega); omega) (by have := HDB.out; omega)).mono ?_
      rw [HPQ.out.1, HPQ.out.2]
      rintro e5 w5 ⟨rfl, hn5⟩
      have HN5 := Lib.hid (WNext.trans HK4.out HM4.out hn5)
      clear hn5 z1
      go_wp2
      go_roundw
      case rel =>
        refine ⟨k + 1, by go_num, by omega, ?_⟩
        rw [HS.out]
        have := HN5.out
        simpa using this
      case measure => simp [intOf]; omega
    · obtain rfl : k = L.length := by omega
      have HF := Lib.hid (hn.before HK2.out)
      clear hn
      go_wp2
      go_end0
      rw [List.take_length] at HF
      have := HF.out
      rw [show L.length :: dotNums L = vnums (vec r) by rw [HL.out]; rfl, HOU.out] at this
      exact ⟨rfl, this⟩
end Go.Proofs.YtnajbkccaclkcaaGreat
