/- op.Take's deferred closure: what it does where the frame panics with refused, and where it returns. · op.sure, op.number: what they answer, or give up with. · The walks of stamp.Reader's Text and End. Conditions: the Reader lies in memory. · The walks of op's into: insert, join, leave. Conditions: the Reader and the operation lie in memory, apart. · The walk of op's into: remove. Conditions: the Reader and the operation lie in memory, apart. · op.Take: what it answers (takeO); slices.Clip; how its ways out end. -/
import Derived.Test.YtnlklhlnnoihiaaMO32
import Derived.Recover
import Derived.WalkLawsBesides
import Derived.Laws.BytesArg
namespace Go.Proofs.Ytnlklhlnnoihiaa
open Go Go.RowKit

/-- The operation that is none. -/
def zeroC : Array Value := #[.int .i64 0, .int .i64 0, .slice none 0 0, .int .i64 0, .int .i64 0, .int .i64 0, .int .i64 0, .int .i64 0, .string ⟨#[]⟩, .slice none 0 0, .int .i64 0]
set_option maxRecDepth 100000 in
set_option maxHeartbeats 1600000 in
theorem catch_panicking (g h : Nat) (cs : Array Value) (x e : Int) (older : List PanicEntry) (w : World) (hb : Box w g 30 cs) (hsz : cs.size = 11) (he : Box w h 36 #[.int .i64 x]) (hne : g ≠ h) :
    CallsD Try.prog 56 #[.pointer (some ⟨g, 0, none⟩), .pointer (some ⟨h, 0, none⟩)] (.panicking ({ v := .iface 96 (.agg #[.int .i64 e]), recovered := false } :: older)) w fun r u' w' =>
      r = .returned (.tuple #[]) ∧ u' = .panicking ({ v := .iface 96 (.agg #[.int .i64 e]), recovered := true } :: older) ∧ Box w' g 30 zeroC ∧ Box w' h 36 #[.int .i64 e] ∧ Kept (fun k => k = g ∨ k = h) w w' := by
  refine callsD_of_wpS Try.func56 rfl fun c₀ ds hu => ?_
  apply wpS_seq
  apply wpS_region
  simp [wpOpsS, go_sem, recoverD, hu, Try.ntmps56, Exit.thenS]
  rw [show #[Value.pointer (some ⟨g, 0, none⟩), Value.pointer (some ⟨h, 0, none⟩)] ++ (Array.replicate 12 undef).setIfInBounds 3 (.iface 96 (.agg #[.int .i64 e])) = #[.pointer (some ⟨g, 0, none⟩), .pointer (some ⟨h, 0, none⟩), undef, undef, undef, .iface 96 (.agg #[.int .i64 e]), undef, undef, undef, undef, undef, undef, undef, undef] from rfl]
  have hta : ∀ (T : TypeId) W, (Instr.typeAssert (.iface 96 (.agg #[.int .i64 e])) T 96 true).run Try.prog W = .ok (.tuple #[.agg #[.int .i64 e], .bool true]) W := fun T W => by kernel_rfl
  refine wpS_of_wp ?_
  go_wp2_with (fail)
  have hka : Kept (fun _ => False) w (w.alloc (.cells #[.int .i64 e] 96)).drew := ((Kept.refl _ _).alloc _).drew
  have HR := Lib.hid ((Box.new w 96 #[.int .i64 e]).kept ((Kept.refl (fun _ => False) _).drew) id)
  have HB := Lib.hid (hb.kept hka id)
  have HE := Lib.hid (he.kept hka id)
  have HKA := Lib.hid hka
  have HN := Lib.hid (show w.heap.size ≠ g ∧ w.heap.size ≠ h from ⟨by have := hb.lt; omega, by have := he.lt; omega⟩)
  have HSZ := Lib.hid hsz
  clear hka hb he hsz
  refine wp_region_held_drew (S := fun Wz => Kept (fun k => k = g ∨ k = h) (w.alloc (.cells #[.int .i64 e] 96)).drew Wz) (by kernel_rfl) (Kept.refl _ _) fun hS => ?_
  generalize (w.alloc (.cells #[.int .i64 e] 96)).drew = W at HR HB HE HKA hS ⊢
  refine held_takeTo 11 (i := 0) (v := .agg zeroC) rfl rfl (by kernel_rfl) (by kernel_rfl) (by kernel_rfl) (fun _ _ _ h => h) rfl hS (fun Wz hW => by go_simp; rfl) ?_
  simp only [List.setIfInBounds_toArray, List.set_cons_zero, List.set_cons_succ]
  refine held_takeTo 12 (i := 1) (v := .pointer (some ⟨w.heap.size, 0, none⟩)) rfl rfl (by kernel_rfl) (by kernel_rfl) (by kernel_rfl) (fun _ _ _ h => h) rfl hS (fun Wz hW => by go_simp) ?_
  simp only [List.setIfInBounds_toArray, List.set_cons_zero, List.set_cons_succ]
  refine held_takeTo 13 (i := 2) (v := .int .i64 e) rfl rfl (by kernel_rfl) (by kernel_rfl) (by kernel_rfl) (fun _ _ _ h => h) rfl hS (fun Wz hW => by (have h0 : Wz.cell? ⟨w.heap.size, 0, none⟩ = some (.int .i64 e) := (HR.out.kept hW (by have := HN.out; omega)).cell 0; go_simp)) ?_
  simp only [List.setIfInBounds_toArray, List.set_cons_zero, List.set_cons_succ]
  refine held_one (i := 3) (by kernel_rfl) rfl fun K hK => ?_
  refine wpList_store_box rfl 30 _ _ rfl g zeroC rfl rfl 30 cs HB.out (size_op.trans rfl) (HSZ.out.trans rfl) (by simp [zeroC, Value.oneCell']) ?_
  intro w2 HB2 hk2
  go_wp2_with (fail)
  have hS2 : Kept (fun k => k = g ∨ k = h) W w2 := hk2.more fun k _ e => .inl e
  have HE2 := Lib.hid (HE.out.kept hk2 (by omega))
  have HG2 := Lib.hid HB2
  simp only [List.getElem_toArray, List.getElem_cons_succ, List.getElem_cons_zero, Act.put]
  refine hK.out _ _ hS2 fun _ => ?_
  clear hK K
  have HF : w2.frozen? ⟨h, 0, none⟩ = false := HE2.out.frozen 0
  have HX : w2.cell? ⟨h, 0, none⟩ = some (.int .i64 x) := (HE2.out.cell 0).trans rfl
  refine held_one (i := 4) (by kernel_rfl) rfl fun K hK => ?_
  go_wp2_with (fail)
  have hk3 : Kept (fun k => k = g ∨ k = h) w2 (w2.setCell ⟨h, 0, none⟩ (.int .i64 e)) := (Kept.refl _ _).at 0 _ (.inl (.inr rfl))
  refine hK.out _ _ (hS2.trans hk3 fun k _ e => e) fun _ => ?_
  clear hK K
  refine wpAnyH_done (by kernel_rfl) ?_ _
  have HE3 := Lib.hid (show Box (w2.setCell ⟨h, 0, none⟩ (.int .i64 e)) h 36 #[.int .i64 e] by simpa using HE2.out.set 0 (.int .i64 e))
  have HG3 := Lib.hid (HG2.out.out.far (p := ⟨h, 0, none⟩) hne (.int .i64 e))
  have HK3 := Lib.hid ((HKA.out.more fun _ _ e => e.elim).trans (hS2.trans hk3 fun k _ e => e) fun k _ e => e)
  clear HE2 HG2 HB2 HF HX hS2 hk3 hk2 hS HR HB HE HKA
  go_wp2_with (fail)
  have h1 := HE3.out
  have h2 := HG3.out
  have h3 := HK3.out
  cases c₀
  simp_all [bodyPostS, results, Try.results56]
set_option maxRecDepth 100000 in
set_option maxHeartbeats 1600000 in
theorem catch_idle (g h : Nat) (w : World) :
    CallsD Try.prog 56 #[.pointer (some ⟨g, 0, none⟩), .pointer (some ⟨h, 0, none⟩)] .returning w fun e u' w' => e = .returned (.tuple #[]) ∧ u' = .returning ∧ w' = w := by
  refine callsD_of_wpS Try.func56 rfl fun c₀ ds hu => ?_
  apply wpS_seq
  apply wpS_region
  simp [wpOpsS, go_sem, recoverD, hu, Try.ntmps56, Exit.thenS]
  refine wpS_of_wp ?_
  go_wp2_with (fail)
  cases c₀
  simp_all [bodyPostS, results, Try.results56]
end Go.Proofs.Ytnlklhlnnoihiaa

namespace Go.Proofs.Ytnlklhlnnoihiaa
open Go Go.RowKit

/-- What a function of op gives up with. -/
def refE (e : Int) : Ending := .panicked [{ v := .iface 96 (.agg #[.int .i64 e]), recovered := false }]
set_option maxRecDepth 100000 in
theorem sure_ok (d g : Nat) (s : Rd) (w : World) (h : RdAt w d g s) (he : s.e = 0) :
    Calls Try.prog 73 #[.pointer (some ⟨g, 0, none⟩)] w (fun r w' => r = .returned (.tuple #[]) ∧ w = w') := by
  have H := Lib.hid h
  have HE := Lib.hid he
  clear h he
  go_enter Try.func73, Try.ntmps73
  go_wp2_with (fail)
  refine (RErrs_any d g s w H.out).mono ?_
  rw [HE.out]
  rintro r w1 ⟨rfl, rfl⟩
  go_wp2_with (fail)
  go_end0
  exact ⟨rfl, rfl⟩
set_option maxRecDepth 100000 in
theorem sure_no (d g : Nat) (s : Rd) (w : World) (h : RdAt w d g s) (he : s.e ≠ 0) :
    Calls Try.prog 73 #[.pointer (some ⟨g, 0, none⟩)] w (fun r w' => r = refE s.e ∧ w = w') := by
  have H := Lib.hid h
  have hne : (s.e != 0) = true := bne_iff_ne.2 he
  unfold refE
  obtain ⟨e, hee⟩ : ∃ e, s.e = e := ⟨_, rfl⟩
  have HE := Lib.hid hee
  rw [hee] at hne ⊢
  clear h he hee
  go_enter Try.func73, Try.ntmps73
  go_wp2_with (fail)
  refine (RErrs_any d g s w H.out).mono ?_
  rw [HE.out]
  rintro r w1 ⟨rfl, rfl⟩
  go_wp2_with (fail)
  exact ⟨rfl, rfl, rfl⟩
set_option maxRecDepth 100000 in
theorem sure_nil (w : World) :
    Calls Try.prog 73 #[.pointer none] w (fun r w' => r = refE 1 ∧ w = w') := by
  unfold refE
  go_enter Try.func73, Try.ntmps73
  go_wp2_with (fail)
  refine (RErr_nil w).mono ?_
  rintro r w1 ⟨rfl, rfl⟩
  go_wp2_with (fail)
  exact ⟨rfl, rfl, rfl⟩
set_option maxRecDepth 100000 in
theorem number_ok (d g : Nat) (s : Rd) (w : World) (h : RdAt w d g s) (he : s.nx.e = 0) :
    Calls Try.prog 57 #[.pointer (some ⟨g, 0, none⟩)] w (RdPost w d g s) := by
  have H := Lib.hid h
  have HE := Lib.hid he
  clear h he
  go_enter Try.func57, Try.ntmps57
  go_wp2_with (fail)
  refine (RNum_any d g s w H.out).mono ?_
  rintro r w1 ⟨rfl, hk, hr⟩
  have HK := Lib.hid hk
  have HR := Lib.hid hr
  clear hk hr
  go_wp2_with (fail)
  refine (sure_ok d g s.nx w1 HR.out HE.out).mono ?_
  rintro r w2 ⟨rfl, rfl⟩
  go_wp2_with (fail)
  go_ret
  exact ⟨rfl, HK.out, HR.out⟩
set_option maxRecDepth 100000 in
theorem number_no (d g : Nat) (s : Rd) (w : World) (h : RdAt w d g s) (he : s.nx.e ≠ 0) :
    Calls Try.prog 57 #[.pointer (some ⟨g, 0, none⟩)] w (fun r w' => r = refE s.nx.e ∧ Kept (fun k => k = g) w w' ∧ RdAt w' d g s.nx) := by
  have H := Lib.hid h
  have HE := Lib.hid he
  clear h he
  go_enter Try.func57, Try.ntmps57
  go_wp2_with (fail)
  refine (RNum_any d g s w H.out).mono ?_
  rintro r w1 ⟨rfl, hk, hr⟩
  have HK := Lib.hid hk
  have HR := Lib.hid hr
  clear hk hr
  go_wp2_with (fail)
  refine (sure_no d g s.nx w1 HR.out HE.out).mono ?_
  unfold refE
  rintro r w2 ⟨rfl, rfl⟩
  go_wp2_with (fail)
  exact ⟨rfl, rfl, HK.out, HR.out⟩
set_option maxRecDepth 100000 in
theorem number_nil (w : World) :
    Calls Try.prog 57 #[.pointer none] w (fun r w' => r = refE 1 ∧ w = w') := by
  go_enter Try.func57, Try.ntmps57
  go_wp2_with (fail)
  refine (RNumber_nil w).mono ?_
  rintro r w1 ⟨rfl, rfl⟩
  go_wp2_with (fail)
  refine (sure_nil w).mono ?_
  unfold refE
  rintro r w2 ⟨rfl, rfl⟩
  go_wp2_with (fail)
  exact ⟨rfl, rfl, rfl⟩
end Go.Proofs.Ytnlklhlnnoihiaa

namespace Go.Proofs.Ytnlklhlnnoihiaa
open Go Go.RowKit

/-- A text taken, and what is left. -/
def Rd.txt (s : Rd) : ByteArray := if s.e = 0 ∧ s.nx.e = 0 ∧ s.val ≤ s.nx.l.length then strOfNums (s.nx.l.take s.val) else ⟨#[]⟩
def Rd.nt (s : Rd) : Rd := if s.e ≠ 0 then s else if s.nx.e ≠ 0 then ⟨s.l, s.nx.e⟩ else if s.val ≤ s.nx.l.length then ⟨s.nx.l.drop s.val, 0⟩ else ⟨s.l, 5⟩
theorem conv_at (w : World) (A : Option Addr) (xs : List Int) (c : Nat) (h : BytesAt w A xs) :
    (convert 41 9 (.slice A xs.length c)).run Try.prog w = .ok (.string (strOfNums xs)) w := by
  cases A with
  | none =>
    rw [run_convert_bytes_nil w _ 5 Try.underlying41 Try.underlying5 _ _ _ Try.underlying9]
    have : xs = [] := by
      rcases Nat.eq_zero_or_pos xs.length with h0 | h0
      · exact List.eq_nil_of_length_eq_zero h0
      · obtain ⟨ad, e, _⟩ := h 0 h0
        cases e
    subst this
    rfl
  | some ad =>
    rw [run_convert_bytes_string w _ _ 5 _ _ _ Try.underlying41 Try.underlying5 Try.underlying9]
    have hl : (loadCells ad xs.length).run Try.prog w = .ok (xs.map (Value.int .u8)).toArray w := by
      have := run_loadCells_list (P := Try.prog) w ad (xs.map (Value.int .u8)) (fun j v hj => by
        have hjl : j < xs.length := by
          rcases Nat.lt_or_ge j xs.length with h | h
          · exact h
          · simp [List.getElem?_eq_none (show (xs.map (Value.int .u8)).length ≤ j by simpa using h)] at hj
        obtain ⟨a, e, h0⟩ := h j hjl
        injection e with e
        subst e
        rw [h0]
        simpa [List.getElem?_eq_getElem hjl] using hj)
      simpa using this
    rw [run_bytesToString w _ _ _ xs hl, foldl_push_bytes]
    simp [strOfNums, ByteArray.empty, ByteArray.emptyWithCapacity]
    rfl
def TxtPost (w : World) (d g : Nat) (s : Rd) (r : Ending) (w' : World) : Prop := r = .returned (.string s.txt) ∧ Kept (fun k => k = g) w w' ∧ RdAt w' d g s.nt
theorem RdAt.back {w w1 : World} {d g : Nat} {l : List Int} {e e' : Int} {A : Option Addr} {c : Nat} {v : Value} (h : ReaderAt w d g l e) (hb0 : Box w g 93 #[.slice A l.length c, .int .i64 e]) (hk : Kept (fun k => k = g) w w1)
    (hb : Box w1 g 93 #[v, .int .i64 e']) : ReaderAt (w1.setCell ⟨g, 0, none⟩ (.slice A l.length c)) d g l e' := by
  obtain ⟨A', c', hb', hc, hy, hn⟩ := h.box
  have he : A' = A ∧ c' = c := by
    have h1 := (hb'.cell 0).symm.trans (hb0.cell 0)
    simp at h1
    exact h1
  obtain ⟨rfl, rfl⟩ := he
  have hk2 : Kept (fun k => k = g) w (w1.setCell ⟨g, 0, none⟩ (.slice A' l.length c')) := hk.trans ((Kept.refl (fun k => k = g) _).at 0 _ (.inl rfl)) fun k _ e => e
  refine ⟨⟨A', c', by simpa using hb.set 0 (.slice A' l.length c'), hc, ?_, hn⟩, Nat.lt_of_lt_of_le h.dlt hk2.size⟩
  intro k hlt
  obtain ⟨ad, he, h0⟩ := hy k hlt
  have hbl : (ad.add k).block = ad.block := by unfold Addr.add; split <;> rfl
  have hne : l ≠ [] := fun e => by rw [e] at hlt; simp at hlt
  obtain ⟨h1, h2⟩ := hn ad he hne
  refine ⟨ad, he, ?_⟩
  have hl := World.block_lt_of_cell? w _ h0
  rw [World.cell?_of_block (w := w) (hk2.block _ hl (by rw [hbl, h1]; exact fun e => h2 e))]
  exact h0
theorem took_opt {w : World} {d g : Nat} {l : List Int} {A : Option Addr} {c k : Nat} (hb : Box w g 93 #[.slice A l.length c, .int .i64 0]) (hy : BytesAt w A l)
    (ho : ∀ a, A = some a → l ≠ [] → a.block = d ∧ d ≠ g) (hbg : d < w.heap.size) (hc : l.length ≤ c ∧ c ≤ maxLen) (hk : k ≤ l.length) :
    ReaderAt (w.setCell ⟨g, 0, none⟩ (.slice (Option.map (fun x => x.add k) A) (l.length - k) (c - k))) d g (l.drop k) 0 := by
  cases A with
  | some ad => exact took hb hy ho hbg hc hk
  | none =>
    have : l = [] := by
      rcases Nat.eq_zero_or_pos l.length with h0 | h0
      · exact List.eq_nil_of_length_eq_zero h0
      · obtain ⟨ad, e, _⟩ := hy 0 h0
        cases e
    subst this
    refine ⟨⟨none, c - k, ?_, ?_, ?_, ?_⟩, by simpa using hbg⟩
    · have := hb.set 0 (.slice none (0 - k) (c - k))
      simpa using this
    · simp; omega
    · simpa using (BytesAt.nil : BytesAt _ none [])
    · intro a e
      cases e
theorem took_opt2 {w : World} {d g : Nat} {l : List Int} {A : Option Addr} {c k : Nat} (hb : Box w g 93 #[.slice A l.length c, .int .i64 0]) (hbg : d < w.heap.size) (hk : k = l.length) :
    ReaderAt (w.setCell ⟨g, 0, none⟩ (.slice A 0 0)) d g (l.drop k) 0 := by
  subst hk
  refine ⟨⟨A, 0, ?_, ?_, ?_, ?_⟩, by simpa using hbg⟩
  · have := hb.set 0 (.slice A 0 0)
    simpa using this
  · rw [List.drop_length]; simp [maxLen]
  · rw [List.drop_length]; exact BytesAt.nil
  · intro a e hne
    rw [List.drop_length] at hne
    exact absurd rfl hne
set_option maxRecDepth 100000 in
set_option maxHeartbeats 1600000 in
theorem RText_nil (w : World) : Calls Try.prog 101 #[.pointer none] w (fun r w' => r = .returned (.string ⟨#[]⟩) ∧ w = w') := by
  go_enter Try.func101, Try.ntmps101
  go_wp2_with (fail)
  go_ret
  exact ⟨rfl, rfl⟩
set_option maxRecDepth 100000 in
set_option maxHeartbeats 1600000 in
theorem RText_any (d g : Nat) (s : Rd) (w : World) (h : RdAt w d g s) :
    Calls Try.prog 101 #[.pointer (some ⟨g, 0, none⟩)] w (TxtPost w d g s) := by
  by_cases he : s.e = 0
  · have HV := Lib.hid (show s.nx.e ≠ 0 → s.txt = ⟨#[]⟩ ∧ s.nt = ⟨s.l, s.nx.e⟩ from fun h => ⟨by unfold Rd.txt; rw [if_neg (fun e => h e.2.1)], by unfold Rd.nt; rw [if_neg (fun e => e he), if_pos h]⟩)
    have HV2 := Lib.hid (show s.nx.e = 0 → ¬ s.val ≤ s.nx.l.length → s.txt = ⟨#[]⟩ ∧ s.nt = ⟨s.l, 5⟩ from fun h h' => ⟨by unfold Rd.txt; rw [if_neg (fun e => h' e.2.2)], by unfold Rd.nt; rw [if_neg (fun e => e he), if_neg (fun e => e h), if_neg h']⟩)
    have HV3 := Lib.hid (show s.nx.e = 0 → s.val ≤ s.nx.l.length → s.txt = strOfNums (s.nx.l.take s.val) ∧ s.nt = ⟨s.nx.l.drop s.val, 0⟩ from fun h h' => ⟨by unfold Rd.txt; rw [if_pos ⟨he, h, h'⟩], by unfold Rd.nt; rw [if_neg (fun e => e he), if_neg (fun e => e h), if_pos h']⟩)
    have H := Lib.hid h
    have hbyte := h.byte
    obtain ⟨A, c, hb, ⟨hc1, hc2⟩, hy, how⟩ := h.at_.box
    rw [he] at hb
    have HB := Lib.hid hb
    have HE := Lib.hid he
    have HBY := Lib.hid hbyte
    have x0 : w.cell? ⟨g, 0, none⟩ = some (.slice A s.l.length c) := by simpa using hb.cell 0
    have x1 : w.cell? ⟨g, 1, none⟩ = some (.int .i64 0) := by simpa using hb.cell 1
    clear h hb hy how he hbyte
    go_enter Try.func101, Try.ntmps101
    go_wp2_with (fail)
    refine (RNum_any d g s w H.out).mono ?_
    rintro r w1 ⟨rfl, hk, hr⟩
    have HK := Lib.hid hk
    have HR := Lib.hid hr
    have hbyte1 := hr.byte
    clear x0 x1 hk
    obtain ⟨A1, c1, hb1, ⟨hc3, hc4⟩, hy1, how1⟩ := hr.at_.box
    have HB1 := Lib.hid hb1
    have HY1 := Lib.hid hy1
    have HOW1 := Lib.hid how1
    have HBK := Lib.hid (fun (e' : Int) (v : Value) (W : World) (hkW : Kept (fun k => k = g) w W) (hbW : Box W g 93 #[v, .int .i64 e']) => (show RdAt (W.setCell ⟨g, 0, none⟩ (.slice A s.l.length c)) d g ⟨s.l, e'⟩ from ⟨RdAt.back H.out.at_ (by rw [HE.out]; exact HB.out) hkW hbW, HBY.out⟩))
    have x0 : w1.cell? ⟨g, 0, none⟩ = some (.slice A1 s.nx.l.length c1) := by simpa using hb1.cell 0
    have x1 : w1.cell? ⟨g, 1, none⟩ = some (.int .i64 s.nx.e) := by simpa using hb1.cell 1
    have f0 : w1.frozen? ⟨g, 0, none⟩ = false := hb1.frozen 0
    have f1 : w1.frozen? ⟨g, 1, none⟩ = false := hb1.frozen 1
    have HDL := Lib.hid hr.at_.dlt
    clear hr hb1 hy1 how1
    by_cases he1 : s.nx.e = 0
    · by_cases hlt : s.val ≤ s.nx.l.length
      · have HT := Lib.hid (HV3.out he1 hlt)
        have HBX := Lib.hid (show Box w1 g 93 #[.slice A1 s.nx.l.length c1, .int .i64 0] by rw [← he1]; exact HB1.out)
        rw [he1] at x1
        clear he1 HV HV2 HV3 HB1 HBK
        generalize s.nx.l = l1 at *
        generalize s.val = n at *
        have hconv : (convert 41 9 (.slice A1 n c1)).run Try.prog w1 = .ok (.string (strOfNums (l1.take n))) w1 := by
          have hp : BytesAt w1 A1 (l1.take n) := fun k hk => by
            rw [List.length_take] at hk
            obtain ⟨ad, e, h0⟩ := HY1.out k (by omega)
            exact ⟨ad, e, by rw [h0]; simp⟩
          have := conv_at w1 A1 (l1.take n) c1 hp
          rwa [List.length_take, Nat.min_eq_left hlt] at this
        have hgt : ¬ ((l1.length : Int) < (n : Int)) := by omega
        by_cases hcap : c1 = n
        · have HA := Lib.hid (took_opt2 HBX.out HDL.out (show n = l1.length by omega))
          subst hcap
          go_wp2_with (fail)
          go_ret
          unfold TxtPost
          rw [HT.out.1, HT.out.2]
          exact ⟨rfl, HK.out.trans ((Kept.refl (fun k => k = g) _).at 0 _ (.inl rfl)) fun k _ e => e, HA.out, fun b hb => hbyte1 b (List.mem_of_mem_drop hb)⟩
        · have HA := Lib.hid (took_opt HBX.out HY1.out HOW1.out HDL.out ⟨hc3, hc4⟩ hlt)
          go_wp2_with (fail)
          go_ret
          unfold TxtPost
          rw [HT.out.1, HT.out.2]
          exact ⟨rfl, HK.out.trans ((Kept.refl (fun k => k = g) _).at 0 _ (.inl rfl)) fun k _ e => e, HA.out, fun b hb => hbyte1 b (List.mem_of_mem_drop hb)⟩
      · have HT := Lib.hid (HV2.out he1 hlt)
        have HBX := Lib.hid (show Box w1 g 93 #[.slice A1 s.nx.l.length c1, .int .i64 0] by rw [← he1]; exact HB1.out)
        rw [he1] at x1
        clear he1 HV HV2 HV3 HB1
        generalize s.nx.l = l1 at *
        generalize s.val = n at *
        have hgt : (l1.length : Int) < (n : Int) := by omega
        have HB2 := Lib.hid (show Box (w1.setCell ⟨g, 1, none⟩ (.int .i64 5)) g 93 #[.slice A1 l1.length c1, .int .i64 5] by simpa using HBX.out.set 1 (.int .i64 5))
        have HK2 := Lib.hid (HK.out.trans ((Kept.refl (fun k => k = g) w1).at 1 (.int .i64 5) (.inl rfl)) fun k _ e => e)
        have HR2 := Lib.hid (HBK.out 5 _ _ HK2.out HB2.out)
        go_wp2_with (fail)
        go_ret
        unfold TxtPost
        rw [HT.out.1, HT.out.2]
        exact ⟨rfl, HK2.out.trans ((Kept.refl (fun k => k = g) _).at 0 _ (.inl rfl)) fun k _ e => e, HR2.out⟩
    · have HT := Lib.hid (HV.out he1)
      have HR2 := Lib.hid (HBK.out _ _ _ HK.out HB1.out)
      have hne : (s.nx.e != 0) = true := bne_iff_ne.2 he1
      have hne2 : (s.nx.e == 0) = false := beq_eq_false_iff_ne.2 he1
      generalize s.nx.l = l1 at *
      generalize s.nx.e = e1 at *
      clear HV HV2 HV3 he1
      go_wp2_with (fail)
      go_ret
      unfold TxtPost
      rw [HT.out.1, HT.out.2]
      exact ⟨rfl, HK.out.trans ((Kept.refl (fun k => k = g) _).at 0 _ (.inl rfl)) fun k _ e => e, HR2.out⟩
  · have hs : s.txt = ⟨#[]⟩ ∧ s.nt = s := ⟨by unfold Rd.txt; rw [if_neg (fun e => he e.1)], by unfold Rd.nt; rw [if_pos he]⟩
    have HS := Lib.hid hs
    have H := Lib.hid h
    obtain ⟨A, c, hb, -⟩ := h.at_.box
    have x1 : w.cell? ⟨g, 1, none⟩ = some (.int .i64 s.e) := by simpa using hb.cell 1
    have hne : (s.e != 0) = true := bne_iff_ne.2 he
    clear h hb hs he
    go_enter Try.func101, Try.ntmps101
    go_wp2_with (fail)
    go_ret
    unfold TxtPost
    rw [HS.out.1, HS.out.2]
    exact ⟨rfl, Kept.refl _ _, H.out⟩
end Go.Proofs.Ytnlklhlnnoihiaa

namespace Go.Proofs.Ytnlklhlnnoihiaa
open Go Go.RowKit

theorem Rd.stopT {s : Rd} (h : s.e ≠ 0) : s.nt = s := if_pos h
def opC (site : Int) (a1 a2 a3 a4 a5 a6 a7 a8 a9 a10 : Value) : Array Value := #[.int .i64 site, a1, a2, a3, a4, a5, a6, a7, a8, a9, a10]
/-- What into answers: y is the Reader left, the error, cs the operation's cells, if there is none. -/
def IntoPost (w : World) (d g G : Nat) (s : Rd) (e : Int) (P : World → Prop) (r : Ending) (w' : World) : Prop :=
  RdAt w' d g s ∧ Kept (fun k => k = g ∨ k = G) w w' ∧ ((e = 0 ∧ r = .returned (.tuple #[]) ∧ P w') ∨ (e ≠ 0 ∧ r = refE e ∧ ∃ cs, cs.size = 11 ∧ Box w' G 30 cs))

set_option maxRecDepth 100000 in
set_option maxHeartbeats 3200000 in
theorem intoI_any (d g G : Nat) (s : Rd) (c0 c1 c2 c3 c4 : Value) (w : World) (site : Int) (a1 a2 a3 a4 a5 a6 a7 a8 a9 a10 : Value) (h : RdAt w d g s) (hb : Box w G 30 (opC site a1 a2 a3 a4 a5 a6 a7 a8 a9 a10)) (hne : G ≠ g) (hnd : G ≠ d) :
    Calls Try.prog 97 #[.agg #[c0, c1, c2, c3, c4], .pointer (some ⟨G, 0, none⟩), .pointer (some ⟨g, 0, none⟩)] w
      (IntoPost w d g G s.nx.nx.nx.nt s.nx.nx.nx.nt.e fun w' => Box w' G 30 (opC site a1 a2 a3 (.int .i64 s.val) (.int .i64 site) (.int .i64 s.nx.val) (.int .i64 s.nx.nx.val) (.string s.nx.nx.nx.txt) a9 a10)) := by
  have hk0 : Kept (fun _ => False) w (w.alloc (.cells #[c0, c1, c2, c3, c4] 114)).drew := ((Kept.refl _ _).alloc _).drew
  have HK := Lib.hid (show Kept (fun k => k = g ∨ k = G) w (w.alloc (.cells #[c0, c1, c2, c3, c4] 114)).drew from hk0.more fun _ _ e => e.elim)
  have HR := Lib.hid (h.fresh hk0)
  have HB := Lib.hid (hb.kept hk0 id)
  clear h hb hk0
  go_enter Try.func97, Try.ntmps97
  go_upto_region 1 with (fail)
  refine wp_region_held_drew (S := fun Wz => Wz.cell? ⟨G, 0, none⟩ = some (.int .i64 site)) (by kernel_rfl) ((HB.out.cell 0).trans rfl) fun hS => ?_
  generalize (w.alloc (.cells #[c0, c1, c2, c3, c4] 114)).drew = W at HK HR HB hS ⊢
  refine held_takeTo 6 (i := 0) (v := .pointer (some ⟨G, 0, none⟩)) rfl rfl (by kernel_rfl) (by kernel_rfl) (by kernel_rfl) (fun _ _ _ h => h) rfl hS (fun Wz hW => by go_simp) ?_
  simp only [List.setIfInBounds_toArray, List.set_cons_zero, List.set_cons_succ]
  refine held_takeTo 7 (i := 1) (v := .pointer (some ⟨g, 0, none⟩)) rfl rfl (by kernel_rfl) (by kernel_rfl) (by kernel_rfl) (fun _ _ _ h => h) rfl hS (fun Wz hW => by go_simp) ?_
  simp only [List.setIfInBounds_toArray, List.set_cons_zero, List.set_cons_succ]
  refine held_takeTo 9 (i := 3) (v := .pointer (some ⟨G, 0, none⟩)) rfl rfl (by kernel_rfl) (by kernel_rfl) (by kernel_rfl) (fun _ _ _ h => h) rfl hS (fun Wz hW => by go_simp) ?_
  simp only [List.setIfInBounds_toArray, List.set_cons_zero, List.set_cons_succ]
  refine held_takeTo 10 (i := 4) (v := .pointer (some ⟨G, 0, none⟩)) rfl rfl (by kernel_rfl) (by kernel_rfl) (by kernel_rfl) (fun _ _ _ h => h) rfl hS (fun Wz hW => by go_simp) ?_
  simp only [List.setIfInBounds_toArray, List.set_cons_zero, List.set_cons_succ]
  refine held_takeTo 11 (i := 5) (v := .pointer (some ⟨G, 0, none⟩)) rfl rfl (by kernel_rfl) (by kernel_rfl) (by kernel_rfl) (fun _ _ _ h => h) rfl hS (fun Wz hW => by go_simp) ?_
  simp only [List.setIfInBounds_toArray, List.set_cons_zero, List.set_cons_succ]
  refine held_takeTo 12 (i := 6) (v := .pointer (some ⟨G, 0, none⟩)) rfl rfl (by kernel_rfl) (by kernel_rfl) (by kernel_rfl) (fun _ _ _ h => h) rfl hS (fun Wz hW => by go_simp) ?_
  simp only [List.setIfInBounds_toArray, List.set_cons_zero, List.set_cons_succ]
  refine held_takeTo 13 (i := 7) (v := .int .i64 site) rfl rfl (by kernel_rfl) (by kernel_rfl) (by kernel_rfl) (fun _ _ _ h => h) rfl hS (fun Wz hW => by go_simp) ?_
  simp only [List.setIfInBounds_toArray, List.set_cons_zero, List.set_cons_succ]
  refine held_one (i := 2) (by kernel_rfl) rfl fun K hK => ?_
  go_wp2_with (fail)
  by_cases he1 : s.nx.e ≠ 0
  · refine (number_no d g s W HR.out he1).mono ?_
    unfold refE
    rintro r w9 ⟨rfl, hk9, hr9⟩
    have HK9 := Lib.hid (HK.out.trans hk9 fun k _ e => .inl e)
    have HR9 := Lib.hid hr9
    have HB9 := Lib.hid (HB.out.kept hk9 hne)
    clear hk9 hr9
    go_wp2_with (fail)
    have hst : s.nx.nx.nx.nt = s.nx := by rw [(Rd.stop he1).2, (Rd.stop he1).2, Rd.stopT he1]
    refine ⟨rfl, ?_⟩
    rw [hst]
    exact ⟨HR9.out, HK9.out, .inr ⟨he1, rfl, _, rfl, HB9.out⟩⟩
  · have he1' : s.nx.e = 0 := by omega
    refine (number_ok d g s W HR.out he1').mono ?_
    rintro r w2 ⟨rfl, hk2, hr2⟩
    have HR2 := Lib.hid hr2
    have HB2 := Lib.hid (HB.out.kept hk2 hne)
    have HK2 := Lib.hid (HK.out.trans hk2 fun k _ e => .inl e)
    have hS2 : w2.cell? ⟨G, 0, none⟩ = some (.int .i64 site) := (HB2.out.cell 0).trans rfl
    clear hk2 hr2 HR HB HK
    go_wp2_with (fail)
    refine hK.out _ _ hS2 fun _ => ?_
    clear hK K
    refine held_one (i := 8) (by kernel_rfl) rfl fun K hK => ?_
    go_wp2_with (fail)
    refine hK.out _ _ hS2 fun _ => ?_
    clear hK K
    refine held_one (i := 9) (by kernel_rfl) rfl fun K hK => ?_
    go_wp2_with (fail)
    refine hK.out _ _ hS2 fun _ => ?_
    clear hK K
    refine held_one (i := 10) (by kernel_rfl) rfl fun K hK => ?_
    go_wp2_with (fail)
    refine hK.out _ _ hS2 fun _ => ?_
    clear hK K
    refine held_one (i := 11) (by kernel_rfl) rfl fun K hK => ?_
    have x4 : w2.cell? ⟨G, 4, none⟩ = some a4 := (HB2.out.cell 4).trans rfl
    have x5 : w2.cell? ⟨G, 5, none⟩ = some a5 := (HB2.out.cell 5).trans rfl
    have f4 : w2.frozen? ⟨G, 4, none⟩ = false := HB2.out.frozen 4
    have f5 : w2.frozen? ⟨G, 5, none⟩ = false := HB2.out.frozen 5
    go_wp2_with (fail)
    have hk3 : Kept (fun k => k = g ∨ k = G) w2 ((w2.setCell ⟨G, 4, none⟩ (.int .i64 s.val)).setCell ⟨G, 5, none⟩ (.int .i64 site)) := ((Kept.refl _ _).at 4 _ (.inl (.inr rfl))).at 5 _ (.inl (.inr rfl))
    have HB3 := Lib.hid (show Box ((w2.setCell ⟨G, 4, none⟩ (.int .i64 s.val)).setCell ⟨G, 5, none⟩ (.int .i64 site)) G 30 (opC site a1 a2 a3 (.int .i64 s.val) (.int .i64 site) a6 a7 a8 a9 a10) from by simpa [opC] using (HB2.out.set 4 (.int .i64 s.val)).set 5 (.int .i64 site))
    have HR3 := Lib.hid (HR2.out.kept (S := fun k => k = G) (((Kept.refl (fun k => k = G) w2).at 4 (.int .i64 s.val) (.inl rfl)).at 5 (.int .i64 site) (.inl rfl)) (fun e => hne e.symm) (fun e => hnd e.symm))
    have HK3 := Lib.hid (HK2.out.trans hk3 fun k _ e => e)
    refine hK.out _ _ ((HB3.out.cell 0).trans rfl) fun _ => ?_
    clear hK K
    generalize (w2.setCell ⟨G, 4, none⟩ (.int .i64 s.val)).setCell ⟨G, 5, none⟩ (.int .i64 site) = w3 at HB3 HR3 HK3 ⊢
    refine wpAnyH_done (by kernel_rfl) ?_ _
    clear x4 x5 f4 f5 hk3 hS2 hS HB2 HR2 HK2
    go_upto_region 2 with (fail)
    have HR := HR3
    have HB := HB3
    have HK := HK3
    clear HR3 HB3 HK3
    go_wp2_with (fail)
    by_cases he2 : s.nx.nx.e ≠ 0
    · refine (number_no d g s.nx w3 HR.out he2).mono ?_
      unfold refE
      rintro r w9 ⟨rfl, hk9, hr9⟩
      have HK9 := Lib.hid (HK.out.trans hk9 fun k _ e => .inl e)
      have HR9 := Lib.hid hr9
      have HB9 := Lib.hid (HB.out.kept hk9 hne)
      clear hk9 hr9
      go_wp2_with (fail)
      have hst : s.nx.nx.nx.nt = s.nx.nx := by rw [(Rd.stop he2).2, Rd.stopT he2]
      refine ⟨rfl, ?_⟩
      rw [hst]
      exact ⟨HR9.out, HK9.out, .inr ⟨he2, rfl, _, rfl, HB9.out⟩⟩
    · have he2' : s.nx.nx.e = 0 := by omega
      refine (number_ok d g s.nx w3 HR.out he2').mono ?_
      rintro r w2 ⟨rfl, hk2, hr2⟩
      have HR2 := Lib.hid hr2
      have HB2 := Lib.hid (HB.out.kept hk2 hne)
      have HK2 := Lib.hid (HK.out.trans hk2 fun k _ e => .inl e)
      clear hk2 hr2 HR HB HK
      have x0 : w2.cell? ⟨G, 6, none⟩ = some a6 := (HB2.out.cell 6).trans rfl
      have f0 : w2.frozen? ⟨G, 6, none⟩ = false := HB2.out.frozen 6
      have hk3 : Kept (fun k => k = g ∨ k = G) w2 (w2.setCell ⟨G, 6, none⟩ (.int .i64 s.nx.val)) := (Kept.refl _ _).at 6 _ (.inl (.inr rfl))
      have HB3 := Lib.hid (show Box (w2.setCell ⟨G, 6, none⟩ (.int .i64 s.nx.val)) G 30 (opC site a1 a2 a3 (.int .i64 s.val) (.int .i64 site) (.int .i64 s.nx.val) a7 a8 a9 a10) from by simpa [opC] using HB2.out.set 6 (.int .i64 s.nx.val))
      have HR3 := Lib.hid (HR2.out.kept (S := fun k => k = G) ((Kept.refl (fun k => k = G) w2).at 6 (.int .i64 s.nx.val) (.inl rfl)) (fun e => hne e.symm) (fun e => hnd e.symm))
      have HK3 := Lib.hid (HK2.out.trans hk3 fun k _ e => e)
      clear hk3 HB2 HR2 HK2
      go_upto_region 3 with (fail)
      clear x0 f0
      generalize w2.setCell ⟨G, 6, none⟩ (.int .i64 s.nx.val) = w4 at HB3 HR3 HK3 ⊢
      go_upto_region 3 with (fail)
      have HR := HR3
      have HB := HB3
      have HK := HK3
      clear HR3 HB3 HK3
      go_wp2_with (fail)
      by_cases he3 : s.nx.nx.nx.e ≠ 0
      · refine (number_no d g s.nx.nx w4 HR.out he3).mono ?_
        unfold refE
        rintro r w9 ⟨rfl, hk9, hr9⟩
        have HK9 := Lib.hid (HK.out.trans hk9 fun k _ e => .inl e)
        have HR9 := Lib.hid hr9
        have HB9 := Lib.hid (HB.out.kept hk9 hne)
        clear hk9 hr9
        go_wp2_with (fail)
        have hst : s.nx.nx.nx.nt = s.nx.nx.nx := by rw [Rd.stopT he3]
        refine ⟨rfl, ?_⟩
        rw [hst]
        exact ⟨HR9.out, HK9.out, .inr ⟨he3, rfl, _, rfl, HB9.out⟩⟩
      · have he3' : s.nx.nx.nx.e = 0 := by omega
        refine (number_ok d g s.nx.nx w4 HR.out he3').mono ?_
        rintro r w2 ⟨rfl, hk2, hr2⟩
        have HR2 := Lib.hid hr2
        have HB2 := Lib.hid (HB.out.kept hk2 hne)
        have HK2 := Lib.hid (HK.out.trans hk2 fun k _ e => .inl e)
        clear hk2 hr2 HR HB HK
        have x0 : w2.cell? ⟨G, 7, none⟩ = some a7 := (HB2.out.cell 7).trans rfl
        have f0 : w2.frozen? ⟨G, 7, none⟩ = false := HB2.out.frozen 7
        have hk3 : Kept (fun k => k = g ∨ k = G) w2 (w2.setCell ⟨G, 7, none⟩ (.int .i64 s.nx.nx.val)) := (Kept.refl _ _).at 7 _ (.inl (.inr rfl))
        have HB3 := Lib.hid (show Box (w2.setCell ⟨G, 7, none⟩ (.int .i64 s.nx.nx.val)) G 30 (opC site a1 a2 a3 (.int .i64 s.val) (.int .i64 site) (.int .i64 s.nx.val) (.int .i64 s.nx.nx.val) a8 a9 a10) from by simpa [opC] using HB2.out.set 7 (.int .i64 s.nx.nx.val))
        have HR3 := Lib.hid (HR2.out.kept (S := fun k => k = G) ((Kept.refl (fun k => k = G) w2).at 7 (.int .i64 s.nx.nx.val) (.inl rfl)) (fun e => hne e.symm) (fun e => hnd e.symm))
        have HK3 := Lib.hid (HK2.out.trans hk3 fun k _ e => e)
        clear hk3 HB2 HR2 HK2
        go_upto_region 4 with (fail)
        clear x0 f0
        generalize w2.setCell ⟨G, 7, none⟩ (.int .i64 s.nx.nx.val) = w5 at HB3 HR3 HK3 ⊢
        have HR := HR3
        have HB := HB3
        have HK := HK3
        clear HR3 HB3 HK3
        go_wp2_with (fail)
        refine (RText_any d g s.nx.nx.nx w5 HR.out).mono ?_
        rintro r w2 ⟨rfl, hk2, hr2⟩
        have HR2 := Lib.hid hr2
        have HB2 := Lib.hid (HB.out.kept hk2 hne)
        have HK2 := Lib.hid (HK.out.trans hk2 fun k _ e => .inl e)
        clear hk2 hr2 HR HB HK
        have x0 : w2.cell? ⟨G, 8, none⟩ = some a8 := (HB2.out.cell 8).trans rfl
        have f0 : w2.frozen? ⟨G, 8, none⟩ = false := HB2.out.frozen 8
        have hk3 : Kept (fun k => k = g ∨ k = G) w2 (w2.setCell ⟨G, 8, none⟩ (.string s.nx.nx.nx.txt)) := (Kept.refl _ _).at 8 _ (.inl (.inr rfl))
        have HB3 := Lib.hid (show Box (w2.setCell ⟨G, 8, none⟩ (.string s.nx.nx.nx.txt)) G 30 (opC site a1 a2 a3 (.int .i64 s.val) (.int .i64 site) (.int .i64 s.nx.val) (.int .i64 s.nx.nx.val) (.string s.nx.nx.nx.txt) a9 a10) from by simpa [opC] using HB2.out.set 8 (.string s.nx.nx.nx.txt))
        have HR3 := Lib.hid (HR2.out.kept (S := fun k => k = G) ((Kept.refl (fun k => k = G) w2).at 8 (.string s.nx.nx.nx.txt) (.inl rfl)) (fun e => hne e.symm) (fun e => hnd e.symm))
        have HK3 := Lib.hid (HK2.out.trans hk3 fun k _ e => e)
        clear hk3 HB2 HR2 HK2
        go_upto_region 5 with (fail)
        clear x0 f0
        generalize w2.setCell ⟨G, 8, none⟩ (.string s.nx.nx.nx.txt) = w6 at HB3 HR3 HK3 ⊢
        go_wp2_with (fail)
        by_cases he4 : s.nx.nx.nx.nt.e = 0
        · refine (sure_ok d g _ w6 HR3.out he4).mono ?_
          rintro r w7 ⟨rfl, rfl⟩
          go_wp2_with (fail)
          go_end0
          exact ⟨HR3.out, HK3.out, .inl ⟨he4, rfl, HB3.out⟩⟩
        · refine (sure_no d g _ w6 HR3.out he4).mono ?_
          unfold refE
          rintro r w7 ⟨rfl, rfl⟩
          go_wp2_with (fail)
          exact ⟨rfl, HR3.out, HK3.out, .inr ⟨he4, rfl, _, rfl, HB3.out⟩⟩
set_option maxRecDepth 100000 in
set_option maxHeartbeats 3200000 in
theorem intoJ_any (d g G : Nat) (s : Rd) (c0 : Value) (w : World) (site : Int) (a1 a2 a3 a4 a5 a6 a7 a8 a9 a10 : Value) (h : RdAt w d g s) (hb : Box w G 30 (opC site a1 a2 a3 a4 a5 a6 a7 a8 a9 a10)) (hne : G ≠ g) (hnd : G ≠ d) :
    Calls Try.prog 119 #[.agg #[c0], .pointer (some ⟨G, 0, none⟩), .pointer (some ⟨g, 0, none⟩)] w
      (IntoPost w d g G s.nx s.nx.e fun w' => Box w' G 30 (opC site a1 a2 a3 a4 a5 a6 a7 a8 a9 (.int .i64 s.val))) := by
  have hk0 : Kept (fun _ => False) w (w.alloc (.cells #[c0] 118)) := (Kept.refl _ _).alloc _
  have HK := Lib.hid (show Kept (fun k => k = g ∨ k = G) w (w.alloc (.cells #[c0] 118)) from hk0.more fun _ _ e => e.elim)
  have HR := Lib.hid (h.fresh hk0)
  have HB := Lib.hid (hb.kept hk0 id)
  clear h hb hk0
  go_enter Try.func119, Try.ntmps119
  go_upto_region 1 with (fail)
  generalize w.alloc (.cells #[c0] 118) = w3 at HK HR HB ⊢
  go_wp2_with (fail)
  by_cases he1 : s.nx.e ≠ 0
  · refine (number_no d g s w3 HR.out he1).mono ?_
    unfold refE
    rintro r w9 ⟨rfl, hk9, hr9⟩
    have HK9 := Lib.hid (HK.out.trans hk9 fun k _ e => .inl e)
    have HR9 := Lib.hid hr9
    have HB9 := Lib.hid (HB.out.kept hk9 hne)
    clear hk9 hr9
    go_wp2_with (fail)
    refine ⟨rfl, ?_⟩
    exact ⟨HR9.out, HK9.out, .inr ⟨he1, rfl, _, rfl, HB9.out⟩⟩
  · have he1' : s.nx.e = 0 := by omega
    refine (number_ok d g s w3 HR.out he1').mono ?_
    rintro r w2 ⟨rfl, hk2, hr2⟩
    have HR2 := Lib.hid hr2
    have HB2 := Lib.hid (HB.out.kept hk2 hne)
    have HK2 := Lib.hid (HK.out.trans hk2 fun k _ e => .inl e)
    clear hk2 hr2 HR HB HK
    have x0 : w2.cell? ⟨G, 10, none⟩ = some a10 := (HB2.out.cell 10).trans rfl
    have f0 : w2.frozen? ⟨G, 10, none⟩ = false := HB2.out.frozen 10
    have hk3 : Kept (fun k => k = g ∨ k = G) w2 (w2.setCell ⟨G, 10, none⟩ (.int .i64 s.val)) := (Kept.refl _ _).at 10 _ (.inl (.inr rfl))
    have HB3 := Lib.hid (show Box (w2.setCell ⟨G, 10, none⟩ (.int .i64 s.val)) G 30 (opC site a1 a2 a3 a4 a5 a6 a7 a8 a9 (.int .i64 s.val)) from by simpa [opC] using HB2.out.set 10 (.int .i64 s.val))
    have HR3 := Lib.hid (HR2.out.kept (S := fun k => k = G) ((Kept.refl (fun k => k = G) w2).at 10 (.int .i64 s.val) (.inl rfl)) (fun e => hne e.symm) (fun e => hnd e.symm))
    have HK3 := Lib.hid (HK2.out.trans hk3 fun k _ e => e)
    clear hk3 HB2 HR2 HK2
    go_wp2_with (fail)
    go_end0
    exact ⟨HR3.out, HK3.out, .inl ⟨he1', rfl, HB3.out⟩⟩
set_option maxRecDepth 100000 in
theorem intoL_any (d g G : Nat) (s : Rd) (w : World) (cs : Array Value) (h : RdAt w d g s) (hb : Box w G 30 cs) :
    Calls Try.prog 123 #[.agg #[], .pointer (some ⟨G, 0, none⟩), .pointer (some ⟨g, 0, none⟩)] w
      (IntoPost w d g G s 0 fun w' => Box w' G 30 cs) := by
  have hk0 : Kept (fun _ => False) w (w.alloc (.cells #[] 120)) := (Kept.refl _ _).alloc _
  have HK := Lib.hid (show Kept (fun k => k = g ∨ k = G) w (w.alloc (.cells #[] 120)) from hk0.more fun _ _ e => e.elim)
  have HR := Lib.hid (h.fresh hk0)
  have HB := Lib.hid (hb.kept hk0 id)
  clear h hb hk0
  go_enter Try.func123, Try.ntmps123
  go_wp2_with (fail)
  go_end0
  exact ⟨HR.out, HK.out, .inl ⟨rfl, rfl, HB.out⟩⟩

end Go.Proofs.Ytnlklhlnnoihiaa

namespace Go.Proofs.Ytnlklhlnnoihiaa
open Go Go.RowKit

def takeRuns : Nat → List Rn → Rd → List Rn × Rd
  | 0, acc, s => (acc, s)
  | k + 1, acc, s => if s.nx.nx.nx.e ≠ 0 then ([], s.nx.nx.nx) else takeRuns k (acc ++ [⟨⟨s.val, s.nx.val⟩, s.nx.nx.val⟩]) s.nx.nx.nx
def intoR (s : Rd) : Int × List Rn × Rd := if s.nx.e ≠ 0 then (s.nx.e, [], s.nx) else if 1024 < s.val then (10, [], s.nx) else ((takeRuns s.val [] s.nx).2.e, (takeRuns s.val [] s.nx).1, (takeRuns s.val [] s.nx).2)
theorem runs_snoc (l : List Rn) (a b c : Int) : runs (l ++ [⟨⟨a, b⟩, c⟩]) = runs l ++ #[Value.int .i64 a, .int .i64 b, .int .i64 c].toList := by
  simp [runs]
set_option maxRecDepth 100000 in
set_option maxHeartbeats 3200000 in
theorem intoR_any (d g G : Nat) (s : Rd) (c0 : Value) (w : World) (site : Int) (a1 a2 a3 a4 a5 a6 a7 a8 a10 : Value) (h : RdAt w d g s) (hb : Box w G 30 (opC site a1 a2 a3 a4 a5 a6 a7 a8 (.slice none 0 0) a10)) (hne : G ≠ g) (hnd : G ≠ d) :
    Calls Try.prog 109 #[.agg #[c0], .pointer (some ⟨G, 0, none⟩), .pointer (some ⟨g, 0, none⟩)] w
      (IntoPost w d g G (intoR s).2.2 (intoR s).1 fun w' => ∃ A c, Box w' G 30 (opC site a1 a2 a3 a4 a5 a6 a7 a8 (.slice A (intoR s).2.1.length c) a10) ∧ w'.ownsRow w.heap.size 32 3 (.slice A (intoR s).2.1.length c) (intoR s).2.1.length (runs (intoR s).2.1)) := by
  have hGl : G < w.heap.size := hb.lt
  have hgl : g < w.heap.size := h.at_.lt
  have hdl : d < w.heap.size := h.at_.dlt
  obtain ⟨X, hX⟩ : ∃ X, intoR s = X := ⟨_, rfl⟩
  have HX1 := Lib.hid (show s.nx.e ≠ 0 → X = (s.nx.e, [], s.nx) from fun h => by rw [← hX, intoR, if_pos h])
  have HX2 := Lib.hid (show s.nx.e = 0 → 1024 < s.val → X = (10, [], s.nx) from fun h h' => by rw [← hX, intoR, if_neg (fun e => e h), if_pos h'])
  have HX3 := Lib.hid (show s.nx.e = 0 → ¬ 1024 < s.val → X = ((takeRuns s.val [] s.nx).2.e, (takeRuns s.val [] s.nx).1, (takeRuns s.val [] s.nx).2) from fun h h' => by rw [← hX, intoR, if_neg (fun e => e h), if_neg h'])
  rw [hX]
  clear hX
  have hk0 : Kept (fun _ => False) w (w.alloc (.cells #[c0] 116)) := (Kept.refl _ _).alloc _
  have HK := Lib.hid (show Kept (fun k => k = g ∨ k = G) w (w.alloc (.cells #[c0] 116)) from hk0.more fun _ _ e => e.elim)
  have HR := Lib.hid (h.fresh hk0)
  have HB := Lib.hid (hb.kept hk0 id)
  clear h hb hk0
  go_enter Try.func109, Try.ntmps109
  go_upto_region 1 with (fail)
  generalize w.alloc (.cells #[c0] 116) = w3 at HK HR HB ⊢
  go_wp2_with (fail)
  by_cases he1 : s.nx.e ≠ 0
  · have HXX := Lib.hid (HX1.out he1)
    refine (number_no d g s w3 HR.out he1).mono ?_
    unfold refE
    rintro r w9 ⟨rfl, hk9, hr9⟩
    have HK9 := Lib.hid (HK.out.trans hk9 fun k _ e => .inl e)
    have HR9 := Lib.hid hr9
    have HB9 := Lib.hid (HB.out.kept hk9 hne)
    clear hk9 hr9
    go_wp2_with (fail)
    refine ⟨rfl, ?_⟩
    rw [HXX.out]
    exact ⟨HR9.out, HK9.out, .inr ⟨he1, rfl, _, rfl, HB9.out⟩⟩
  · have he1' : s.nx.e = 0 := by omega
    refine (number_ok d g s w3 HR.out he1').mono ?_
    rintro r w4 ⟨rfl, hk4, hr4⟩
    have HR4 := Lib.hid hr4
    have HB4 := Lib.hid (HB.out.kept hk4 hne)
    have HK4 := Lib.hid (HK.out.trans hk4 fun k _ e => .inl e)
    clear hk4 hr4 HR HB HK
    have HX2' := Lib.hid (HX2.out he1')
    have HX3' := Lib.hid (HX3.out he1')
    have HE4 := Lib.hid he1'
    generalize s.val = n at HX2' HX3' ⊢
    generalize s.nx = s1 at HX2' HX3' HR4 HE4
    clear HX1 HX2 HX3 he1 he1'
    by_cases hn : 1024 < n
    · have HXX := Lib.hid (HX2'.out hn)
      go_wp2_with (fail)
      refine ⟨rfl, ?_⟩
      rw [HXX.out]
      exact ⟨HR4.out, HK4.out, .inr ⟨show (10 : Int) ≠ 0 by decide, rfl, _, rfl, HB4.out⟩⟩
    · have HXX := Lib.hid (HX3'.out hn)
      clear HX2' HX3'
      go_wp2_with (fail)
      go_loopw [15] (fun i wr => ∃ (k : Nat) (acc : List Rn) (s' : Rd) (A : Option Addr) (c : Nat), i = .int .i64 k ∧ k ≤ n ∧ acc.length = k ∧ s'.e = 0 ∧ Box wr G 30 (opC site a1 a2 a3 a4 a5 a6 a7 a8 (.slice A acc.length c) a10) ∧ wr.ownsRow w.heap.size 32 3 (.slice A acc.length c) acc.length (runs acc) ∧
        takeRuns (n - k) acc s' = takeRuns n [] s1 ∧ RdAt wr d g s' ∧ Kept (fun k => k = g ∨ k = G) w wr) (fun i _ => n - (intOf i).toNat)
      case atStart => exact ⟨0, [], s1, none, 0, rfl, Nat.zero_le _, rfl, HE4.out, HB4.out, World.ownsRow_nil _ _ _ _, rfl, HR4.out, HK4.out⟩
      case round =>
        clear HR4 HB4 HK4 HE4
        obtain ⟨k, acc, s', A, c, rfl, hk, hacc, hse, hbx, hown, htl, hrd, hkp⟩ := hrel
        have HO := Lib.hid hown
        have HB := Lib.hid hbx
        have HR := Lib.hid hrd
        have HK := Lib.hid hkp
        have HSE := Lib.hid hse
        have HT := Lib.hid htl
        have HAC := Lib.hid hacc
        have haccl : acc.length ≤ 1024 := by omega
        have hsz := hkp.size
        clear hown hbx hrd hkp hse htl hacc
        by_cases hlt : k < n
        · have HT1 := Lib.hid (show s'.nx.nx.nx.e ≠ 0 → takeRuns n [] s1 = ([], s'.nx.nx.nx) from fun h => by rw [← HT.out, show n - k = n - (k + 1) + 1 by omega, takeRuns, if_pos h])
          have HT2 := Lib.hid (show s'.nx.nx.nx.e = 0 → takeRuns (n - (k + 1)) (acc ++ [⟨⟨s'.val, s'.nx.val⟩, s'.nx.nx.val⟩]) s'.nx.nx.nx = takeRuns n [] s1 from fun h => by rw [← HT.out, show n - k = n - (k + 1) + 1 by omega, takeRuns, if_neg (fun e => e h)])
          have HOX := Lib.hid (fun k (e : (Value.slice A acc.length c).ownBlock = some k) => (HO.out.lt k e).2)
          have HKA : Kept (fun _ => False) wr (wr.alloc (.cells #[.int .i64 0, .int .i64 0, .int .i64 0] 32)) := (Kept.refl _ _).alloc _
          have HXB := Lib.hid (Box.new wr 32 #[.int .i64 0, .int .i64 0, .int .i64 0])
          have HRA := Lib.hid (HR.out.fresh HKA)
          have HBA := Lib.hid (HB.out.kept HKA id)
          have HOA := Lib.hid (HKA.own HO.out fun _ _ => id)
          have HKB := Lib.hid (HK.out.trans HKA fun _ _ e => e.elim)
          have hxg : wr.heap.size ≠ g ∧ wr.heap.size ≠ d ∧ wr.heap.size ≠ G := by omega
          clear HKA HR HB HO HK HT
          go_upto_region 7 with (fail)
          generalize wr.alloc (.cells #[.int .i64 0, .int .i64 0, .int .i64 0] 32) = w5 at HXB HRA HBA HOA HKB ⊢
          have hX5 : wr.heap.size < w5.heap.size := HXB.out.lt
          obtain ⟨X0, hX0⟩ : ∃ X0, wr.heap.size = X0 := ⟨_, rfl⟩
          rw [hX0] at HXB hxg hX5 HOX ⊢
          have hX0l : w.heap.size ≤ X0 := by omega
          clear hX0
          go_wp2_with (fail)
          by_cases he1 : s'.nx.e ≠ 0
          · have hst : s'.nx.nx.nx = s'.nx := by rw [(Rd.stop he1).2, (Rd.stop he1).2]
            have HXX2 := Lib.hid (show takeRuns n [] s1 = ([], s'.nx) by rw [HT1.out (by rw [hst]; exact he1), hst])
            refine (number_no d g s' w5 HRA.out he1).mono ?_
            unfold refE
            rintro r w9 ⟨rfl, hk9, hr9⟩
            have HK9 := Lib.hid (HKB.out.trans hk9 fun k _ e => .inl e)
            have HR9 := Lib.hid hr9
            have HB9 := Lib.hid (HBA.out.kept hk9 hne)
            clear hk9 hr9 hst
            go_wp2_with (fail)
            refine ⟨rfl, ?_⟩
            rw [HXX.out, HXX2.out]
            exact ⟨HR9.out, HK9.out, .inr ⟨he1, rfl, _, rfl, HB9.out⟩⟩
          · have he1' : s'.nx.e = 0 := by omega
            refine (number_ok d g s' w5 HRA.out he1').mono ?_
            rintro r w6 ⟨rfl, hk6, hr6⟩
            have HX6 := Lib.hid (HXB.out.kept hk6 hxg.1)
            have HB6 := Lib.hid (HBA.out.kept hk6 hne)
            have HO6 := Lib.hid (hk6.own HOA.out fun j e hj => by have := (HOA.out.lt j e).1; omega)
            have HK6 := Lib.hid (HKB.out.trans hk6 fun k _ e => .inl e)
            have HR6 := Lib.hid hr6
            have hX6 : X0 < w6.heap.size := HX6.out.lt
            clear hk6 hr6 HXB HBA HOA HKB HRA
            have x0 : w6.cell? ⟨X0, 0, none⟩ = some (.int .i64 0) := (HX6.out.cell 0).trans rfl
            have f0 : w6.frozen? ⟨X0, 0, none⟩ = false := HX6.out.frozen 0
            have hks : Kept (fun k => k = X0) w6 (w6.setCell ⟨X0, 0, none⟩ (.int .i64 s'.val)) := (Kept.refl (fun k => k = X0) _).at 0 _ (.inl rfl)
            have HXB := Lib.hid (show Box (w6.setCell ⟨X0, 0, none⟩ (.int .i64 s'.val)) X0 32 #[.int .i64 s'.val, .int .i64 0, .int .i64 0] by simpa using HX6.out.set 0 (.int .i64 s'.val))
            have HBA := Lib.hid (HB6.out.kept hks (fun e => hxg.2.2 e.symm))
            have HRA := Lib.hid (HR6.out.kept hks (fun e => hxg.1 e.symm) (fun e => hxg.2.1 e.symm))
            have HOA := Lib.hid (hks.own HO6.out fun j e hj => by have := HOX.out j e; omega)
            have HKB := Lib.hid (HK6.out.trans hks fun k hk e => by omega)
            clear hks HX6 HB6 HO6 HK6 HR6
            go_upto_region 8 with (fail)
            clear x0 f0
            generalize w6.setCell ⟨X0, 0, none⟩ (.int .i64 s'.val) = w7 at HXB HBA HRA HOA HKB ⊢
            go_wp2_with (fail)
            by_cases he2 : s'.nx.nx.e ≠ 0
            · have hst : s'.nx.nx.nx = s'.nx.nx := by rw [(Rd.stop he2).2]
              have HXX2 := Lib.hid (show takeRuns n [] s1 = ([], s'.nx.nx) by rw [HT1.out (by rw [hst]; exact he2), hst])
              refine (number_no d g s'.nx w7 HRA.out he2).mono ?_
              unfold refE
              rintro r w9 ⟨rfl, hk9, hr9⟩
              have HK9 := Lib.hid (HKB.out.trans hk9 fun k _ e => .inl e)
              have HR9 := Lib.hid hr9
              have HB9 := Lib.hid (HBA.out.kept hk9 hne)
              clear hk9 hr9 hst
              go_wp2_with (fail)
              refine ⟨rfl, ?_⟩
              rw [HXX.out, HXX2.out]
              exact ⟨HR9.out, HK9.out, .inr ⟨he2, rfl, _, rfl, HB9.out⟩⟩
            · have he2' : s'.nx.nx.e = 0 := by omega
              refine (number_ok d g s'.nx w7 HRA.out he2').mono ?_
              rintro r w6 ⟨rfl, hk6, hr6⟩
              have HX6 := Lib.hid (HXB.out.kept hk6 hxg.1)
              have HB6 := Lib.hid (HBA.out.kept hk6 hne)
              have HO6 := Lib.hid (hk6.own HOA.out fun j e hj => by have := (HOA.out.lt j e).1; omega)
              have HK6 := Lib.hid (HKB.out.trans hk6 fun k _ e => .inl e)
              have HR6 := Lib.hid hr6
              have hX6 : X0 < w6.heap.size := HX6.out.lt
              clear hk6 hr6 HXB HBA HOA HKB HRA
              have x0 : w6.cell? ⟨X0, 1, none⟩ = some (.int .i64 0) := (HX6.out.cell 1).trans rfl
              have f0 : w6.frozen? ⟨X0, 1, none⟩ = false := HX6.out.frozen 1
              have hks : Kept (fun k => k = X0) w6 (w6.setCell ⟨X0, 1, none⟩ (.int .i64 s'.nx.val)) := (Kept.refl (fun k => k = X0) _).at 1 _ (.inl rfl)
              have HXB := Lib.hid (show Box (w6.setCell ⟨X0, 1, none⟩ (.int .i64 s'.nx.val)) X0 32 #[.int .i64 s'.val, .int .i64 s'.nx.val, .int .i64 0] by simpa using HX6.out.set 1 (.int .i64 s'.nx.val))
              have HBA := Lib.hid (HB6.out.kept hks (fun e => hxg.2.2 e.symm))
              have HRA := Lib.hid (HR6.out.kept hks (fun e => hxg.1 e.symm) (fun e => hxg.2.1 e.symm))
              have HOA := Lib.hid (hks.own HO6.out fun j e hj => by have := HOX.out j e; omega)
              have HKB := Lib.hid (HK6.out.trans hks fun k hk e => by omega)
              clear hks HX6 HB6 HO6 HK6 HR6
              go_upto_region 9 with (fail)
              clear x0 f0
              generalize w6.setCell ⟨X0, 1, none⟩ (.int .i64 s'.nx.val) = w8 at HXB HBA HRA HOA HKB ⊢
              go_wp2_with (fail)
              by_cases he3 : s'.nx.nx.nx.e ≠ 0
              · have hst : s'.nx.nx.nx = s'.nx.nx.nx := by rfl
                have HXX2 := Lib.hid (show takeRuns n [] s1 = ([], s'.nx.nx.nx) by rw [HT1.out (by rw [hst]; exact he3), hst])
                refine (number_no d g s'.nx.nx w8 HRA.out he3).mono ?_
                unfold refE
                rintro r w9 ⟨rfl, hk9, hr9⟩
                have HK9 := Lib.hid (HKB.out.trans hk9 fun k _ e => .inl e)
                have HR9 := Lib.hid hr9
                have HB9 := Lib.hid (HBA.out.kept hk9 hne)
                clear hk9 hr9 hst
                go_wp2_with (fail)
                refine ⟨rfl, ?_⟩
                rw [HXX.out, HXX2.out]
                exact ⟨HR9.out, HK9.out, .inr ⟨he3, rfl, _, rfl, HB9.out⟩⟩
              · have he3' : s'.nx.nx.nx.e = 0 := by omega
                refine (number_ok d g s'.nx.nx w8 HRA.out he3').mono ?_
                rintro r w6 ⟨rfl, hk6, hr6⟩
                have HX6 := Lib.hid (HXB.out.kept hk6 hxg.1)
                have HB6 := Lib.hid (HBA.out.kept hk6 hne)
                have HO6 := Lib.hid (hk6.own HOA.out fun j e hj => by have := (HOA.out.lt j e).1; omega)
                have HK6 := Lib.hid (HKB.out.trans hk6 fun k _ e => .inl e)
                have HR6 := Lib.hid hr6
                have hX6 : X0 < w6.heap.size := HX6.out.lt
                clear hk6 hr6 HXB HBA HOA HKB HRA
                have x0 : w6.cell? ⟨X0, 2, none⟩ = some (.int .i64 0) := (HX6.out.cell 2).trans rfl
                have f0 : w6.frozen? ⟨X0, 2, none⟩ = false := HX6.out.frozen 2
                have hks : Kept (fun k => k = X0) w6 (w6.setCell ⟨X0, 2, none⟩ (.int .i64 s'.nx.nx.val)) := (Kept.refl (fun k => k = X0) _).at 2 _ (.inl rfl)
                have HXB := Lib.hid (show Box (w6.setCell ⟨X0, 2, none⟩ (.int .i64 s'.nx.nx.val)) X0 32 #[.int .i64 s'.val, .int .i64 s'.nx.val, .int .i64 s'.nx.nx.val] by simpa using HX6.out.set 2 (.int .i64 s'.nx.nx.val))
                have HBA := Lib.hid (HB6.out.kept hks (fun e => hxg.2.2 e.symm))
                have HRA := Lib.hid (HR6.out.kept hks (fun e => hxg.1 e.symm) (fun e => hxg.2.1 e.symm))
                have HOA := Lib.hid (hks.own HO6.out fun j e hj => by have := HOX.out j e; omega)
                have HKB := Lib.hid (HK6.out.trans hks fun k hk e => by omega)
                clear hks HX6 HB6 HO6 HK6 HR6
                go_upto_region 10 with (fail)
                clear x0 f0
                generalize w6.setCell ⟨X0, 2, none⟩ (.int .i64 s'.nx.nx.val) = w10 at HXB HBA HRA HOA HKB ⊢
                have HT3 := Lib.hid (HT2.out he3')
                have HSN := Lib.hid (runs_snoc acc s'.val s'.nx.val s'.nx.nx.val)
                have hkd : Kept (fun _ => False) w10 w10.drew := (Kept.refl _ _).drew
                have HXD := Lib.hid (HXB.out.kept hkd id)
                have HBD := Lib.hid (HBA.out.kept hkd id)
                have HRD := Lib.hid (HRA.out.fresh hkd)
                have HOD := Lib.hid (hkd.own HOA.out fun _ _ => id)
                have HKD := Lib.hid (HKB.out.trans hkd fun _ _ e => e.elim)
                clear hkd HXB HBA HRA HOA HKB
                refine wp_region_held_drew (S := fun Wz => Box Wz X0 32 #[.int .i64 s'.val, .int .i64 s'.nx.val, .int .i64 s'.nx.nx.val]) (by kernel_rfl) HXD.out fun hS => ?_
                generalize w10.drew = W at HXD HBD HRD HOD HKD hS ⊢
                have x9 : W.cell? ⟨G, 9, none⟩ = some (.slice A acc.length c) := (HBD.out.cell 9).trans rfl
                refine held_takeTo 28 (i := 0) (v := .pointer (some ⟨G, 0, none⟩)) rfl rfl (by kernel_rfl) (by kernel_rfl) (by kernel_rfl) (fun _ _ _ h => h) rfl hS (fun Wz hW => by go_simp) ?_
                simp only [List.setIfInBounds_toArray, List.set_cons_zero, List.set_cons_succ]
                refine held_takeTo 29 (i := 1) (v := .pointer (some ⟨G, 0, none⟩)) rfl rfl (by kernel_rfl) (by kernel_rfl) (by kernel_rfl) (fun _ _ _ h => h) rfl hS (fun Wz hW => by go_simp) ?_
                simp only [List.setIfInBounds_toArray, List.set_cons_zero, List.set_cons_succ]
                refine held_takeTo 30 (i := 2) (v := .pointer (some ⟨G, 0, none⟩)) rfl rfl (by kernel_rfl) (by kernel_rfl) (by kernel_rfl) (fun _ _ _ h => h) rfl hS (fun Wz hW => by go_simp) ?_
                simp only [List.setIfInBounds_toArray, List.set_cons_zero, List.set_cons_succ]
                refine held_takeTo 31 (i := 3) (v := .pointer (some ⟨G, 9, none⟩)) rfl rfl (by kernel_rfl) (by kernel_rfl) (by kernel_rfl) (fun _ _ _ h => h) rfl hS (fun Wz hW => by go_simp) ?_
                simp only [List.setIfInBounds_toArray, List.set_cons_zero, List.set_cons_succ]
                refine held_takeTo 33 (i := 5) (v := .agg #[.int .i64 s'.val, .int .i64 s'.nx.val, .int .i64 s'.nx.nx.val]) rfl rfl (by kernel_rfl) (by kernel_rfl) (by kernel_rfl) (fun _ _ _ h => h) rfl hS (fun Wz hW => by (have h0 : Wz.cell? ⟨X0, 0, none⟩ = some (.int .i64 s'.val) := (hW.cell 0).trans rfl; have h1 : Wz.cell? ⟨X0, 1, none⟩ = some (.int .i64 s'.nx.val) := (hW.cell 1).trans rfl; have h2 : Wz.cell? ⟨X0, 2, none⟩ = some (.int .i64 s'.nx.nx.val) := (hW.cell 2).trans rfl; go_simp)) ?_
                simp only [List.setIfInBounds_toArray, List.set_cons_zero, List.set_cons_succ]
                refine held_two (i := 4) (j := 6) (by kernel_rfl) rfl rfl ?_ ?_
                · intro K hK
                  go_wp2_with (fail)
                  refine hK.out _ _ hS fun _ => ?_
                  clear hK K
                  refine held_one (i := 6) (by kernel_rfl) rfl fun K hK => ?_
                  go_wp2_with (fail)
                  refine hK.out _ _ (hS.alloc _) fun _ => ?_
                  clear hK K
                  refine held_one (i := 7) (by kernel_rfl) rfl fun K hK => ?_
                  refine wpList_append_new eltRuns rfl _ _ rfl w.heap.size _ acc.length (runs acc) rfl HOD.out 1 1 rfl rfl rfl (by omega) HKD.out.size ?_
                  intro A' c' w8 HO8 HK8 HG8
                  have hol : ∀ k, (Value.slice A acc.length c).ownBlock = some k → w.heap.size ≤ k ∧ k < X0 := fun k e => ⟨(HOD.out.lt k e).1, HOX.out k e⟩
                  have hS8 : Box w8 X0 32 #[.int .i64 s'.val, .int .i64 s'.nx.val, .int .i64 s'.nx.nx.val] := HXD.out.kept HK8.out fun e => by have := hol _ e; omega
                  have HB8 := Lib.hid (HBD.out.kept HK8.out fun e => by have := hol _ e; omega)
                  have HR8 := Lib.hid (HRD.out.kept HK8.out (fun e => by have := hol _ e; omega) (fun e => by have := hol _ e; omega))
                  have HKK8 := Lib.hid (HKD.out.trans HK8.out fun k hk e => by have := hol _ e; omega)
                  have hO8 : w8.ownsRow w.heap.size 32 3 (.slice A' (acc ++ [(⟨⟨s'.val, s'.nx.val⟩, s'.nx.nx.val⟩ : Rn)]).length c') (acc ++ [(⟨⟨s'.val, s'.nx.val⟩, s'.nx.nx.val⟩ : Rn)]).length (runs (acc ++ [⟨⟨s'.val, s'.nx.val⟩, s'.nx.nx.val⟩])) := by rw [HSN.out, List.length_append]; exact HO8.out
                  clear hol HK8 HG8 HO8
                  go_wp2_with (fail)
                  refine hK.out _ _ hS8 fun _ => ?_
                  clear hK K
                  refine held_one (i := 8) (by kernel_rfl) rfl fun K hK => ?_
                  go_wp2_with (fail)
                  refine hK.out _ _ hS8 fun _ => ?_
                  clear hK K
                  refine held_one (i := 9) (by kernel_rfl) rfl fun K hK => ?_
                  go_wp2_with (fail)
                  refine hK.out _ _ hS8 fun _ => ?_
                  clear hK K
                  have x98 : w8.cell? ⟨G, 9, none⟩ = some (.slice A acc.length c) := (HB8.out.cell 9).trans rfl
                  have f98 : w8.frozen? ⟨G, 9, none⟩ = false := HB8.out.frozen 9
                  refine held_one (i := 10) (by kernel_rfl) rfl fun K hK => ?_
                  go_wp2_with (fail)
                  have hk9 : Kept (fun k => k = G) w8 (w8.setCell ⟨G, 9, none⟩ (.slice A' (acc.length + 1) c')) := (Kept.refl (fun k => k = G) _).at 9 _ (.inl rfl)
                  have HB9 := Lib.hid (show Box (w8.setCell ⟨G, 9, none⟩ (.slice A' (acc.length + 1) c')) G 30 (opC site a1 a2 a3 a4 a5 a6 a7 a8 (.slice A' (acc.length + 1) c') a10) by simpa [opC] using HB8.out.set 9 (.slice A' (acc.length + 1) c'))
                  have HR9 := Lib.hid (HR8.out.kept hk9 (fun e => hne e.symm) (fun e => hnd e.symm))
                  have HO9 := Lib.hid (hk9.own hO8 fun j e hj => by have := (hO8.lt j e).1; omega)
                  have HK9 := Lib.hid (HKK8.out.trans hk9 fun k _ e => .inr e)
                  refine hK.out _ _ (hS8.kept hk9 (by omega)) fun _ => ?_
                  clear hK K
                  refine wpAnyH_done (by kernel_rfl) ?_ _
                  clear x98 f98 hk9 hS8 hO8 HB8 HR8 HKK8
                  go_wp2_with (fail)
                  go_roundw
                  case rel =>
                    refine ⟨k + 1, acc ++ [⟨⟨s'.val, s'.nx.val⟩, s'.nx.nx.val⟩], s'.nx.nx.nx, A', c', by go_num, by omega, by rw [List.length_append, HAC.out]; rfl, he3', ?_, HO9.out, HT3.out, HR9.out, HK9.out⟩
                    rw [List.length_append]
                    exact HB9.out
                  case measure => simp [intOf]; omega
                · intro K hK
                  go_wp2_with (fail)
                  refine hK.out _ _ (hS.alloc _) fun _ => ?_
                  clear hK K
                  have x9a : (W.alloc (.cells #[.int .i64 s'.val, .int .i64 s'.nx.val, .int .i64 s'.nx.nx.val] 32)).cell? ⟨G, 9, none⟩ = some (.slice A acc.length c) := ((HBD.out.alloc _).cell 9).trans rfl
                  refine held_one (i := 4) (by kernel_rfl) rfl fun K hK => ?_
                  go_wp2_with (fail)
                  refine hK.out _ _ (hS.alloc _) fun _ => ?_
                  clear hK K x9a
                  refine held_one (i := 7) (by kernel_rfl) rfl fun K hK => ?_
                  refine wpList_append_new eltRuns rfl _ _ rfl w.heap.size _ acc.length (runs acc) rfl HOD.out 1 1 rfl rfl rfl (by omega) HKD.out.size ?_
                  intro A' c' w8 HO8 HK8 HG8
                  have hol : ∀ k, (Value.slice A acc.length c).ownBlock = some k → w.heap.size ≤ k ∧ k < X0 := fun k e => ⟨(HOD.out.lt k e).1, HOX.out k e⟩
                  have hS8 : Box w8 X0 32 #[.int .i64 s'.val, .int .i64 s'.nx.val, .int .i64 s'.nx.nx.val] := HXD.out.kept HK8.out fun e => by have := hol _ e; omega
                  have HB8 := Lib.hid (HBD.out.kept HK8.out fun e => by have := hol _ e; omega)
                  have HR8 := Lib.hid (HRD.out.kept HK8.out (fun e => by have := hol _ e; omega) (fun e => by have := hol _ e; omega))
                  have HKK8 := Lib.hid (HKD.out.trans HK8.out fun k hk e => by have := hol _ e; omega)
                  have hO8 : w8.ownsRow w.heap.size 32 3 (.slice A' (acc ++ [(⟨⟨s'.val, s'.nx.val⟩, s'.nx.nx.val⟩ : Rn)]).length c') (acc ++ [(⟨⟨s'.val, s'.nx.val⟩, s'.nx.nx.val⟩ : Rn)]).length (runs (acc ++ [⟨⟨s'.val, s'.nx.val⟩, s'.nx.nx.val⟩])) := by rw [HSN.out, List.length_append]; exact HO8.out
                  clear hol HK8 HG8 HO8
                  go_wp2_with (fail)
                  refine hK.out _ _ hS8 fun _ => ?_
                  clear hK K
                  refine held_one (i := 8) (by kernel_rfl) rfl fun K hK => ?_
                  go_wp2_with (fail)
                  refine hK.out _ _ hS8 fun _ => ?_
                  clear hK K
                  refine held_one (i := 9) (by kernel_rfl) rfl fun K hK => ?_
                  go_wp2_with (fail)
                  refine hK.out _ _ hS8 fun _ => ?_
                  clear hK K
                  have x98 : w8.cell? ⟨G, 9, none⟩ = some (.slice A acc.length c) := (HB8.out.cell 9).trans rfl
                  have f98 : w8.frozen? ⟨G, 9, none⟩ = false := HB8.out.frozen 9
                  refine held_one (i := 10) (by kernel_rfl) rfl fun K hK => ?_
                  go_wp2_with (fail)
                  have hk9 : Kept (fun k => k = G) w8 (w8.setCell ⟨G, 9, none⟩ (.slice A' (acc.length + 1) c')) := (Kept.refl (fun k => k = G) _).at 9 _ (.inl rfl)
                  have HB9 := Lib.hid (show Box (w8.setCell ⟨G, 9, none⟩ (.slice A' (acc.length + 1) c')) G 30 (opC site a1 a2 a3 a4 a5 a6 a7 a8 (.slice A' (acc.length + 1) c') a10) by simpa [opC] using HB8.out.set 9 (.slice A' (acc.length + 1) c'))
                  have HR9 := Lib.hid (HR8.out.kept hk9 (fun e => hne e.symm) (fun e => hnd e.symm))
                  have HO9 := Lib.hid (hk9.own hO8 fun j e hj => by have := (hO8.lt j e).1; omega)
                  have HK9 := Lib.hid (HKK8.out.trans hk9 fun k _ e => .inr e)
                  refine hK.out _ _ (hS8.kept hk9 (by omega)) fun _ => ?_
                  clear hK K
                  refine wpAnyH_done (by kernel_rfl) ?_ _
                  clear x98 f98 hk9 hS8 hO8 HB8 HR8 HKK8
                  go_wp2_with (fail)
                  go_roundw
                  case rel =>
                    refine ⟨k + 1, acc ++ [⟨⟨s'.val, s'.nx.val⟩, s'.nx.nx.val⟩], s'.nx.nx.nx, A', c', by go_num, by omega, by rw [List.length_append, HAC.out]; rfl, he3', ?_, HO9.out, HT3.out, HR9.out, HK9.out⟩
                    rw [List.length_append]
                    exact HB9.out
                  case measure => simp [intOf]; omega
        · obtain rfl : k = n := by omega
          have HTT := Lib.hid (show takeRuns k [] s1 = (acc, s') by rw [← HT.out, Nat.sub_self]; rfl)
          go_wp2_with (fail)
          go_end0
          rw [HXX.out, HTT.out]
          exact ⟨HR.out, HK.out, .inl ⟨HSE.out, rfl, A, c, HB.out, HO.out⟩⟩
end Go.Proofs.Ytnlklhlnnoihiaa

namespace Go.Proofs.Ytnlklhlnnoihiaa
open Go Go.RowKit

def zeroO : Opr := ⟨⟨0, 0⟩, [], 0, noId, noId, ⟨#[]⟩, [], 0⟩
theorem zeroO_c : zeroO.cells none 0 none 0 = zeroC := rfl
/-- What a kind takes. -/
def intoV (o : Opr) (s : Rd) : Int × Opr × Rd :=
  if o.kind = 1 then (s.nx.nx.nx.nt.e, { o with id := ⟨s.val, o.dot.site⟩, ref := ⟨s.nx.val, s.nx.nx.val⟩, text := s.nx.nx.nx.txt }, s.nx.nx.nx.nt)
  else if o.kind = 2 then ((intoR s).1, { o with gone := (intoR s).2.1 }, (intoR s).2.2)
  else if o.kind = 3 then (s.nx.e, { o with site := s.val }, s.nx) else (0, o, s)
/-- What is taken, ahead of Check: the error, the operation, the Reader. -/
def takeR (s : Rd) : Int × Opr × Rd :=
  if s.nx.e ≠ 0 then (s.nx.e, zeroO, s.nx)
  else if s.val < 1 ∨ 4 < s.val then (10, zeroO, s.nx)
  else if s.nx.nx.nx.e ≠ 0 then (s.nx.nx.nx.e, zeroO, s.nx.nx.nx)
  else if (takeV s.nx.nx.nx).1 ≠ 0 then ((takeV s.nx.nx.nx).1, zeroO, (takeV s.nx.nx.nx).2.2)
  else intoV { zeroO with dot := ⟨s.nx.val, s.nx.nx.val⟩, deps := (takeV s.nx.nx.nx).2.1, kind := s.val } (takeV s.nx.nx.nx).2.2
def takeO (s : Rd) : Int × Opr × Rd :=
  if (takeR s).1 ≠ 0 then ((takeR s).1, zeroO, (takeR s).2.2) else if okOp (takeR s).2.1 = true then takeR s else (10, zeroO, (takeR s).2.2)
def TakeOPost (w : World) (d g : Nat) (x : Int × Opr × Rd) (r : Ending) (w' : World) : Prop :=
  ∃ dA dc gA gc, r = .returned (.tuple #[.agg (x.2.1.cells dA dc gA x.2.1.gone.length), .int .i64 x.1]) ∧ w'.ownsRow w.heap.size 23 2 (.slice dA x.2.1.deps.length dc) x.2.1.deps.length (dots x.2.1.deps) ∧
    w'.ownsRow w.heap.size 32 3 (.slice gA x.2.1.gone.length gc) x.2.1.gone.length (runs x.2.1.gone) ∧ Kept (fun k => k = g) w w' ∧ RdAt w' d g x.2.2
set_option maxRecDepth 100000 in
theorem Clip_any (A : Option Addr) (n c : Nat) (w : World) (hA : A = none ∨ ∃ b, A = some ⟨b, 0, none⟩) (hn : n ≤ c) :
    Calls Try.prog 59 #[.slice A n c] w (fun r w' => r = .returned (.slice A n n) ∧ w = w') := by
  have hn' : (n : Int) ≤ (c : Int) := by omega
  by_cases h0 : n = 0
  · subst h0
    go_enter Try.func59, Try.ntmps59
    go_wp2_with (fail)
    go_ret
    exact ⟨rfl, rfl⟩
  · rcases hA with rfl | ⟨b, rfl⟩
    all_goals
      go_enter Try.func59, Try.ntmps59
      go_wp2_with (fail)
      go_ret
      exact ⟨rfl, rfl⟩
theorem results_two_cells {fn : Func} {p q : Tmp} {ty ty' : TypeId} (h : fn.results = #[.cell p ty, .cell q ty']) (tmps : Array Value) (w : World) (v u : Value) (g g' : Nat)
    (hp : tmps.getD p undef = .pointer (some ⟨g, 0, none⟩)) (hl : (loadVar ty ⟨g, 0, none⟩).run Try.prog w = .ok v w)
    (hq : tmps.getD q undef = .pointer (some ⟨g', 0, none⟩)) (hl' : (loadVar ty' ⟨g', 0, none⟩).run Try.prog w = .ok u w) :
    (results fn tmps).run Try.prog w = .ok (.tuple #[v, u]) w := by
  have hp' : tmps[p]?.getD undef = .pointer (some ⟨g, 0, none⟩) := by simpa using hp
  have hq' : tmps[q]?.getD undef = .pointer (some ⟨g', 0, none⟩) := by simpa using hq
  simp [results, h, hp', hq', asAddr, hl, hl']
theorem load_OP {w : World} {g : Nat} {cs : Array Value} (hb : Box w g 30 cs) (hs : cs.size = 11) : (loadVar 30 ⟨g, 0, none⟩).run Try.prog w = .ok (.agg cs) w := by
  obtain ⟨d, hu, hd⟩ := und_op
  exact run_loadVar_row w g _ _ _ (0, 0) _ hb hu (by cases d <;> simp_all) (by rw [hs]; exact size_op)
set_option maxRecDepth 100000 in
theorem load_ER {w : World} {g : Nat} {e : Int} (hb : Box w g 36 #[.int .i64 e]) : (loadVar 36 ⟨g, 0, none⟩).run Try.prog w = .ok (.int .i64 e) w := by
  have h0 : w.cell? ⟨g, 0, none⟩ = some (.int .i64 e) := (hb.cell 0).trans rfl
  simp [go_sem, h0]
theorem take_results {w : World} {tmps : Array Value} {N M : Nat} {cs : Array Value} {e : Int} (h2 : tmps.getD 2 undef = .pointer (some ⟨N, 0, none⟩)) (h3 : tmps.getD 3 undef = .pointer (some ⟨M, 0, none⟩))
    (hb : Box w N 30 cs) (hs : cs.size = 11) (he : Box w M 36 #[.int .i64 e]) : (results Try.f26 tmps).run Try.prog w = .ok (.tuple #[.agg cs, .int .i64 e]) w :=
  results_two_cells (show Try.f26.results = #[.cell 2 30, .cell 3 36] by kernel_rfl) tmps w _ _ N M h2 (load_OP hb hs) h3 (load_ER he)
set_option maxRecDepth 100000 in
theorem take_panics {R : Ending → World → Prop} {W : World} {tmps : Array Value} {N M : Nat} {cs : Array Value} {x e : Int} (h2 : tmps.getD 2 undef = .pointer (some ⟨N, 0, none⟩)) (h3 : tmps.getD 3 undef = .pointer (some ⟨M, 0, none⟩))
    (hb : Box W N 30 cs) (hs : cs.size = 11) (he : Box W M 36 #[.int .i64 x]) (hne : N ≠ M)
    (hR : ∀ W', Kept (fun k => k = N ∨ k = M) W W' → R (.returned (.tuple #[.agg zeroC, .int .i64 e])) W') :
    bodyPostD Try.prog Try.f26 R (Exit.panic [{ v := .iface 96 (.agg #[.int .i64 e]), recovered := false }]) { tmps := tmps, defers := [{ target := .fn (.func 56) #[.pointer (some ⟨N, 0, none⟩), .pointer (some ⟨M, 0, none⟩)], args := #[] }] } W := by
  refine leaves_cons (f := 56) (args := #[.pointer (some ⟨N, 0, none⟩), .pointer (some ⟨M, 0, none⟩)]) (by simp) (by simp [go_sem]) ?_
  refine (catch_panicking N M cs x e [] W hb hs he hne).mono ?_
  rintro r u' w' ⟨rfl, rfl, hb', he', hk⟩
  exact ⟨_, take_results h2 h3 hb' rfl he', hR w' hk⟩
set_option maxRecDepth 100000 in
theorem take_returns {R : Ending → World → Prop} {W : World} {tmps : Array Value} {N M : Nat} {cs : Array Value} {e : Int} (h2 : tmps.getD 2 undef = .pointer (some ⟨N, 0, none⟩)) (h3 : tmps.getD 3 undef = .pointer (some ⟨M, 0, none⟩))
    (hb : Box W N 30 cs) (hs : cs.size = 11) (he : Box W M 36 #[.int .i64 e]) (hR : R (.returned (.tuple #[.agg cs, .int .i64 e])) W) :
    bodyPostD Try.prog Try.f26 R Exit.ret { tmps := tmps, defers := [{ target := .fn (.func 56) #[.pointer (some ⟨N, 0, none⟩), .pointer (some ⟨M, 0, none⟩)], args := #[] }] } W := by
  refine leaves_cons (f := 56) (args := #[.pointer (some ⟨N, 0, none⟩), .pointer (some ⟨M, 0, none⟩)]) (by simp) (by simp [go_sem]) ?_
  refine (catch_idle N M W).mono ?_
  rintro r u' w' ⟨rfl, rfl, rfl⟩
  exact ⟨_, take_results h2 h3 hb hs he, hR⟩
end Go.Proofs.Ytnlklhlnnoihiaa
