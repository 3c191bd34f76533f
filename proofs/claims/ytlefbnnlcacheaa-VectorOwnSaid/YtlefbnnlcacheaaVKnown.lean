/- The walk of known: it returns true, and leaves what was there as it was. No condition. -/
import Derived.Test.YtlefbnnlcacheaaVRoom
namespace Go.Proofs.Ytlefbnnlcacheaa
open Go.RowKit

theorem DotsAt.new (w : World) (l : List Dt) (T : TypeId) (cs : Array Value) (h : cs.toList = dots l) : DotsAt (w.alloc (.cells cs T)) (some ⟨w.heap.size, 0, none⟩) l := fun k hk => by
  obtain ⟨g0, g1⟩ := dots_get l k hk
  refine ⟨_, rfl, ?_, ?_⟩
  · rw [add_none, (Box.new w T cs).cell, ← g0, ← h]; simp
  · rw [add_none, (Box.new w T cs).cell, ← g1, ← h]; simp
theorem BytesAt.new (w : World) (l : List Int) (T : TypeId) (cs : Array Value) (h : cs.toList = bys l) : BytesAt (w.alloc (.cells cs T)) (some ⟨w.heap.size, 0, none⟩) l := fun k hk => by
  have g0 := bys_get l k hk
  refine ⟨_, rfl, ?_⟩
  rw [add_none, (Box.new w T cs).cell, ← g0, ← h]; simp
theorem WriterAt.new (w : World) : WriterAt (w.alloc (.cells #[.slice none 0 0, .int .i64 0] 46)) w.heap.size w.heap.size (.slice none 0 0) [] 0 :=
  ⟨Box.new w _ _, World.ownsRow_nil _ _ _ _, Nat.le_refl _⟩
def kA : List Dt := [⟨1, 5⟩, ⟨3, 2⟩]
def kB : List Dt := [⟨2, 1⟩, ⟨3, 4⟩]
def kD : List Int := [2, 1, 5, 3, 2]
/-- what known has made -/
structure KAt (w : World) (A B : Option Addr) (wr : World) : Prop where
  a : DotsAt wr A kA
  b : DotsAt wr B kB
  k : Kept (fun _ => False) w wr
theorem KAt.fresh {w w1 w2 : World} {A B : Option Addr} (h : KAt w A B w1) (hk : Kept (fun _ => False) w1 w2) : KAt w A B w2 := ⟨h.a.fresh hk, h.b.fresh hk, h.k.trans hk fun _ _ e => e⟩

theorem DotsAt.lt {w : World} {A : Option Addr} {l : List Dt} (h : DotsAt w A l) (hne : 0 < l.length) : ∀ a, A = some a → a.block < w.heap.size := by
  rintro a rfl
  obtain ⟨ad, e, x0, _⟩ := h 0 hne
  injection e with e
  subst e
  have := World.block_lt_of_cell? w _ x0
  have hb : (a.add (0 * 2)).block = a.block := by unfold Addr.add; split <;> rfl
  rwa [hb] at this
theorem KAt.kept {S : Nat → Prop} {w w1 w2 : World} {A B : Option Addr} (h : KAt w A B w1) (hk : Kept S w1 w2) (hS : ∀ k, S k → w1.heap.size ≤ k ∨ ∃ w0, KAt w A B w0 ∧ w0.heap.size ≤ k) : KAt w A B w2 := by
  have hA : ∀ l : List Dt, 0 < l.length → ∀ C, DotsAt w1 C l → (∀ w0, KAt w A B w0 → DotsAt w0 C l) → ∀ a, C = some a → ¬ S a.block := fun l hl C hd h0 a ha hs => by
    rcases hS _ hs with h1 | ⟨w0, k0, h1⟩
    · have := hd.lt hl a ha; omega
    · have := (h0 w0 k0).lt hl a ha; omega
  refine ⟨h.a.kept hk (hA kA (by decide) A h.a fun _ k => k.a), h.b.kept hk (hA kB (by decide) B h.b fun _ k => k.b), h.k.trans hk fun k hlt e => ?_⟩
  rcases hS k e with h1 | ⟨w0, k0, h1⟩
  · have := h.k.size; omega
  · have := k0.k.size; omega
/-- what known has made, later -/
structure KLate (w : World) (A B A8 : Option Addr) (g : Nat) (sv : Value) (wr : World) : Prop where
  k : KAt w A B wr
  w : WriterAt wr g g sv kD 0
  l : DotsAt wr A8 kA
theorem KLate.fresh {w w1 w2 : World} {A B A8 : Option Addr} {g : Nat} {sv : Value} (h : KLate w A B A8 g sv w1) (hk : Kept (fun _ => False) w1 w2) : KLate w A B A8 g sv w2 := ⟨h.k.fresh hk, h.w.fresh hk, h.l.fresh hk⟩
theorem kAdd1 : addV kA ⟨2, 1⟩ = [⟨1, 5⟩, ⟨2, 1⟩, ⟨3, 2⟩] ∧ addE kA ⟨2, 1⟩ = 0 := by decide +kernel
theorem kAdd2 : addV kA ⟨1, 5⟩ = [] ∧ addE kA ⟨1, 5⟩ = 9 := by decide +kernel
theorem kChk : checkV kA = 0 := by decide +kernel
theorem kGet : getV kA 3 = 2 := by decide +kernel
theorem kHas : hasV kA ⟨1, 5⟩ = true := by decide +kernel
theorem kCov : coversR (says kA) (says kB) = false := by decide +kernel
def kM : List Dt := [⟨1, 5⟩, ⟨2, 1⟩, ⟨3, 4⟩]
def kL : List Dt := [⟨3, 2⟩]
theorem kMerge : vec (maxR (says kA) (says kB)) = kM := by decide +kernel
theorem kLeast : vec (minR (says kA) (says kB)) = kL := by decide +kernel
theorem kSum : sumR (says kA) 17 = 7 := by decide +kernel
theorem kVec : vec (says [⟨3, 2⟩, ⟨1, 5⟩]) = kA := by decide +kernel
theorem kPut : puts [] 0 (vnums (vec (says [⟨3, 2⟩, ⟨1, 5⟩]))) = kD := by
  rw [kVec]
  simp [puts, vnums, dotNums, kA, kD, enc_small]
theorem kTake : takeV ⟨kD, 0⟩ = (0, kA, ⟨[], 0⟩) := by rfl
theorem kByte : isByte kD := by
  intro b hb
  simp [kD] at hb
  omega

set_option maxRecDepth 100000 in
set_option maxHeartbeats 3200000 in
theorem known_any (w : World) : Calls Try.prog 9 #[] w (BoolPost w true) := by
  have h0 : KAt w (some ⟨w.heap.size, 0, none⟩) (some ⟨w.heap.size + 1, 0, none⟩) ((w.alloc (.cells #[.int .i64 1, .int .i64 5, .int .i64 3, .int .i64 2] 25)).alloc (.cells #[.int .i64 2, .int .i64 1, .int .i64 3, .int .i64 4] 25)) := by
    refine ⟨(DotsAt.new w kA _ _ rfl).fresh ((Kept.refl _ _).alloc _), ?_, ((Kept.refl _ _).alloc _).alloc _⟩
    have := DotsAt.new (w.alloc (.cells #[.int .i64 1, .int .i64 5, .int .i64 3, .int .i64 2] 25)) kB 25 #[.int .i64 2, .int .i64 1, .int .i64 3, .int .i64 4] rfl
    simpa using this
  have H0 := Lib.hid h0
  clear h0
  go_enter Try.func9, Try.ntmps9
  go_wp2_with (fail)
  generalize (w.alloc (.cells #[.int .i64 1, .int .i64 5, .int .i64 3, .int .i64 2] 25)).alloc (.cells #[.int .i64 2, .int .i64 1, .int .i64 3, .int .i64 4] 25) = W at H0 ⊢
  generalize (some ⟨w.heap.size, 0, none⟩ : Option Addr) = A at H0 ⊢
  generalize (some ⟨w.heap.size + 1, 0, none⟩ : Option Addr) = B at H0 ⊢
  refine (Add_any A kA 2 ⟨2, 1⟩ _ H0.out.a (by decide)).mono ?_
  rw [kAdd1.1, kAdd1.2]
  rintro e w1 ⟨A1, c1, rfl, -, hk⟩
  have H1 := Lib.hid (H0.out.fresh hk)
  clear hk H0
  go_wp2_with (fail)
  refine (Add_any A kA 2 ⟨1, 5⟩ _ H1.out.a (by decide)).mono ?_
  rw [kAdd2.1, kAdd2.2]
  rintro e w2 ⟨A2, c2, rfl, -, hk⟩
  have H2 := Lib.hid (H1.out.fresh hk)
  clear hk H1
  go_wp2_with (fail)
  have HW := Lib.hid (WriterAt.new w2)
  have HKX := Lib.hid ((Kept.refl (fun _ => False) w2).alloc (.cells #[.slice none 0 0, .int .i64 0] 46))
  have H3 := Lib.hid (H2.out.fresh HKX.out)
  have hsz2 := H2.out.k.size
  have hs3 : (w2.alloc (.cells #[.slice none 0 0, .int .i64 0] 46)).heap.size = w2.heap.size + 1 := by simp
  generalize w2.alloc (.cells #[.slice none 0 0, .int .i64 0] 46) = w3 at HW HKX H3 hs3 ⊢
  obtain ⟨g, hg⟩ : ∃ g, w2.heap.size = g := ⟨_, rfl⟩
  have HGE := Lib.hid (show ∀ k, k = g → ∃ w0, KAt w A B w0 ∧ w0.heap.size ≤ k from fun k hk => ⟨w2, H2.out, by omega⟩)
  have HX := Lib.hid (DotsAt.new w3 [⟨3, 2⟩, ⟨1, 5⟩] 25 #[.int .i64 3, .int .i64 2, .int .i64 1, .int .i64 5] rfl)
  have HKY := Lib.hid ((Kept.refl (fun _ => False) w3).alloc (.cells #[.int .i64 3, .int .i64 2, .int .i64 1, .int .i64 5] 25))
  rw [hg] at HW hs3 ⊢
  rw [hs3] at HX
  clear hg hs3 H2 HKX
  go_wp2_with (fail)
  generalize w3.alloc (.cells #[.int .i64 3, .int .i64 2, .int .i64 1, .int .i64 5] 25) = w4 at HX HKY ⊢
  have H4 := Lib.hid (H3.out.fresh HKY.out)
  refine (Put_any g g (.slice none 0 0) [] 0 _ [⟨3, 2⟩, ⟨1, 5⟩] 2 _ (HW.out.fresh HKY.out) HX.out (by decide) (by decide)).mono ?_
  rw [kPut]
  rintro e w5 ⟨rfl, sv, hw, hk, -⟩
  have H5 := Lib.hid (H4.out.kept hk fun k e => .inr (HGE.out k (by rcases e with e | e; exact e; cases e)))
  have HW5 := Lib.hid hw
  clear hw hk H4 HW HX HKY H3 HGE
  go_wp2_with (fail)
  have HX := Lib.hid (BytesAt.new w5 kD 5 #[.int .u8 2, .int .u8 1, .int .u8 5, .int .u8 3, .int .u8 2] rfl)
  have HKY := Lib.hid ((Kept.refl (fun _ => False) w5).alloc (.cells #[.int .u8 2, .int .u8 1, .int .u8 5, .int .u8 3, .int .u8 2] 5))
  generalize w5.alloc (.cells #[.int .u8 2, .int .u8 1, .int .u8 5, .int .u8 3, .int .u8 2] 5) = w6 at HX HKY ⊢
  have H6 := Lib.hid (H5.out.fresh HKY.out)
  have HW6 := Lib.hid (HW5.out.fresh HKY.out)
  refine (Read_any _ kD 5 _ HX.out (fun e => by cases e) (by decide)).mono ?_
  rintro e w7 ⟨d, r, rfl, hr, ⟨hd1, hr1⟩, hk⟩
  have H7 := Lib.hid (H6.out.fresh hk)
  have HW7 := Lib.hid (HW6.out.fresh hk)
  have HR7 := Lib.hid (show RdAt w7 d r ⟨kD, 0⟩ from ⟨hr, kByte⟩)
  have HRS := Lib.hid (show ∃ w0, KAt w A B w0 ∧ WriterAt w0 g g sv kD 0 ∧ w0.heap.size ≤ r from ⟨w6, H6.out, HW6.out, hr1⟩)
  clear hr hd1 hr1 hk H6 HW6 HX HKY H5 HW5
  go_wp2_with (fail)
  refine (Take_any d r ⟨kD, 0⟩ _ HR7.out).mono ?_
  rw [kTake]
  rintro e w8 ⟨A8, c8, rfl, ho, hk, -⟩
  have H8 := Lib.hid (H7.out.kept hk fun k e => .inr (by subst e; obtain ⟨w0, a, _, b⟩ := HRS.out; exact ⟨w0, a, b⟩))
  have HW8 := Lib.hid (HW7.out.kept hk fun k e e' => by subst e'; obtain ⟨w0, _, a, b⟩ := HRS.out; have := (a.own_lt _ e).2; omega)
  have HL8 := Lib.hid (show DotsAt w8 A8 kA from DotsAt.of_own ho)
  clear ho hk H7 HW7 HR7 HRS
  have HZ := Lib.hid (show KLate w A B A8 g sv w8 from ⟨H8.out, HW8.out, HL8.out⟩)
  clear H8 HW8 HL8
  go_wp2_with (fail)
  refine (Check_any A kA 2 _ HZ.out.k.a (by decide)).mono ?_
  rw [kChk]
  rintro e w9 ⟨rfl, hk⟩
  have HZ9 := Lib.hid (HZ.out.fresh hk)
  clear hk HZ
  have HZ := HZ9
  clear HZ9
  go_wp2_with (fail)
  refine (Get_any A kA 2 3 _ HZ.out.k.a (by decide)).mono ?_
  rw [kGet]
  rintro e w10 ⟨rfl, hk⟩
  have HZ10 := Lib.hid (HZ.out.fresh hk)
  clear hk HZ
  have HZ := HZ10
  clear HZ10
  go_wp2_with (fail)
  refine (Has_any A kA 2 ⟨1, 5⟩ _ HZ.out.k.a (by decide)).mono ?_
  rw [kHas]
  rintro e w11 ⟨rfl, hk⟩
  have HZ11 := Lib.hid (HZ.out.fresh hk)
  clear hk HZ
  have HZ := HZ11
  clear HZ11
  go_wp2_with (fail)
  refine (Covers_any A B kA kB 2 2 _ HZ.out.k.a HZ.out.k.b (by decide) (by decide)).mono ?_
  rw [kCov]
  rintro e w12 ⟨rfl, hk⟩
  have HZ12 := Lib.hid (HZ.out.fresh hk)
  clear hk HZ
  have HZ := HZ12
  clear HZ12
  go_wp2_with (fail)
  refine (Merge_any A B kA kB 2 2 _ HZ.out.k.a HZ.out.k.b (by decide) (by decide)).mono ?_
  rw [kMerge]
  rintro e w13 hf
  obtain ⟨Am, cm, rfl, hm, hk⟩ := hf.at
  have HZ13 := Lib.hid (HZ.out.fresh hk)
  have HM := Lib.hid hm
  clear hk HZ hf hm
  have HZ := HZ13
  clear HZ13
  go_wp2_with (fail)
  have HX := Lib.hid (DotsAt.new w13 kM 25 #[.int .i64 1, .int .i64 5, .int .i64 2, .int .i64 1, .int .i64 3, .int .i64 4] rfl)
  have HKX := Lib.hid ((Kept.refl (fun _ => False) w13).alloc (.cells #[.int .i64 1, .int .i64 5, .int .i64 2, .int .i64 1, .int .i64 3, .int .i64 4] 25))
  have HZ14 := Lib.hid (HZ.out.fresh HKX.out)
  refine (Same_any Am _ kM kM cm 3 _ (HM.out.fresh HKX.out) HX.out (by decide)).mono ?_
  rw [decide_eq_true rfl]
  rintro e w14 ⟨rfl, hk⟩
  clear HX HKX HM HZ
  have HZ := Lib.hid (HZ14.out.fresh hk)
  clear hk HZ14
  go_wp2_with (fail)
  refine (Least_any A B kA kB 2 2 _ HZ.out.k.a HZ.out.k.b (by decide) (by decide)).mono ?_
  rw [kLeast]
  rintro e w15 hf
  obtain ⟨Am, cm, rfl, hm, hk⟩ := hf.at
  have HZ15 := Lib.hid (HZ.out.fresh hk)
  have HM := Lib.hid hm
  clear hk HZ hf hm
  have HZ := HZ15
  clear HZ15
  go_wp2_with (fail)
  have HX := Lib.hid (DotsAt.new w15 kL 25 #[.int .i64 3, .int .i64 2] rfl)
  have HKX := Lib.hid ((Kept.refl (fun _ => False) w15).alloc (.cells #[.int .i64 3, .int .i64 2] 25))
  have HZ16 := Lib.hid (HZ.out.fresh HKX.out)
  refine (Same_any Am _ kL kL cm 1 _ (HM.out.fresh HKX.out) HX.out (by decide)).mono ?_
  rw [decide_eq_true rfl]
  rintro e w16 ⟨rfl, hk⟩
  clear HX HKX HM HZ
  have HZ := Lib.hid (HZ16.out.fresh hk)
  clear hk HZ16
  go_wp2_with (fail)
  refine (Sum_any A kA 2 _ HZ.out.k.a (by decide)).mono ?_
  rw [kSum]
  rintro e w17 ⟨rfl, hk⟩
  have HZ17 := Lib.hid (HZ.out.fresh hk)
  clear hk HZ
  have HZ := HZ17
  clear HZ17
  go_wp2_with (fail)
  refine (Data_any g g sv kD 0 _ HZ.out.w (by decide)).mono ?_
  rintro e w18 hf
  obtain ⟨Am, cm, rfl, hm, hk⟩ := hf.at
  have HM := Lib.hid hm
  have HZ1 := Lib.hid (HZ.out.fresh hk)
  clear hk HZ hf hm
  go_wp2_with (fail)
  have HX := Lib.hid (BytesAt.new w18 kD 5 #[.int .u8 2, .int .u8 1, .int .u8 5, .int .u8 3, .int .u8 2] rfl)
  have HKX := Lib.hid ((Kept.refl (fun _ => False) w18).alloc (.cells #[.int .u8 2, .int .u8 1, .int .u8 5, .int .u8 3, .int .u8 2] 5))
  have HZ2 := Lib.hid (HZ1.out.fresh HKX.out)
  refine (bytes_any Am _ kD kD cm 5 _ (HM.out.fresh HKX.out) HX.out (by decide)).mono ?_
  rw [decide_eq_true rfl]
  rintro e w19 ⟨rfl, hk⟩
  clear HX HKX HM HZ1
  have HZ := Lib.hid (HZ2.out.fresh hk)
  clear hk HZ2
  go_wp2_with (fail)
  refine (Same_any A8 A kA kA c8 2 _ HZ.out.l HZ.out.k.a (by decide)).mono ?_
  rw [decide_eq_true rfl]
  rintro e w20 ⟨rfl, hk⟩
  have HF := Lib.hid (HZ.out.fresh hk)
  clear hk HZ
  go_wp2
  go_ret
  exact ⟨rfl, HF.out.k.k⟩
end Go.Proofs.Ytlefbnnlcacheaa
