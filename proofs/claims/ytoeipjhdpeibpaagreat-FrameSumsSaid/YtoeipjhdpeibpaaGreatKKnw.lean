/- hearsaylaw10.known walked: it answers true. No condition. -/
import Derived.Test.YtoeipjhdpeibpaaGreatKSam
import Derived.Test.YtoeipjhdpeibpaaGreatKDec
import Derived.Lib.SlBytesConst
namespace Go.Proofs.YtoeipjhdpeibpaaGreat
open Go Go.RowKit

def kDig : List Int := [49, 50, 51, 52, 53, 54, 55, 56, 57]
theorem kDig_sum : sumC kDig = 3421780262 := by kernel_rfl
theorem kDig_byte : isByte kDig := by intro b hb; simp [kDig] at hb; omega
theorem kDig_at (w : World) (s : Nat × Nat) : BytesAt (w.alloc (.cells #[.int .u8 49, .int .u8 50, .int .u8 51, .int .u8 52, .int .u8 53, .int .u8 54, .int .u8 55, .int .u8 56, .int .u8 57] 5 s)) (some ⟨w.heap.size, 0, none⟩) kDig := by
  intro k hk
  refine ⟨_, rfl, ?_⟩
  have e : (#[.int .u8 49, .int .u8 50, .int .u8 51, .int .u8 52, .int .u8 53, .int .u8 54, .int .u8 55, .int .u8 56, .int .u8 57] : Array Value).toList = bys kDig := rfl
  rw [add_none, cell_of_row _ w.heap.size k _ _ _ (heap_alloc_new w _), ← Array.getElem?_toList, e]
  simp [bys, hk]
theorem setRow_newF (W : World) (old cs : Array Value) (T : TypeId) : (W.alloc (.cells old T)).setRow W.heap.size cs = W.alloc (.cells cs T) := by
  unfold World.setRow World.alloc
  congr 1
  refine Array.ext_getElem? fun i => ?_
  rw [Array.getElem?_modify, Array.getElem?_push, Array.getElem?_push]
  by_cases h : i = W.heap.size
  · subst h; simp
  · have h' : ¬ W.heap.size = i := fun e => h e.symm
    simp [h, h']
theorem wpList_store_newF {ops : Array Oper} {rest : List Oper} {o : Oper} {a : Act} {w : World} {Q : Exit → Act → World → Prop} {T : TypeId} {s : Nat} (hT : (Tryz.prog.info? T).map (·.size) = some s) (hgd : o.guard = none) (x y : Operand) (ho : o.op = .store T x y) (W0 : World) (cs : Array Value) (hx : a.eval x = .pointer (some ⟨W0.heap.size, 0, none⟩)) (hy : a.eval y = .agg cs) (old : Array Value) (hw : w = W0.alloc (.cells old T))
    (hs : cs.size = s) (hold : old.size = s) (h1 : cs.all (·.oneCell') = true) (h : wpList Tryz.prog ops Q rest (a.put o.dst undef) (W0.alloc (.cells cs T))) : wpList Tryz.prog ops Q (o :: rest) a w := by
  subst hw
  refine wpList_store_row hgd _ x y ho W0.heap.size cs hx hy T old (Box.new W0 _ old) (by rw [hs]; exact hT) (by rw [hs, hold]) h1 ?_
  rw [setRow_newF]
  exact h
theorem held_takeG10 {P : Program} {ops : Array Oper} {md : Region.Mode} {Q : Exit → Act → World → Prop} {S : World → Prop} {i : Nat} {oi : Oper} {v : Value} {fuel : Nat} {listed : Array Bool} {a : Act} {w : World} (t : Tmp) (hi : ops[i]? = some oi) (hd : oi.dst = some t)
    (hs : Region.noSelect ops = true) (hf : Region.free md ops listed i = true) (hr : (Region.ready md ops listed).contains i = true)
    (hQ : ∀ c a w, Q (.panic c) (a.put (some t) v) w → Q (.panic c) a w) (hg : Region.wanted oi (yielded ops a.tmps) = true) (hS : S w) (hy : ∀ w, S w → (execOp a.eval oi).run P w = .ok (.value v) w)
    (h : wpAnyH P md ops Q S fuel (listed.setIfInBounds i true) { a with tmps := a.tmps.setIfInBounds t v } w) : wpAnyH P md ops Q S (fuel + 1) listed a w :=
  wpAnyH_take hi hs hf hr (by rw [hd]; exact hQ) (.inl ⟨hg, hy⟩) hS (by rw [hd]; exact h)
theorem run_load_fr (op : Oper) (a : Act) (w : World) (x : Operand) (ho : op.op = .load 39 x) (g : Nat) (hx : a.eval x = .pointer (some ⟨g, 0, none⟩)) (t : TypeId) (cs : Array Value) (hs : cs.size = 17) (hg : Box w g t cs) :
    (execOp a.eval op).run Tryz.prog w = .ok (.value (.agg cs)) w := by
  have hc : w.rangeAt g 0 cs.toList := fun j v hj => by rw [Nat.zero_add, hg.cell j]; simpa using hj
  have := run_loadVar_mid (P := Tryz.prog) w g 0 39 cs.toList _ hc und_fr rfl (by rw [Array.length_toList, hs]; exact size_fr)
  rw [Array.toArray_toList] at this
  unfold execOp
  simp only [ho, hx, Instr.loadAt, Instr.sureAddr, Sem.run_bind, Sem.run_pure, Result.andThen_ok, this]
set_option maxRecDepth 100000 in
set_option maxHeartbeats 8000000 in
theorem Known10_any (w : World) : Calls Tryz.prog 4 #[] w (SamePost w true) := by
  go_enter Tryz.func4, Tryz.ntmps4
  go_wp2_with (fail)
  refine (Ex_any w).mono ?_
  rintro r w1 ⟨g1, rfl, hd1, hk1⟩
  have HEN := Lib.hid (Encode_ex (some ⟨g1, 0, none⟩) 1 w1 hd1)
  have HK1 := Lib.hid hk1
  clear hd1 hk1
  go_wp2_with (fail)
  refine HEN.out.mono ?_
  rintro r w2 ⟨B, k, rfl, ho2, hk2⟩
  have HKQ := Lib.hid (HK1.out.trans hk2 fun _ _ e => e)
  have h19 : 19 ≤ k := (own_caps ho2).1
  obtain ⟨gb, rfl, -, -, -⟩ := own_cells ho2 (by decide)
  have HB2 := Lib.hid (show BytesAt w2 (some ⟨gb, 0, none⟩) exB from BytesAt.of_own ho2)
  have HDE := Lib.hid (Decode_ex gb k h19 w2 HB2.out)
  clear ho2 hk2 HEN HK1
  go_wp2_with (fail)
  refine HDE.out.mono ?_
  rintro r w3 ⟨A3, c3, rfl, hd3, hk3⟩
  have HB3 := Lib.hid (HB2.out.fresh hk3)
  have HD3 := Lib.hid hd3
  have HK3 := Lib.hid (HKQ.out.trans hk3 fun _ _ e => e)
  have hz3 : (exC A3 c3).size = 17 := rfl
  have ho3 := fr_one A3 c3
  obtain ⟨f3, hf3⟩ : ∃ f3, exC A3 c3 = f3 := ⟨_, rfl⟩
  have HF3 := Lib.hid hf3
  rw [hf3] at hz3 ho3 ⊢
  clear hd3 hk3 hf3 HB2 HKQ HDE
  go_upto_region 3 with (refine wpList_store_newF size_fr rfl _ _ rfl w3 f3 rfl rfl frZ rfl hz3 rfl ho3 ?_; refine Hid.out ?_)
  refine Lib.hid ?_
  have hk4 := (Kept.refl (fun _ => False) w3).alloc (.cells f3 39)
  have HX4 := Lib.hid (Box.new w3 39 f3)
  generalize w3.alloc (.cells f3 39) = w4 at hk4 HX4 ⊢
  obtain ⟨gx, hgx⟩ : ∃ gx, w3.heap.size = gx := ⟨_, rfl⟩
  rw [hgx] at HX4 ⊢
  have HB4 := Lib.hid (HB3.out.fresh hk4)
  have HD4 := Lib.hid (HD3.out.fresh hk4)
  have HK4 := Lib.hid (HK3.out.trans hk4 fun _ _ e => e)
  clear hgx hk4 hz3 ho3 HB3 HD3 HK3
  go_upto_region 3 with (fail)
  go_wp2_with (fail)
  refine (Decode_nil w4).mono ?_
  rintro r w5 ⟨rfl, hk5⟩
  have HB5 := Lib.hid (HB4.out.fresh hk5)
  have HD5 := Lib.hid (HD4.out.fresh hk5)
  have HX5 := Lib.hid (HX4.out.kept hk5 id)
  have HK5 := Lib.hid (HK4.out.trans hk5 fun _ _ e => e)
  clear hk5 HB4 HD4 HX4 HK4
  go_upto_region 4 with (refine wpList_store_newF size_fr rfl _ _ rfl w5 frZ rfl rfl frZ rfl rfl rfl (by kernel_rfl) ?_; refine Hid.out ?_)
  refine Lib.hid ?_
  have hk6 := (Kept.refl (fun _ => False) w5).alloc (.cells frZ 39)
  generalize w5.alloc (.cells frZ 39) = w6 at hk6 ⊢
  generalize w5.heap.size = gz
  have HB := Lib.hid (HB5.out.fresh hk6)
  have HD := Lib.hid (HD5.out.fresh hk6)
  have HX := Lib.hid (HX5.out.kept hk6 id)
  have HK := Lib.hid (HK5.out.trans hk6 fun _ _ e => e)
  clear hk6 HB5 HD5 HX5 HK5
  go_upto_region 4 with (fail)
  have hcv := fun (W : World) (C : Array Value) (n c : Nat) => Lib.run_convert_bytes_const (P := Tryz.prog) W 22 5 C n c Tryz.underlying22 Tryz.underlying5
  refine wp_region_held_drew (S := fun Wz => Kept (fun _ => False) w6 Wz) (by kernel_rfl) (Kept.refl _ _).drew fun hS => ?_
  generalize World.drew _ = W0 at hS ⊢
  refine held_one (i := 0) (by kernel_rfl) rfl fun K hK => ?_
  go_wp2_with (fail)
  refine hK.out _ _ (hS.alloc _) fun _ => ?_
  clear hK K
  refine held_one (i := 1) (by kernel_rfl) rfl fun K hK => ?_
  go_wp2_with (fail)
  refine hK.out _ _ (hS.alloc _) fun _ => ?_
  clear hK K
  have HDG := Lib.hid (kDig_at W0 (9, 10))
  have hS1 := hS.alloc (.cells #[.int .u8 49, .int .u8 50, .int .u8 51, .int .u8 52, .int .u8 53, .int .u8 54, .int .u8 55, .int .u8 56, .int .u8 57] 5 (9, 10))
  generalize W0.alloc (.cells #[.int .u8 49, .int .u8 50, .int .u8 51, .int .u8 52, .int .u8 53, .int .u8 54, .int .u8 55, .int .u8 56, .int .u8 57] 5 (9, 10)) = W1 at HDG hS1 ⊢
  generalize W0.heap.size = gd at HDG ⊢
  clear hS hcv
  refine held_one (i := 2) (by kernel_rfl) rfl fun K hK => ?_
  go_wp2_with (fail)
  refine (show Calls Tryz.prog 5 #[.slice (some ⟨gd, 0, none⟩) 9 9] W1 (fun r w' => r = .returned (.int .u32 3421780262) ∧ Kept (fun _ => False) W1 w') from (by have := Sum_any (some ⟨gd, 0, none⟩) kDig 9 W1 HDG.out kDig_byte (by decide); unfold SumPost at this; rw [kDig_sum] at this; exact this)).mono ?_
  rintro r W2 ⟨rfl, hq⟩
  go_wp2_with (fail)
  refine hK.out _ _ (hS1.trans hq fun _ _ e => e) fun _ => ?_
  have hS2 := hS1.trans hq fun _ _ e => e
  clear hK K hq hS1
  clear HDG
  refine held_one (i := 3) (by kernel_rfl) rfl fun K hK => ?_
  go_wp2_with (fail)
  refine hK.out _ _ hS2 fun _ => ?_
  clear hK K
  refine held_one (i := 4) (by kernel_rfl) rfl fun K hK => ?_
  go_wp2_with (fail)
  refine hK.out _ _ hS2 fun _ => ?_
  clear hK K
  refine held_one (i := 5) (by kernel_rfl) rfl fun K hK => ?_
  go_wp2_with (fail)
  refine (Ex_any _).mono ?_
  rintro r W3 ⟨ge, rfl, hde, hq⟩
  go_wp2_with (fail)
  refine hK.out _ _ (hS2.trans hq fun _ _ e => e) fun _ => ?_
  have hS3 := hS2.trans hq fun _ _ e => e
  clear hK K hq hS2
  refine held_one (i := 6) (by kernel_rfl) rfl fun K hK => ?_
  go_wp2_with (fail)
  refine (Check_ex (some ⟨ge, 0, none⟩) 1 _ hde).mono ?_
  rintro r W4 ⟨rfl, hq⟩
  go_wp2_with (fail)
  refine hK.out _ _ (hS3.trans hq fun _ _ e => e) fun _ => ?_
  have hS4 := hS3.trans hq fun _ _ e => e
  clear hK K hq hS3
  clear hde
  refine held_one (i := 7) (by kernel_rfl) rfl fun K hK => ?_
  go_wp2_with (fail)
  refine hK.out _ _ hS4 fun _ => ?_
  clear hK K
  refine held_one (i := 8) (by kernel_rfl) rfl fun K hK => ?_
  go_wp2_with (fail)
  refine hK.out _ _ hS4 fun _ => ?_
  clear hK K
  refine held_one (i := 9) (by kernel_rfl) rfl fun K hK => ?_
  go_wp2_with (fail)
  refine hK.out _ _ hS4 fun _ => ?_
  clear hK K
  refine held_one (i := 10) (by kernel_rfl) rfl fun K hK => ?_
  go_wp2_with (fail)
  refine hK.out _ _ hS4 fun _ => ?_
  clear hK K
  refine held_one (i := 11) (by kernel_rfl) rfl fun K hK => ?_
  go_wp2_with (fail)
  change Calls _ _ #[.agg frZ] _ _
  refine (Check_zero _).mono ?_
  rintro r W5 ⟨rfl, hq⟩
  go_wp2_with (fail)
  refine hK.out _ _ (hS4.trans hq fun _ _ e => e) fun _ => ?_
  have hS5 := hS4.trans hq fun _ _ e => e
  clear hK K hq hS4
  refine held_one (i := 12) (by kernel_rfl) rfl fun K hK => ?_
  go_wp2_with (fail)
  refine hK.out _ _ hS5 fun _ => ?_
  clear hK K
  refine held_one (i := 13) (by kernel_rfl) rfl fun K hK => ?_
  go_wp2_with (fail)
  refine hK.out _ _ hS5 fun _ => ?_
  clear hK K
  refine held_one (i := 14) (by kernel_rfl) rfl fun K hK => ?_
  go_wp2_with (fail)
  refine hK.out _ _ hS5 fun _ => ?_
  clear hK K
  refine held_one (i := 15) (by kernel_rfl) rfl fun K hK => ?_
  go_wp2_with (fail)
  refine hK.out _ _ hS5 fun _ => ?_
  clear hK K
  refine held_one (i := 16) (by kernel_rfl) rfl fun K hK => ?_
  go_wp2_with (fail)
  refine hK.out _ _ hS5 fun _ => ?_
  clear hK K
  refine held_one (i := 17) (by kernel_rfl) rfl fun K hK => ?_
  go_wp2_with (fail)
  refine hK.out _ _ hS5 fun _ => ?_
  clear hK K
  refine held_one (i := 18) (by kernel_rfl) rfl fun K hK => ?_
  go_wp2_with (fail)
  refine hK.out _ _ hS5 fun _ => ?_
  clear hK K
  refine held_one (i := 19) (by kernel_rfl) rfl fun K hK => ?_
  go_wp2_with (fail)
  refine hK.out _ _ hS5 fun _ => ?_
  clear hK K
  refine held_one (i := 20) (by kernel_rfl) rfl fun K hK => ?_
  go_wp2_with (fail)
  refine hK.out _ _ hS5 fun _ => ?_
  clear hK K
  refine held_one (i := 21) (by kernel_rfl) rfl fun K hK => ?_
  go_wp2_with (fail)
  refine hK.out _ _ hS5 fun _ => ?_
  clear hK K
  refine held_one (i := 22) (by kernel_rfl) rfl fun K hK => ?_
  go_wp2_with (fail)
  refine hK.out _ _ hS5 fun _ => ?_
  clear hK K
  refine held_one (i := 23) (by kernel_rfl) rfl fun K hK => ?_
  go_wp2_with (fail)
  refine hK.out _ _ hS5 fun _ => ?_
  clear hK K
  refine held_one (i := 24) (by kernel_rfl) rfl fun K hK => ?_
  go_wp2_with (fail)
  refine hK.out _ _ hS5 fun _ => ?_
  clear hK K
  refine held_one (i := 25) (by kernel_rfl) rfl fun K hK => ?_
  go_wp2_with (fail)
  refine hK.out _ _ hS5 fun _ => ?_
  clear hK K
  refine held_one (i := 26) (by kernel_rfl) rfl fun K hK => ?_
  have q : World.cell? _ ⟨gb, 0, none⟩ = some (.int .u8 11) := (by obtain ⟨ad, e1, e2⟩ := HB.out.fresh hS5 0 (by decide); injection e1 with e1; subst e1; rw [add_none] at e2; exact e2)
  go_wp2_with (fail)
  refine hK.out _ _ hS5 fun _ => ?_
  clear hK K
  refine held_one (i := 27) (by kernel_rfl) rfl fun K hK => ?_
  go_wp2_with (fail)
  refine hK.out _ _ hS5 fun _ => ?_
  clear hK K
  refine held_one (i := 28) (by kernel_rfl) rfl fun K hK => ?_
  go_wp2_with (fail)
  refine hK.out _ _ hS5 fun _ => ?_
  clear hK K
  refine held_one (i := 29) (by kernel_rfl) rfl fun K hK => ?_
  go_wp2_with (fail)
  refine hK.out _ _ hS5 fun _ => ?_
  clear hK K
  refine held_one (i := 30) (by kernel_rfl) rfl fun K hK => ?_
  go_wp2_with (fail)
  refine hK.out _ _ hS5 fun _ => ?_
  clear hK K
  refine held_one (i := 31) (by kernel_rfl) rfl fun K hK => ?_
  go_wp2_with (fail)
  refine hK.out _ _ hS5 fun _ => ?_
  clear hK K
  refine held_one (i := 32) (by kernel_rfl) rfl fun K hK => ?_
  have q : World.cell? _ ⟨gb, 4, none⟩ = some (.int .u8 1) := (by obtain ⟨ad, e1, e2⟩ := HB.out.fresh hS5 4 (by decide); injection e1 with e1; subst e1; rw [add_none] at e2; exact e2)
  go_wp2_with (fail)
  refine hK.out _ _ hS5 fun _ => ?_
  clear hK K
  refine held_one (i := 33) (by kernel_rfl) rfl fun K hK => ?_
  go_wp2_with (fail)
  refine hK.out _ _ hS5 fun _ => ?_
  clear hK K
  refine held_one (i := 34) (by kernel_rfl) rfl fun K hK => ?_
  go_wp2_with (fail)
  refine hK.out _ _ hS5 fun _ => ?_
  clear hK K
  refine held_one (i := 35) (by kernel_rfl) rfl fun K hK => ?_
  go_wp2_with (fail)
  refine hK.out _ _ hS5 fun _ => ?_
  clear hK K
  refine held_one (i := 36) (by kernel_rfl) rfl fun K hK => ?_
  go_wp2_with (fail)
  refine hK.out _ _ hS5 fun _ => ?_
  clear hK K
  refine held_one (i := 37) (by kernel_rfl) rfl fun K hK => ?_
  go_wp2_with (fail)
  refine hK.out _ _ hS5 fun _ => ?_
  clear hK K
  refine held_one (i := 38) (by kernel_rfl) rfl fun K hK => ?_
  have q : World.cell? _ ⟨gb, 14, none⟩ = some (.int .u8 0) := (by obtain ⟨ad, e1, e2⟩ := HB.out.fresh hS5 14 (by decide); injection e1 with e1; subst e1; rw [add_none] at e2; exact e2)
  go_wp2_with (fail)
  refine hK.out _ _ hS5 fun _ => ?_
  clear hK K
  refine held_one (i := 39) (by kernel_rfl) rfl fun K hK => ?_
  go_wp2_with (fail)
  refine hK.out _ _ hS5 fun _ => ?_
  clear hK K
  refine held_one (i := 40) (by kernel_rfl) rfl fun K hK => ?_
  go_wp2_with (fail)
  refine hK.out _ _ hS5 fun _ => ?_
  clear hK K
  refine held_one (i := 41) (by kernel_rfl) rfl fun K hK => ?_
  go_wp2_with (fail)
  refine hK.out _ _ hS5 fun _ => ?_
  clear hK K
  refine held_one (i := 42) (by kernel_rfl) rfl fun K hK => ?_
  go_wp2_with (fail)
  refine hK.out _ _ hS5 fun _ => ?_
  clear hK K
  refine held_one (i := 43) (by kernel_rfl) rfl fun K hK => ?_
  go_wp2_with (fail)
  refine hK.out _ _ hS5 fun _ => ?_
  clear hK K
  refine held_one (i := 44) (by kernel_rfl) rfl fun K hK => ?_
  go_wp2_with (fail)
  refine hK.out _ _ hS5 fun _ => ?_
  clear hK K
  refine held_one (i := 45) (by kernel_rfl) rfl fun K hK => ?_
  go_wp2_with (fail)
  refine hK.out _ _ hS5 fun _ => ?_
  clear hK K
  have HZ3 := Lib.hid (show f3.size = 17 by rw [← HF3.out]; rfl)
  refine held_takeG10 67 (i := 46) (v := .agg f3) rfl rfl (by kernel_rfl) (by kernel_rfl) (by kernel_rfl) (fun _ _ _ h => h) (by rfl) hS5 (fun Wz hW => run_load_fr _ _ _ _ rfl gx rfl _ f3 HZ3.out (HX.out.kept hW id)) ?_
  simp only [List.setIfInBounds_toArray, List.set_cons_zero, List.set_cons_succ]
  refine held_one (i := 47) (by kernel_rfl) rfl fun K hK => ?_
  go_wp2_with (fail)
  refine (Ex_any _).mono ?_
  rintro r W6 ⟨ge, rfl, hde, hq⟩
  go_wp2_with (fail)
  refine hK.out _ _ (hS5.trans hq fun _ _ e => e) fun _ => ?_
  have hS6 := hS5.trans hq fun _ _ e => e
  clear hK K hq hS5
  have HSA := Lib.hid (same10_ex A3 (some ⟨ge, 0, none⟩) c3 1 _ (HD.out.fresh hS6) hde)
  rw [HF3.out] at HSA
  unfold SamePost at HSA
  refine held_one (i := 48) (by kernel_rfl) rfl fun K hK => ?_
  go_wp2_with (fail)
  refine (HSA.out).mono ?_
  rintro r W7 ⟨rfl, hq⟩
  go_wp2_with (fail)
  refine hK.out _ _ (hS6.trans hq fun _ _ e => e) fun _ => ?_
  have hS7 := hS6.trans hq fun _ _ e => e
  clear hK K hq hS6
  clear HSA hde
  refine held_one (i := 49) (by kernel_rfl) rfl fun K hK => ?_
  go_wp2_with (fail)
  refine hK.out _ _ hS7 fun _ => ?_
  clear hK K
  refine held_one (i := 50) (by kernel_rfl) rfl fun K hK => ?_
  go_wp2_with (fail)
  refine hK.out _ _ hS7 fun _ => ?_
  clear hK K
  refine held_one (i := 51) (by kernel_rfl) rfl fun K hK => ?_
  go_wp2_with (fail)
  refine hK.out _ _ hS7 fun _ => ?_
  clear hK K
  refine held_one (i := 52) (by kernel_rfl) rfl fun K hK => ?_
  go_wp2_with (fail)
  refine hK.out _ _ hS7 fun _ => ?_
  clear hK K
  refine held_one (i := 53) (by kernel_rfl) rfl fun K hK => ?_
  go_wp2_with (fail)
  refine hK.out _ _ hS7 fun _ => ?_
  clear hK K
  refine held_one (i := 54) (by kernel_rfl) rfl fun K hK => ?_
  go_wp2_with (fail)
  refine hK.out _ _ hS7 fun _ => ?_
  clear hK K
  refine wpAnyH_done (by kernel_rfl) ?_ _
  have HKF := Lib.hid (HK.out.trans hS7 fun _ _ e => e)
  clear hS7 HB HD HX HK HF3 HZ3
  go_wp2_with (fail)
  go_ret
  exact ⟨rfl, HKF.out⟩
end Go.Proofs.YtoeipjhdpeibpaaGreat
