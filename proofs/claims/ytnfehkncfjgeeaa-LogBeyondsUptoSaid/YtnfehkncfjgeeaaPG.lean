/- The walk of the law's step: one call on a log and on the document's. Conditions: the step lies in memory that is older than the logs; nothing is longer than a million. · The walk of LogPlays: it returns true, whatever the base and the script. Conditions: they lie in memory. -/
import Derived.Test.YtnfehkncfjgeeaaPF
import Derived.Test.YtnfehkncfjgeeaaPE
namespace Go.Proofs.Ytnfehkncfjgeeaa
open Go Go.RowKit

/-- A guarded operation whose guard is met. -/
theorem wpList_unguard {P : Program} {ops : Array Oper} {Q : Exit → Act → World → Prop} {a : Act} {w : World} {rest : List Oper} {o : Oper} (hw : Region.wanted o (yielded ops a.tmps) = true) (h : wpList P ops Q ({ o with guard := none } :: rest) a w) : wpList P ops Q (o :: rest) a w := by
  unfold wpList at h ⊢
  rw [if_pos hw]
  rw [if_pos (by rfl)] at h
  exact h
theorem vec_own_block {A : Option Addr} {n c m d k : Nat} (h : (Value.slice A n c).ownBlock = some k) : (Value.slice A m d).ownBlock = some k := own_block h
theorem at_of {ys zs : List Lop} {l : List Opr} (h : ys.map (·.o) = l) (h' : zs.map (·.o) = l) : zs.map (·.o) = ys.map (·.o) := h'.trans h.symm
theorem small_gs {gs l : List Lop} {b : Bool} {f : Opr → Bool} (h : gs.map (·.o) = if b then (l.map (·.o)).filter f else []) (hs : ∀ x ∈ l, x.o.Small) : (∀ x ∈ gs, x.o.deps.length ≤ 1000000 ∧ x.o.gone.length ≤ 1000000) ∧ gs.length ≤ l.length := by
  cases b with
  | false =>
    have : gs = [] := by simpa using h
    subst this
    exact ⟨fun x hx => absurd hx (by simp), by simp⟩
  | true =>
    have h' : gs.map (·.o) = (l.map (·.o)).filter f := by simpa using h
    refine ⟨fun x hx => ?_, ?_⟩
    · have h1 : x.o ∈ (l.map (·.o)).filter f := by rw [← h']; exact List.mem_map_of_mem hx
      obtain ⟨z, hz, e⟩ := List.mem_map.1 (List.mem_filter.1 h1).1
      rw [← e]
      exact ⟨(hs z hz).dl, (hs z hz).gl⟩
    · have := congrArg List.length h'
      rw [List.length_map] at this
      rw [this]
      refine Nat.le_trans (List.length_filter_le _ _) (by simp)
/-- A step that may be played, its lists as Go has them. -/
structure StepArg (w : World) (s : Stp) : Prop where
  ok : StepOk w s
  nil : s.x.Nil
  nv : s.vA = none → s.vc = 0
set_option maxRecDepth 100000 in
set_option maxHeartbeats 12800000 in
theorem step_any (w W : World) (p : Nat) (L : Lg) (R : RLg) (s : Stp) (h : Both w p L R W) (hs : StepArg w s) (hl : L.ops.length ≤ 201) :
    Calls Try.prog 15 #[.pointer (some ⟨p, 0, none⟩), .agg R.c, .agg s.c] W (StepPost w W p L R (L.d.step s.kind s.x.o s.v)) := by
  obtain ⟨kind, x, vA, vc0, v⟩ := s
  have hk0 : Kept (fun _ => False) W (((W.alloc (.cells R.c 35)).alloc (.cells (Stp.c ⟨kind, x, vA, vc0, v⟩) 47)).alloc (.cells #[.slice none 0 0, .slice none 0 0] 35)) := ((Kept.refl _ _).alloc _).alloc _ |>.alloc _
  have HK0 := Lib.hid hk0
  have HB4 := Lib.hid (((Box.new W 35 R.c).alloc (.cells (Stp.c ⟨kind, x, vA, vc0, v⟩) 47)).alloc (.cells #[.slice none 0 0, .slice none 0 0] 35))
  have HB5 := Lib.hid (((Box.new (W.alloc (.cells R.c 35)) 47 (Stp.c ⟨kind, x, vA, vc0, v⟩)).at_eq (show _ = W.heap.size + 1 by simp)).alloc (.cells #[.slice none 0 0, .slice none 0 0] 35))
  have HB6 := Lib.hid ((Box.new ((W.alloc (.cells R.c 35)).alloc (.cells (Stp.c ⟨kind, x, vA, vc0, v⟩) 47)) 35 #[.slice none 0 0, .slice none 0 0]).at_eq (show _ = W.heap.size + 2 by simp))
  have HH := Lib.hid h
  have HSO := Lib.hid hs.ok
  have HXN := Lib.hid hs.nil
  have HDV := Lib.hid (hs.ok.v.fresh (h.l.k.trans hk0 fun _ _ e => e))
  have HNV := Lib.hid (hs.ok.v.nilness hs.nv)
  have hvl : v.length ≤ 1000000 := hs.ok.vl
  simp only at HDV HNV
  clear hk0 h hs
  obtain ⟨ss, hss⟩ : ∃ ss, Stp.c ⟨kind, x, vA, vc0, v⟩ = ss := ⟨_, rfl⟩
  have HSS := Lib.hid hss
  rw [hss] at HK0 HB4 HB5 HB6 HDV ⊢
  clear hss
  go_enter Try.func15, Try.ntmps15
  go_upto_region 2 with (fail)
  generalize ((W.alloc (.cells R.c 35)).alloc (.cells ss 47)).alloc (.cells #[.slice none 0 0, .slice none 0 0] 35) = X0 at HK0 HB4 HB5 HB6 HDV ⊢
  have c12 : X0.cell? ⟨W.heap.size + 1, 12, none⟩ = some (.slice vA v.length vc0) := by have := HB5.out.cell 12; rw [← HSS.out] at this; exact this
  go_wp2_with (at_builtin; refine wpList_append_copy eltDots rfl _ _ rfl rfl vA v.length vc0 (dots v) rfl HNV.out (dots_len v) HDV.out.cells (dots_one v) (by omega) ?_)
  intro A1 c1 w1 HO1 HK1
  have hs1 := HK1.out.size
  go_wp2_with (at_builtin; refine wpList_append_new eltDots rfl _ _ rfl X0.heap.size _ v.length (dots v) rfl HO1.out 1 1 rfl rfl rfl (by omega) hs1 ?_)
  intro V vc w2 HO2 HK2 HM2
  have hk2 : Kept (fun _ => False) X0 w2 := HK1.out.trans HK2.out fun k hk e => by have := (HO1.out.lt k e).1; omega
  have hb6 := HB6.out.kept hk2 id
  have hst : StAt w W w2.heap.size p L L R ss v.length V vc (v ++ [dotM]) w2 :=
    ⟨(HH.out.l.fresh HK0.out).fresh hk2, (HH.out.r.fresh HK0.out).fresh hk2, HH.out.ap, (HK0.out.trans hk2 fun _ _ e => e).more fun _ _ e => e.elim, fun k e => .inl e, HH.out.l.l.box.lt, HH.out.l.k.size, HB4.out.kept hk2 id, HB5.out.kept hk2 id, hb6,
      by rw [dots_app]; exact own_base HO2.out HK0.out.size, fun k e => (HO2.out.lt k e).2, by have := hb6.lt; omega, Nat.le_refl _, Out.of HH.out.l.l (Nat.le_refl _), ROut.of HH.out.r (Nat.le_refl _)⟩
  have HZ := Lib.hid hst
  obtain ⟨gV, hVA, hcap, -, -, -⟩ := hst.given
  have hlv : v.length ≤ vc := by omega
  subst hVA
  have hwk : Kept (fun _ => False) w w2 := hst.l.k
  have HX := Lib.hid (HSO.out.fresh hwk)
  have HSY := Lib.hid HH.out.says
  have hol : R.ops.length ≤ 201 := by
    have := congrArg List.length HH.out.says.ops
    rw [List.length_map] at this
    rw [this]
    simpa [Lg.d] using hl
  have c12 : w2.cell? ⟨W.heap.size + 1, 12, none⟩ = some (.slice vA v.length vc0) := by have := hst.b5.cell 12; rw [← HSS.out] at this; exact this
  have d0 : w2.cell? ⟨W.heap.size + 1, 0, none⟩ = some (.int .i64 kind) := by have := hst.b5.cell 0; rw [← HSS.out] at this; exact this
  have HC12 := Lib.hid (show ss[12]? = some (.slice vA v.length vc0) by rw [← HSS.out]; rfl)
  obtain ⟨cs, hcs⟩ : ∃ cs, x.c = cs := ⟨_, rfl⟩
  have HCS := Lib.hid hcs
  have HSZ := Lib.hid (show cs.size = 11 by rw [← hcs]; rfl)
  have HRG := Lib.hid (fun (X : World) (hb : Box X (W.heap.size + 1) 47 ss) => show X.rangeAt (W.heap.size + 1) 1 cs.toList by (have hr := step_range (s := ⟨kind, x, vA, vc0, v⟩) (HSS.out ▸ hb); rw [← hcs]; exact hr))
  obtain ⟨m, hm⟩ : ∃ m, w2.heap.size = m := ⟨_, rfl⟩
  have HM := Lib.hid hm
  rw [hm] at HZ
  clear hst hb6 hk2 hwk hcs hm HO1 HK1 hs1 HO2 HK2 HM2 HB4 HB5 HB6 HDV HNV HK0 HH
  go_upto_block 0 with (fail)
  go_cut [10, 11, 12, 13, 14, 15, 16, 17, 18, 19] (fun v10 _ _ _ _ _ _ _ _ _ wx => v10 = .bool true ∧ ∃ (L' : Lg) (R' : RLg), L'.d = L.d.step kind x.o v ∧ RSays R' (L.d.step kind x.o v) ∧ StAt w W m p L L' R' ss v.length (some ⟨gV, 0, none⟩) vc (v ++ [dotM]) wx ∧ Goes W R.oV R'.oV)
  case first =>
    clear c12 hcap
    have c12 : w2.cell? ⟨W.heap.size + 1, 12, none⟩ = some (.slice vA v.length vc0) := (HZ.out.b5.cell 12).trans HC12.out
    by_cases h1 : kind = 1
    · have HP := Lib.hid (show L.d.step kind x.o v = L.d.add x.o by unfold Pl.step; rw [if_pos h1])
      subst h1
      go_wp2_with (first | refine load_step rfl _ rfl (W.heap.size + 1) 1 rfl cs HSZ.out (HRG.out _ HZ.out.b5) ?_)
      have htw := twin_any x w2 HX.out.x HXN.out HX.out.small
      rw [HCS.out] at htw
      refine htw.mono ?_
      rintro e w3 ⟨y, rfl, hty, hk3⟩
      have hk3' : Kept (fun _ => False) w3 (w3.alloc (.cells opZ 45)) := (Kept.refl _ _).alloc _
      have HLT := Lib.hid (show ∀ k, y.dV.ownBlock = some k ∨ y.gV.ownBlock = some k → m ≤ k ∧ k < w3.heap.size from fun k e => by
        rw [← HM.out]
        rcases e with e | e
        · exact hty.d.lt k (vec_own_block e)
        · exact hty.g.lt k (vec_own_block e))
      have HZ3 := Lib.hid (HZ.out.fresh hk3)
      have HT3 := Lib.hid hty
      have HX3 := Lib.hid (HX.out.fresh hk3)
      have HO3 := Lib.hid (Out.of (hi := w3.heap.size) HZ.out.l.l (Nat.le_refl _))
      have HR3 := Lib.hid (ROut.of (hi := w3.heap.size) HZ.out.r (Nat.le_refl _))
      rw [HM.out] at HO3 HR3 HT3
      obtain ⟨ds, hds⟩ : ∃ ds, y.c = ds := ⟨_, rfl⟩
      have HDS := Lib.hid hds
      have HSD := Lib.hid (show ds.size = 11 by rw [← hds]; rfl)
      have HOD := Lib.hid (show ds.all (·.oneCell') = true by rw [← hds]; exact Opr.cells_one ..)
      have HN := Lib.hid (Box.new w3 45 opZ)
      have HKN := Lib.hid hk3'
      rw [hds]
      clear htw hk3 hk3' hty HZ HX HXN hds c12 d0
      go_wp2_with (refine wpList_store_box rfl 45 _ _ rfl w3.heap.size ds rfl rfl 45 opZ HN.out (size_op.trans (by rw [HSD.out])) HSD.out.symm HOD.out ?_)
      intro w4 HB12 hk4
      have hk34 : Kept (fun _ => False) w3 w4 := HKN.out.trans hk4 fun k hk e => by omega
      have HZ4 := Lib.hid (HZ3.out.fresh hk34)
      have HT4 := Lib.hid (HT3.out.fresh hk34)
      have HX4 := Lib.hid (HX3.out.fresh hk34)
      have HHI := Lib.hid hk34.size
      have HL4 := Lib.hid (fun k (e : L.oV.ownBlock = some k) => (HZ3.out.l.l.o.lt k e).2)
      have hpl := HZ3.out.l.l.box.lt
      obtain ⟨N, hN⟩ : ∃ N, w3.heap.size = N := ⟨_, rfl⟩
      rw [hN] at HLT HO3 HR3 HB12 HHI HL4 hpl ⊢
      clear hk4 hk34 HZ3 HT3 HX3 HN HKN hN
      go_wp2_with (refine wpList_load_op rfl _ rfl N rfl _ ds HSD.out HB12.out ?_)
      have hadd := Add_both w p L y w4 HZ4.out.l HT4.out.at (by rw [HT4.out.eq]; exact HX4.out.small) (by omega)
      rw [HDS.out, HT4.out.eq] at hadd
      refine hadd.mono ?_
      obtain ⟨E, hE⟩ : ∃ E, L.d.addErr x.o = E := ⟨_, rfl⟩
      have HE := Lib.hid hE
      unfold AddBoth
      rw [hE]
      rintro e w5 ⟨L', rfl, hd5, hl5, hk5, hg5, ho5⟩
      have hno : ∀ {T : TypeId}, T ≠ 45 → T ≠ 51 → NoKind w4 (fun k => k = p ∨ L.oV.ownBlock = some k) T := fun h1 h2 k hk cs c hc => by
        rcases hk with rfl | hk
        · exact NoKind.box HZ4.out.l.l.box h2 k rfl cs c hc
        · exact NoKind.own HZ4.out.l.l.o h1 k hk cs c hc
      have HZ5 := Lib.hid (HZ4.out.turnL hl5 hk5 hg5 (ho5 _ _ HZ4.out.mle HZ4.out.out))
      have HT5 := Lib.hid (HT4.out.kept hk5 (hno (by decide) (by decide)) (hno (by decide) (by decide)))
      have HB5 := Lib.hid (HB12.out.kept hk5 (by rintro (e | e); exact absurd hpl (by omega); exact absurd (HL4.out _ e) (by omega)))
      have HO5 := Lib.hid (ho5 _ _ HHI.out HO3.out)
      have HD5 := Lib.hid hd5
      have HX5 := Lib.hid (show StepOk w5 ⟨1, x, vA, vc0, v⟩ from HSO.out.fresh hl5.k)
      have HHI5 := Lib.hid (Nat.le_trans HHI.out hk5.size)
      obtain ⟨c0, c1⟩ := HZ5.out.cells4
      clear hadd hE hd5 hl5 hk5 hg5 ho5 hno HZ4 HT4 HX4 HO3 HHI HL4 HB12
      go_wp2_with (refine load_step rfl _ rfl (W.heap.size + 1) 1 rfl cs HSZ.out (HRG.out _ HZ5.out.b5) ?_)
      have hadd := RAdd_both w R L.d x w5 HZ5.out.r HSY.out HSO.out.x HSO.out.small (by omega)
      rw [HCS.out] at hadd
      refine hadd.mono ?_
      unfold RAddBoth
      rw [HE.out]
      rintro e w6 ⟨R', rfl, hs6, hr6, hk6, hg6, ho6⟩
      have HGR := Lib.hid (show Goes W R.oV R'.oV from fun k e => (hg6 k e).imp_right fun h => by have := HZ5.out.mle; have := HZ5.out.mlt; omega)
      have HZ6 := Lib.hid (HZ5.out.fresh hk6)
      have HS6 := Lib.hid hs6
      have HO6 := Lib.hid (ho6 _ _ HHI5.out HR3.out)
      have HF4 := Lib.hid (fun (X' : World) (hb : Box X' W.heap.size 35 R'.c) (hk : Kept (fun k => k = W.heap.size) w6 X') => HZ5.out.set4 hk6 hr6 hg6 (ho6 _ _ HZ5.out.mle HZ5.out.rout) hb hk)
      have HT6 := Lib.hid (HT5.out.fresh hk6)
      have HB6 := Lib.hid (HB5.out.kept hk6 id)
      have HX6 := Lib.hid (HX5.out.fresh hk6)
      clear hadd hs6 hr6 hk6 hg6 ho6 HZ5 HT5 HB5 HX5 HR3 c0 c1 HHI5
      go_wp2_with (refine wpList_store_box rfl 35 _ _ rfl W.heap.size (RLg.c R') rfl rfl 35 _ HZ6.out.b4 (size_RL.trans rfl) rfl (RLg.c_one _) ?_)
      intro w7 HB7 hk7
      have HZ7 := Lib.hid (HF4.out w7 HB7.out hk7)
      have HT7 := Lib.hid (HT6.out.kept hk7 (NoKind.box HZ6.out.b4 (by decide)) (NoKind.box HZ6.out.b4 (by decide)))
      have HB12 := Lib.hid (HB6.out.kept hk7 (fun e => Box.ne HB6.out HZ6.out.b4 (by decide) e))
      have HX7 := Lib.hid (show StepOk w7 ⟨1, x, vA, vc0, v⟩ from HSO.out.fresh HZ7.out.l.k)
      clear hk7 HZ6 HF4 HT6 HB6 HX6 HB7
      go_wp2_with (first | (refine wpList_unguard rfl ?_; refine wpList_load_op rfl _ rfl N rfl _ ds HSD.out HB12.out ?_) | (refine wpList_unguard rfl ?_; refine load_step rfl _ rfl (W.heap.size + 1) 1 rfl cs HSZ.out (HRG.out _ HZ7.out.b5) ?_))
      have hsp := spoil_any x y m w7 HT7.out HX7.out.x HX7.out.small
      rw [HCS.out, HDS.out] at hsp
      refine hsp.mono ?_
      rintro e w8 ⟨rfl, hk8⟩
      have HZ8 := Lib.hid (HZ7.out.outside HO5.out HO6.out (Nat.le_refl _) (hk8.more fun k _ e => HLT.out k e))
      clear hsp hk8 HZ7 HT7 HB12 HX7
      go_wp2_with (fail)
      go_meet
      case rel => exact ⟨rfl, L', R', by rw [HP.out]; exact HD5.out, by rw [HP.out]; exact HS6.out, HZ8.out, HGR.out⟩
    · by_cases h2 : kind = 2
      · have HP := Lib.hid (show L.d.step kind x.o v = L.d by unfold Pl.step; rw [if_neg h1, if_neg (by omega)])
        subst h2
        clear h1 HXN HCS HSZ HRG
        obtain ⟨c0, c1⟩ := HZ.out.cells4
        obtain ⟨g', hg', -, -, -, -⟩ := HZ.out.given
        clear hg' g'
        go_wp2_with (fail)
        refine (RBeyond_any R vA v vc0 w2 HZ.out.r.at HX.out.v hvl).mono ?_
        rintro e w3 ⟨A3, c3, rfl, ho3, hk3⟩
        have HZ3 := Lib.hid (HZ.out.fresh hk3)
        have HX3 := Lib.hid (HX.out.fresh hk3)
        have HO3 := Lib.hid ho3
        rw [HM.out] at HO3
        clear ho3 hk3 HZ HX c12 c0 c1 d0
        go_wp2_with (fail)
        obtain ⟨-, -, -, -, hdv, -⟩ := HZ3.out.given
        refine (Beyond_any p L _ v vc w3 HZ3.out.l.l hdv hvl).mono ?_
        rintro e w4 ⟨B, A4, c4, rfl, hit, hB, -, hk4⟩
        have HZ4 := Lib.hid (HZ3.out.fresh hk4)
        have HX4 := Lib.hid (HX3.out.fresh hk4)
        have HO4 := Lib.hid (hk4.own HO3.out fun _ _ => id)
        have HIT := Lib.hid hit
        have HBM := Lib.hid (Nat.le_trans HZ3.out.mle hB)
        clear hit hdv hk4 hB HZ3 HX3 HO3
        have hN : ∀ W : World, (binOp .neq 56 (.func (.func 51) #[] #[.pointer (some ⟨B, 0, none⟩)]) .nilFunc).run Try.prog W = .ok (.bool true) W := fun _ => rfl
        have HLM := Lib.hid (lacks_map (v := v) (show R.ops.map (·.o) = L.ops.map (·.o) from HSY.out.ops))
        obtain ⟨q, hq⟩ : ∃ q, (lacks v L.ops).length = q := ⟨_, rfl⟩
        have hq' : (lacks v R.ops).length = q := by
          have := congrArg List.length HLM.out
          rw [List.length_map, List.length_map] at this
          rw [this, hq]
        have HLA := Lib.hid (fun W (h : LogAt W p L) (hd : DotsAt W (some ⟨gV, 0, none⟩) v) => Lacks_of (.pointer (some ⟨p, 0, none⟩)) (some ⟨gV, 0, none⟩) v vc W (lacks v L.ops) fun W' hk => Beyond_any p L _ v vc W' (h.fresh hk) (hd.fresh hk) hvl)
        have HRA := Lib.hid (fun W (h : RLogAt W R) (hd : DotsAt W vA v) => RLacks_any R vA v vc0 W h hd hvl)
        rw [hq] at HLA
        rw [hq'] at HRA
        have HQ := Lib.hid hq
        have HQ' := Lib.hid hq'
        clear hq hq'
        have hn0 : (0 : Int) ≤ (v.length : Int) := by omega
        have hn1 : (v.length : Int) < ((v.length + 1 : Nat) : Int) := by omega
        have hn2 : ¬ ((v.length : Int) + 1 ≤ (v.length : Int)) := by omega
        go_upto_region 16 with (fail)
        have HZ5 := Lib.hid (HZ4.out.fresh (Kept.refl (fun _ => False) w4).drew)
        have HX5 := Lib.hid (HX4.out.fresh (Kept.refl (fun _ => False) w4).drew)
        have HO5 := Lib.hid ((Kept.refl (fun _ => False) w4).drew.own HO4.out fun _ _ => id)
        have HI5 := Lib.hid (HIT.out.fresh (Kept.refl (fun _ => False) w4).drew)
        clear HZ4 HX4 HO4 HIT
        have HJ5 := Lib.hid (⟨HZ5.out, HX5.out, HO5.out, HI5.out⟩ : _ ∧ _ ∧ _ ∧ _)
        clear HZ5 HX5 HO5 HI5
        go_cut [10] (fun v10 wx => v10 = .bool true ∧ Kept (fun _ => False) w4.drew wx)
        case first =>
          refine wp_region_held_drew (S := fun Wz => Kept (fun _ => False) w4.drew Wz) (by kernel_rfl) (Kept.refl _ _) fun hS => ?_
          obtain ⟨w5, hw5⟩ : ∃ w5, w4.drew = w5 := ⟨_, rfl⟩
          have HW5 := Lib.hid hw5
          rw [hw5] at HJ5 hS ⊢
          clear hw5
          obtain ⟨hz5, hx5, -, -⟩ := HJ5.out
          have HZ5 := Lib.hid hz5
          have HX5 := Lib.hid hx5
          clear hz5 hx5 HJ5
          refine held_takeTo 69 (i := 0) (v := .func (.func 51) #[] #[.pointer (some ⟨B, 0, none⟩)]) rfl rfl (by kernel_rfl) (by kernel_rfl) (by kernel_rfl) (fun _ _ _ h => h) rfl hS (fun Wz hW => by go_simp) ?_
          simp only [List.setIfInBounds_toArray, List.set_cons_zero, List.set_cons_succ]
          refine held_takeTo 70 (i := 1) (v := .bool true) rfl rfl (by kernel_rfl) (by kernel_rfl) (by kernel_rfl) (fun _ _ _ h => h) rfl hS (fun Wz hW => by (have h0 := hN Wz; go_simp)) ?_
          simp only [List.setIfInBounds_toArray, List.set_cons_zero, List.set_cons_succ]
          refine held_takeTo 71 (i := 2) (v := .bool true) rfl rfl (by kernel_rfl) (by kernel_rfl) (by kernel_rfl) (fun _ _ _ h => h) rfl hS (fun Wz hW => by go_simp) ?_
          simp only [List.setIfInBounds_toArray, List.set_cons_zero, List.set_cons_succ]
          refine held_takeG 72 (i := 3) (v := .pointer (some ⟨p, 0, none⟩)) rfl rfl (by kernel_rfl) (by kernel_rfl) (by kernel_rfl) (fun _ _ _ h => h) (by rfl) hS (fun Wz hW => by go_simp) ?_
          simp only [List.setIfInBounds_toArray, List.set_cons_zero, List.set_cons_succ]
          refine held_takeG 73 (i := 4) (v := .slice (some ⟨gV, 0, none⟩) v.length vc) rfl rfl (by kernel_rfl) (by kernel_rfl) (by kernel_rfl) (fun _ _ _ h => h) (by rfl) hS (fun Wz hW => by go_simp) ?_
          simp only [List.setIfInBounds_toArray, List.set_cons_zero, List.set_cons_succ]
          refine held_takeG 75 (i := 6) (v := .agg R.c) rfl rfl (by kernel_rfl) (by kernel_rfl) (by kernel_rfl) (fun _ _ _ h => h) (by rfl) hS (fun Wz hW => run_load_RL _ _ rfl W.heap.size rfl (HZ5.out.b4.kept hW id)) ?_
          simp only [List.setIfInBounds_toArray, List.set_cons_zero, List.set_cons_succ]
          refine held_takeG 76 (i := 7) (v := .pointer (some ⟨W.heap.size + 1, 12, none⟩)) rfl rfl (by kernel_rfl) (by kernel_rfl) (by kernel_rfl) (fun _ _ _ h => h) (by rfl) hS (fun Wz hW => by go_simp) ?_
          simp only [List.setIfInBounds_toArray, List.set_cons_zero, List.set_cons_succ]
          refine held_takeG 77 (i := 8) (v := .slice vA v.length vc0) rfl rfl (by kernel_rfl) (by kernel_rfl) (by kernel_rfl) (fun _ _ _ h => h) (by rfl) hS (fun Wz hW => by (have h12 := ((HZ5.out.b5.kept hW id).cell 12).trans HC12.out; go_simp)) ?_
          simp only [List.setIfInBounds_toArray, List.set_cons_zero, List.set_cons_succ]
          obtain ⟨-, -, -, -, hdv, -⟩ := HZ5.out.given
          refine held_one (i := 5) (by kernel_rfl) rfl fun K hK => ?_
          go_wp2_with (fail)
          refine (HLA.out w5 HZ5.out.l.l hdv).mono ?_
          unfold IntPost
          rintro e w6 ⟨rfl, hk6⟩
          clear hdv
          go_wp2_with (fail)
          refine hK.out _ _ hk6 fun _ => ?_
          clear hK K
          refine held_one (i := 9) (by kernel_rfl) rfl fun K hK => ?_
          go_wp2_with (fail)
          refine (HRA.out w6 (HZ5.out.fresh hk6).r.at (HX5.out.fresh hk6).v).mono ?_
          unfold IntPost
          rintro e w7 ⟨rfl, hk7⟩
          have hS7 := hk6.trans hk7 fun _ _ e => e
          clear hk7
          go_wp2_with (fail)
          refine hK.out _ _ hS7 fun _ => ?_
          clear hK K
          clear HLA HRA hk6
          refine held_takeG 79 (i := 10) (v := .bool true) rfl rfl (by kernel_rfl) (by kernel_rfl) (by kernel_rfl) (fun _ _ _ h => h) (by rfl) hS7 (fun Wz hW => by go_simp) ?_
          simp only [List.setIfInBounds_toArray, List.set_cons_zero, List.set_cons_succ]
          refine held_takeTo 80 (i := 11) (v := .bool true) rfl rfl (by kernel_rfl) (by kernel_rfl) (by kernel_rfl) (fun _ _ _ h => h) rfl hS7 (fun Wz hW => by go_simp) ?_
          simp only [List.setIfInBounds_toArray, List.set_cons_zero, List.set_cons_succ]
          refine held_takeTo 81 (i := 12) (v := .bool true) rfl rfl (by kernel_rfl) (by kernel_rfl) (by kernel_rfl) (fun _ _ _ h => h) rfl hS7 (fun Wz hW => by go_simp) ?_
          simp only [List.setIfInBounds_toArray, List.set_cons_zero, List.set_cons_succ]
          refine held_takeG 82 (i := 13) (v := .slice (some ⟨gV, 0, none⟩) v.length vc) rfl rfl (by kernel_rfl) (by kernel_rfl) (by kernel_rfl) (fun _ _ _ h => h) (by rfl) hS7 (fun Wz hW => by go_simp) ?_
          simp only [List.setIfInBounds_toArray, List.set_cons_zero, List.set_cons_succ]
          refine held_takeG 83 (i := 14) (v := .pointer (some ⟨W.heap.size + 1, 12, none⟩)) rfl rfl (by kernel_rfl) (by kernel_rfl) (by kernel_rfl) (fun _ _ _ h => h) (by rfl) hS7 (fun Wz hW => by go_simp) ?_
          simp only [List.setIfInBounds_toArray, List.set_cons_zero, List.set_cons_succ]
          refine held_takeG 84 (i := 15) (v := .slice vA v.length vc0) rfl rfl (by kernel_rfl) (by kernel_rfl) (by kernel_rfl) (fun _ _ _ h => h) (by rfl) hS7 (fun Wz hW => by (have h12 := ((HZ5.out.b5.kept hW id).cell 12).trans HC12.out; go_simp)) ?_
          simp only [List.setIfInBounds_toArray, List.set_cons_zero, List.set_cons_succ]
          obtain ⟨-, -, -, -, hdv, -⟩ := (HZ5.out.fresh hS7).given
          refine held_one (i := 16) (by kernel_rfl) rfl fun K hK => ?_
          go_wp2_with (fail)
          refine (vectors_any (some ⟨gV, 0, none⟩) vA v v vc vc0 w7 hdv (HX5.out.fresh hS7).v (by omega)).mono ?_
          unfold SamePost
          rw [decide_eq_true rfl]
          rintro e w8 ⟨rfl, hk8⟩
          have hS8 := hS7.trans hk8 fun _ _ e => e
          clear hdv hk8
          go_wp2_with (fail)
          refine hK.out _ _ hS8 fun _ => ?_
          clear hK K
          clear hS7
          refine held_takeTo 86 (i := 17) (v := .bool true) rfl rfl (by kernel_rfl) (by kernel_rfl) (by kernel_rfl) (fun _ _ _ h => h) rfl hS8 (fun Wz hW => by go_simp) ?_
          simp only [List.setIfInBounds_toArray, List.set_cons_zero, List.set_cons_succ]
          refine held_takeTo 87 (i := 18) (v := .bool true) rfl rfl (by kernel_rfl) (by kernel_rfl) (by kernel_rfl) (fun _ _ _ h => h) rfl hS8 (fun Wz hW => by go_simp) ?_
          simp only [List.setIfInBounds_toArray, List.set_cons_zero, List.set_cons_succ]
          refine held_takeG 88 (i := 19) (v := .slice (some ⟨gV, 0, none⟩) (v.length + 1) vc) rfl rfl (by kernel_rfl) (by kernel_rfl) (by kernel_rfl) (fun _ _ _ h => h) (by rfl) hS8 (fun Wz hW => by go_simp) ?_
          simp only [List.setIfInBounds_toArray, List.set_cons_zero, List.set_cons_succ]
          refine held_takeG 89 (i := 20) (v := .pointer (some ⟨W.heap.size + 1, 12, none⟩)) rfl rfl (by kernel_rfl) (by kernel_rfl) (by kernel_rfl) (fun _ _ _ h => h) (by rfl) hS8 (fun Wz hW => by go_simp) ?_
          simp only [List.setIfInBounds_toArray, List.set_cons_zero, List.set_cons_succ]
          refine held_takeG 90 (i := 21) (v := .slice vA v.length vc0) rfl rfl (by kernel_rfl) (by kernel_rfl) (by kernel_rfl) (fun _ _ _ h => h) (by rfl) hS8 (fun Wz hW => by (have h12 := ((HZ5.out.b5.kept hW id).cell 12).trans HC12.out; go_simp)) ?_
          simp only [List.setIfInBounds_toArray, List.set_cons_zero, List.set_cons_succ]
          refine held_takeG 91 (i := 22) (v := .int .i64 v.length) rfl rfl (by kernel_rfl) (by kernel_rfl) (by kernel_rfl) (fun _ _ _ h => h) (by rfl) hS8 (fun Wz hW => by go_simp) ?_
          simp only [List.setIfInBounds_toArray, List.set_cons_zero, List.set_cons_succ]
          refine held_takeG 92 (i := 23) (v := .pointer (some ⟨gV, v.length * 2, none⟩)) rfl rfl (by kernel_rfl) (by kernel_rfl) (by kernel_rfl) (fun _ _ _ h => h) (by rfl) hS8 (fun Wz hW => by go_simp) ?_
          simp only [List.setIfInBounds_toArray, List.set_cons_zero, List.set_cons_succ]
          refine held_takeG 93 (i := 24) (v := .pointer (some ⟨gV, v.length * 2 + 1, none⟩)) rfl rfl (by kernel_rfl) (by kernel_rfl) (by kernel_rfl) (fun _ _ _ h => h) (by rfl) hS8 (fun Wz hW => by go_simp) ?_
          simp only [List.setIfInBounds_toArray, List.set_cons_zero, List.set_cons_succ]
          refine held_takeG 94 (i := 25) (v := .int .i64 77) rfl rfl (by kernel_rfl) (by kernel_rfl) (by kernel_rfl) (fun _ _ _ h => h) (by rfl) hS8 (fun Wz hW => by (obtain ⟨g9, e9, -, h9, -, -⟩ := (HZ5.out.fresh hW).given; injection e9 with e9; injection e9 with e9 _ _; subst e9; go_simp)) ?_
          simp only [List.setIfInBounds_toArray, List.set_cons_zero, List.set_cons_succ]
          refine held_takeG 95 (i := 26) (v := .bool true) rfl rfl (by kernel_rfl) (by kernel_rfl) (by kernel_rfl) (fun _ _ _ h => h) (by rfl) hS8 (fun Wz hW => by go_simp) ?_
          simp only [List.setIfInBounds_toArray, List.set_cons_zero, List.set_cons_succ]
          refine held_one (i := 27) (by kernel_rfl) rfl fun K hK => ?_
          go_wp2_with (fail)
          refine hK.out _ _ hS8 fun _ => ?_
          clear hK K
          refine held_one (i := 28) (by kernel_rfl) rfl fun K hK => ?_
          go_wp2_with (fail)
          refine hK.out _ _ hS8 fun _ => ?_
          clear hK K
          refine wpAnyH_done (by kernel_rfl) ?_ _
          go_wp2_with (fail)
          go_meet
          case rel => rw [HW5.out]; exact ⟨rfl, hS8⟩
        case rest =>
          obtain ⟨rfl, hk5⟩ := hcut
          obtain ⟨hz5, hx5, ho5, hi5⟩ := HJ5.out
          have HZ6 := Lib.hid (hz5.fresh hk5)
          have HO6 := Lib.hid (hk5.own ho5 fun _ _ => id)
          have HB6 := Lib.hid (hi5.box.kept hk5 id)
          have HI6 := Lib.hid (hk5.own hi5.row fun _ _ => id)
          have HDK := Lib.hid (show Kept (fun b => b = gV) wc wc from Kept.refl _ _)
          clear hz5 hx5 ho5 hi5 hk5 HJ5 HLA HRA hN HQ HQ'
          go_wp2_with (fail)
          go_loopw [16] (fun i wr => ∃ (k : Nat) (vl : List Dt), i = .int .i64 k ∧ k ≤ v.length + 1 ∧ StAt w W m p L L R ss v.length (some ⟨gV, 0, none⟩) vc vl wr ∧ Kept (fun b => b = gV) wc wr) (fun i _ => v.length + 1 - (intOf i).toNat)
          case atStart => exact ⟨0, _, rfl, by omega, HZ6.out, HDK.out⟩
          case round =>
            obtain ⟨k, vl, rfl, hk, hz, hkk⟩ := hrel
            have HZ7 := Lib.hid hz
            have HK7 := Lib.hid hkk
            by_cases hlt : k < v.length + 1
            · obtain ⟨g, a, b, hA, y0, y1, f, hK, hW⟩ := hz.dot hlt ⟨1, 1⟩
              injection hA with hA
              injection hA with hA _ _
              subst hA
              have f0 := f (k * 2)
              have f1 := f (k * 2 + 1)
              have H2 := Lib.hid hW
              have H3 := Lib.hid (HK7.out.trans hK fun _ _ e => e)
              clear f hW hz hkk hK HZ6 HO6 HB6 HI6
              go_wp2_with (fail)
              go_roundw
              case rel => exact ⟨k + 1, _, by go_num, by omega, H2.out, H3.out⟩
              case measure => simp [intOf]; omega
            · obtain rfl : k = v.length + 1 := by omega
              have hgm := hz.vlt gV rfl
              have hgD : NoKind wc (fun b => b = gV) 45 := fun b hb cs c hc => by
                subst hb
                obtain ⟨cs', c', hc'⟩ := own_is HZ6.out.v (k := b) rfl
                rw [hc] at hc'
                injection hc' with e1
                injection e1 with _ e2
                revert e2
                decide
              have HIR := Lib.hid (ItAt.of_log hz.l (HB6.out.kept hkk (fun e => by have := HBM.out; omega)) (hkk.own_kind hgD HI6.out))
              have HRW := Lib.hid (show RowAt wr A3 c3 (lacks v R.ops) from ⟨own_base (hkk.own_kind hgD HO6.out) (Nat.zero_le _), fun y hy => by
                have hy' : y ∈ R.ops := by
                  unfold lacks at hy
                  split at hy
                  · exact (List.mem_filter.1 hy).1
                  · cases hy
                exact (hz.r.ats y hy').fresh hz.r.k⟩)
              have HSM := Lib.hid hz.l.l.small
              have HLL := Lib.hid (show (lacks v L.ops).length ≤ 201 by
                unfold lacks
                split
                · exact Nat.le_trans (List.length_filter_le _ _) hl
                · simp)
              clear hz hkk hgD HZ6 HO6 HB6 HI6 HK7 hgm
              go_upto_region 21 with (fail)
              have HZ8 := Lib.hid (HZ7.out.fresh (Kept.refl (fun _ => False) wr).drew)
              have HI8 := Lib.hid (HIR.out.fresh (Kept.refl (fun _ => False) wr).drew)
              have HR8 := Lib.hid (HRW.out.fresh (Kept.refl (fun _ => False) wr).drew)
              clear HZ7 HIR HRW
              as_aux_lemma =>
                refine wp_region_held_drew (S := fun Wz => Kept (fun k => k = W.heap.size + 2) wr.drew Wz) (by kernel_rfl) (Kept.refl _ _) fun hS => ?_
                generalize wr.drew = w8 at HZ8 HI8 HR8 hS ⊢
                refine held_takeTo 107 (i := 0) (v := .agg R.c) rfl rfl (by kernel_rfl) (by kernel_rfl) (by kernel_rfl) (fun _ _ _ h => h) rfl hS (fun Wz hW => run_load_RL _ _ rfl W.heap.size rfl (HZ8.out.b4.kept hW (by omega))) ?_
                simp only [List.setIfInBounds_toArray, List.set_cons_zero, List.set_cons_succ]
                refine held_takeTo 108 (i := 1) (v := .bool true) rfl rfl (by kernel_rfl) (by kernel_rfl) (by kernel_rfl) (fun _ _ _ h => h) rfl hS (fun Wz hW => by go_simp) ?_
                simp only [List.setIfInBounds_toArray, List.set_cons_zero, List.set_cons_succ]
                refine held_takeTo 109 (i := 2) (v := .bool true) rfl rfl (by kernel_rfl) (by kernel_rfl) (by kernel_rfl) (fun _ _ _ h => h) rfl hS (fun Wz hW => by go_simp) ?_
                simp only [List.setIfInBounds_toArray, List.set_cons_zero, List.set_cons_succ]
                refine held_takeG 110 (i := 3) (v := .func (.func 51) #[] #[.pointer (some ⟨B, 0, none⟩)]) rfl rfl (by kernel_rfl) (by kernel_rfl) (by kernel_rfl) (fun _ _ _ h => h) (by rfl) hS (fun Wz hW => by go_simp) ?_
                simp only [List.setIfInBounds_toArray, List.set_cons_zero, List.set_cons_succ]
                refine held_takeG 112 (i := 5) (v := .slice A3 (lacks v R.ops).length c3) rfl rfl (by kernel_rfl) (by kernel_rfl) (by kernel_rfl) (fun _ _ _ h => h) (by rfl) hS (fun Wz hW => by go_simp) ?_
                simp only [List.setIfInBounds_toArray, List.set_cons_zero, List.set_cons_succ]
                refine held_one (i := 4) (by kernel_rfl) rfl fun K hK => ?_
                go_wp2_with (fail)
                refine (rest_any B (lacks v L.ops) A4 c4 201 w8 HI8.out (by decide) (by decide)).mono ?_
                rintro e w9 ⟨ys, RA, rc, rfl, hys, ho9, hn9, hk9⟩
                have hS9 : Kept (fun k => k = W.heap.size + 2) w8 w9 := hk9.more fun _ _ e => e.elim
                have HYS := Lib.hid (show (lacks v R.ops).map (·.o) = ys.map (·.o) by rw [hys, HLM.out, List.take_of_length_le (by rw [List.length_map]; exact HLL.out)])
                have HRY := Lib.hid (RowAt.of ho9 hn9)
                have HR9 := Lib.hid (HR8.out.fresh hk9)
                have HZ9 := Lib.hid (HZ8.out.fresh hk9)
                clear hys ho9 hn9 hk9
                go_wp2_with (fail)
                refine hK.out _ _ hS9 fun _ => ?_
                clear hK K
                refine held_one (i := 6) (by kernel_rfl) rfl fun K hK => ?_
                go_wp2_with (fail)
                refine (ops_true RA A3 ys (lacks v R.ops) rc c3 w9 HRY.out HR9.out HYS.out (by have h1 := congrArg List.length HYS.out; have h2 := congrArg List.length HLM.out; rw [List.length_map, List.length_map] at h1 h2; rw [← h1, h2]; exact Nat.le_trans HLL.out (by decide)) (small_map (HYS.out.symm.trans HLM.out) (fun x hx => HSM.out x (by unfold lacks at hx; split at hx; exact (List.mem_filter.1 hx).1; cases hx)))).mono ?_
                unfold BoolPost
                rintro e w10 ⟨rfl, hk10⟩
                have hS10 : Kept (fun k => k = W.heap.size + 2) w8 w10 := hS9.trans hk10 fun _ _ e => e.elim
                have HZ10 := Lib.hid (HZ9.out.fresh hk10)
                clear hk10
                go_wp2_with (fail)
                refine hK.out _ _ hS10 fun _ => ?_
                clear hK K
                clear hS9 HZ9 HR9 HRY HYS
                refine held_takeTo 114 (i := 7) (v := .bool true) rfl rfl (by kernel_rfl) (by kernel_rfl) (by kernel_rfl) (fun _ _ _ h => h) rfl hS10 (fun Wz hW => by go_simp) ?_
                simp only [List.setIfInBounds_toArray, List.set_cons_zero, List.set_cons_succ]
                refine held_one (i := 8) (by kernel_rfl) rfl fun K hK => ?_
                refine wpList_store_box rfl 35 _ _ rfl (W.heap.size + 2) (RLg.c R) rfl rfl 35 _ HZ10.out.b6 (size_RL.trans rfl) rfl (RLg.c_one _) ?_
                intro w11 HB11 hk11
                have hS11 := hS10.trans hk11 fun _ _ e => e
                have HF := Lib.hid (HZ10.out.done hk11)
                clear hk11
                refine hK.out _ _ hS11 fun _ => ?_
                clear hK K
                clear hS10
                refine held_one (i := 9) (by kernel_rfl) rfl fun K hK => ?_
                go_wp2_with (fail)
                refine hK.out _ _ hS11 fun _ => ?_
                clear hK K
                refine wpAnyH_done (by kernel_rfl) ?_ _
                have HGO := Lib.hid HZ10.out.go
                have HAP := Lib.hid HZ10.out.ap
                clear hS hS11 HZ8 HZ10 HI8 HR8
                go_wp2_with (fail)
                refine bodyPost_ret (ret_cell_slot (show Try.f15.results = #[.cell 6 35, .tmp 7] by kernel_rfl) _ _ (.bool true) (W.heap.size + 2) R rfl HB11.out rfl) rfl ?_
                exact ⟨L, R, rfl, HP.out.symm, ⟨HF.out.1, HF.out.2.1, HAP.out, HSY.out⟩, HF.out.2.2, HGO.out, Goes.refl _ _⟩
      · by_cases h3 : kind = 3
        · have HP := Lib.hid (show L.d.step kind x.o v = L.d.cut v by unfold Pl.step; rw [if_neg h1, if_pos h3])
          subst h3
          clear h1 h2 HXN HCS HSZ HRG
          go_wp2_with (fail)
          obtain ⟨gq, eq1, -, -, hdv, hgW⟩ := HZ.out.given
          injection eq1 with eq1
          injection eq1 with eq1 _ _
          subst eq1
          refine (Cut_both w p L _ v vc w2 HZ.out.l hdv hvl (fun _ a ha e => by injection ha with ha; subst ha; exact HZ.out.out.o _ e ⟨hgW, HZ.out.vlt gV rfl⟩)).mono ?_
          obtain ⟨E, hE⟩ : ∃ E, L.d.cutErr v = E := ⟨_, rfl⟩
          have HE := Lib.hid hE
          unfold CutBoth
          rw [hE]
          rintro e w3 ⟨L', gs, A3, c3, lim, rfl, hgs3, hd3, hl3, hk3, hg3, hw3, ho3, hlim, hout3⟩
          have HO2 := Lib.hid (ROut.of (hi := lim) HZ.out.r (Nat.le_refl _))
          have HLS := Lib.hid HZ.out.l.l.small
          rw [HM.out] at ho3 hw3 HO2
          have HZ3 := Lib.hid (HZ.out.turnL hl3 hk3 hg3 (hout3 _ _ HZ.out.mle HZ.out.out))
          have HW3 := Lib.hid hw3
          have HO3 := Lib.hid ho3
          have HD3 := Lib.hid hd3
          have HG3 := Lib.hid hgs3
          have HX3 := Lib.hid (show StepOk w3 ⟨3, x, vA, vc0, v⟩ from HSO.out.fresh hl3.k)
          have HLM := Lib.hid hlim
          have c12 : w3.cell? ⟨W.heap.size + 1, 12, none⟩ = some (.slice vA v.length vc0) := (HZ3.out.b5.cell 12).trans HC12.out
          obtain ⟨c0, c1⟩ := HZ3.out.cells4
          clear hdv hgW hE hgs3 hd3 hl3 hk3 hg3 hw3 ho3 hlim hout3 HZ HX d0
          go_wp2_with (fail)
          refine (RCut_both w R L.d vA v vc0 w3 HZ3.out.r HSY.out HX3.out.v hvl).mono ?_
          unfold RCutBoth
          rw [HE.out]
          rintro e w4 ⟨R', zs, A4, c4, rfl, hgs4, hrw4, hat4, hs4, hr4, hk4, hg4, ho4⟩
          have HRS := Lib.hid hat4
          have HGR := Lib.hid (show Goes W R.oV R'.oV from fun k e => (hg4 k e).imp_right fun h => by have := HZ3.out.mle; have := HZ3.out.mlt; omega)
          have HZ4 := Lib.hid (HZ3.out.fresh hk4)
          have HW4 := Lib.hid (HW3.out.again hk4)
          have HR4 := Lib.hid hrw4
          have HG4 := Lib.hid hgs4
          have HS4 := Lib.hid hs4
          have HO4 := Lib.hid (ho4 _ _ HLM.out HO2.out)
          have HF4 := Lib.hid (fun (X' : World) (hb : Box X' W.heap.size 35 R'.c) (hk : Kept (fun k => k = W.heap.size) w4 X') => HZ3.out.set4 hk4 hr4 hg4 (ho4 _ _ HZ3.out.mle HZ3.out.rout) hb hk)
          clear hgs4 hrw4 hat4 hs4 hr4 hk4 hg4 ho4 HZ3 HW3 HX3 HO2 c0 c1 c12
          go_wp2_with (refine wpList_store_box rfl 35 _ _ rfl W.heap.size (RLg.c R') rfl rfl 35 _ HZ4.out.b4 (size_RL.trans rfl) rfl (RLg.c_one _) ?_)
          intro w5 HB5 hk5
          have HZ5 := Lib.hid (HF4.out w5 HB5.out hk5)
          have hno : ∀ {T : TypeId}, T ≠ 35 → NoKind w4 (fun k => k = W.heap.size) T := fun h => NoKind.box HZ4.out.b4 h
          have HW5 := Lib.hid (show Wi m lim A3 gs.length c3 w5 gs w5 from ⟨Kept.refl _ _, rfl, hk5.own_kind (hno (by decide)) HW4.out.row, HW4.out.lanes.kept hk5 (hno (by decide)) (hno (by decide)), HW4.out.small, HW4.out.dlt, HW4.out.glt, HW4.out.rlt, Nat.le_trans HW4.out.lo hk5.size⟩)
          have HR5 := Lib.hid (show RowAt w5 A4 c4 zs from ⟨hk5.own_kind (hno (by decide)) HR4.out.row, fun y hy => (HRS.out y hy).fresh HZ5.out.l.k⟩)
          clear hk5 hno HZ4 HW4 HR4 HF4 HB5
          have HGG := Lib.hid (small_gs (b := decide (E = 0)) (f := fun o => hasV v o.dot) (by rw [HG3.out]; by_cases h : E = 0 <;> simp [h, Lg.d]) HLS.out)
          go_wp2_with (fail)
          refine (ops_true A3 A4 gs zs c3 c4 w5 (RowAt.of HW5.out.row HW5.out.lanes) HR5.out (at_of HG3.out HG4.out) (Nat.le_trans HGG.out.2 (by omega)) HGG.out.1).mono ?_
          unfold BoolPost
          rintro e w6 ⟨rfl, hk6⟩
          have HZ6 := Lib.hid (HZ5.out.fresh hk6)
          have HW6 := Lib.hid (HW5.out.again hk6)
          clear hk6 HZ5 HW5 HR5
          go_wp2_with (fail)
          refine (wipe_any m lim A3 gs.length c3 gs w6 HW6.out (Nat.le_trans HGG.out.2 (by omega))).mono ?_
          rintro e w7 ⟨⟨z, rfl⟩, hk7⟩
          have HZ7 := Lib.hid (HZ6.out.outside HO3.out HO4.out (Nat.le_refl _) hk7)
          clear hk7 HZ6 HW6
          go_wp2_with (fail)
          go_meet
          case rel => exact ⟨rfl, L', R', by rw [HP.out]; exact HD3.out, by rw [HP.out]; exact HS4.out, HZ7.out, HGR.out⟩
        · have HP := Lib.hid (show L.d.step kind x.o v = L.d by unfold Pl.step; rw [if_neg h1, if_neg h3])
          have e1 : (kind == 1) = false := beq_eq_false_iff_ne.mpr h1
          have e2 : (kind == 2) = false := beq_eq_false_iff_ne.mpr h2
          have e3 : (kind == 3) = false := beq_eq_false_iff_ne.mpr h3
          go_wp2_with (fail)
          go_meet
          case rel => exact ⟨rfl, L, R, HP.out.symm, by rw [HP.out]; exact HSY.out, HZ.out, Goes.refl _ _⟩
  case rest =>
    obtain ⟨rfl, L', R', hd', hs', hz', hgr'⟩ := hcut
    have HGR := Lib.hid hgr'
    have HZ1 := Lib.hid hz'
    have HD1 := Lib.hid hd'
    have HS1 := Lib.hid hs'
    have HX1 := Lib.hid (show StepOk wc ⟨kind, x, vA, vc0, v⟩ from HSO.out.fresh hz'.l.k)
    have c12 : wc.cell? ⟨W.heap.size + 1, 12, none⟩ = some (.slice vA v.length vc0) := (hz'.b5.cell 12).trans HC12.out
    obtain ⟨-, -, -, -, hdv, -⟩ := hz'.given
    have HDV := Lib.hid hdv
    have hn0 : (0 : Int) ≤ (v.length : Int) := by omega
    have hn1 : (v.length : Int) < ((v.length + 1 : Nat) : Int) := by omega
    clear hd' hs' hz' hgr' hdv HZ HX HXN HCS HSZ HRG d0
    go_wp2_with (fail)
    refine (vectors_any (some ⟨gV, 0, none⟩) vA v v vc vc0 wc HDV.out HX1.out.v (by omega)).mono ?_
    unfold SamePost
    rw [decide_eq_true rfl]
    rintro e w3 ⟨rfl, hk3⟩
    have HZ3 := Lib.hid (HZ1.out.fresh hk3)
    clear hk3 HZ1 HX1 HDV c12
    have c12 : w3.cell? ⟨W.heap.size + 1, 12, none⟩ = some (.slice vA v.length vc0) := (HZ3.out.b5.cell 12).trans HC12.out
    obtain ⟨g9, e9, -, z9, -, -⟩ := HZ3.out.given
    injection e9 with e9
    injection e9 with e9 _ _
    subst e9
    go_wp2_with (fail)
    go_loopw [20] (fun i wr => ∃ (k : Nat) (vl : List Dt), i = .int .i64 k ∧ k ≤ v.length + 1 ∧ StAt w W m p L L' R' ss v.length (some ⟨gV, 0, none⟩) vc vl wr) (fun i _ => v.length + 1 - (intOf i).toNat)
    case atStart => exact ⟨0, _, rfl, by omega, HZ3.out⟩
    case round =>
      obtain ⟨k, vl, rfl, hk, hz⟩ := hrel
      have HZ7 := Lib.hid hz
      clear HZ3 c12 z9
      by_cases hlt : k < v.length + 1
      · obtain ⟨g, a, b, hA, y0, y1, f, hK, hW⟩ := hz.dot hlt ⟨1, 1⟩
        injection hA with hA
        injection hA with hA _ _
        subst hA
        have f0 := f (k * 2)
        have f1 := f (k * 2 + 1)
        have H2 := Lib.hid hW
        clear f hW hz hK
        go_wp2_with (fail)
        go_roundw
        case rel => exact ⟨k + 1, _, by go_num, by omega, H2.out⟩
        case measure => simp [intOf]; omega
      · obtain rfl : k = v.length + 1 := by omega
        obtain ⟨c0, c1⟩ := hz.cells4
        clear hz
        go_wp2_with (refine wpList_store_box rfl 35 _ _ rfl (W.heap.size + 2) (RLg.c R') rfl rfl 35 _ HZ7.out.b6 (size_RL.trans rfl) rfl (RLg.c_one _) ?_)
        intro w8 HB8 hk8
        have HF := Lib.hid (HZ7.out.done hk8)
        have HGO := Lib.hid HZ7.out.go
        have HAP := Lib.hid HZ7.out.ap
        clear hk8 HZ7 c0 c1
        go_wp2
        refine bodyPost_ret (ret_cell_slot (show Try.f15.results = #[.cell 6 35, .tmp 7] by kernel_rfl) _ _ (.bool true) (W.heap.size + 2) R' rfl HB8.out rfl) rfl ?_
        exact ⟨L', R', rfl, HD1.out, ⟨HF.out.1, HF.out.2.1, HAP.out, by rw [HD1.out]; exact HS1.out⟩, HF.out.2.2, HGO.out, HGR.out⟩
end Go.Proofs.Ytnfehkncfjgeeaa

namespace Go.Proofs.Ytnfehkncfjgeeaa
open Go Go.RowKit

def NewPostX (w : World) (hv : List Dt) (e : Ending) (w' : World) : Prop :=
  if checkV hv = 0 then ∃ (p : Nat) (L : Lg), e = .returned (.tuple #[.pointer (some ⟨p, 0, none⟩), .int .i64 0]) ∧ LogAt w' p L ∧ L.base = hv ∧ L.all = hv ∧ L.ops = [] ∧ L.oA = none ∧ w.heap.size ≤ p ∧ (∀ k, (Value.slice L.bA L.base.length L.bc).ownBlock = some k → w.heap.size ≤ k) ∧ (∀ k, (Value.slice L.aA L.all.length L.ac).ownBlock = some k → w.heap.size ≤ k) ∧ Kept (fun _ => False) w w'
  else e = .returned (.tuple #[.pointer none, .int .i64 (checkV hv)]) ∧ Kept (fun _ => False) w w'
set_option maxRecDepth 100000 in
set_option maxHeartbeats 1600000 in
theorem New_anyX (H : Option Addr) (hv : List Dt) (hc : Nat) (w : World) (hh : DotsAt w H hv) (hlen : hv.length ≤ 1000000) : Calls Try.prog 12 #[.slice H hv.length hc] w (NewPostX w hv) := by
  have HH := Lib.hid hh
  clear hh
  go_enter Try.func12, Try.ntmps12
  go_wp2_with (fail)
  refine (Check_any H hv hc _ HH.out (by omega)).mono ?_
  unfold IntPost
  rintro e w1 ⟨rfl, hk1⟩
  have HH1 := Lib.hid (HH.out.fresh hk1)
  have HK1 := Lib.hid hk1
  clear hk1
  by_cases hch : checkV hv = 0
  · have HCH := Lib.hid hch
    rw [hch]
    clear hch
    go_wp2_with (fail)
    refine (CloneD_any H hv hc _ HH1.out hlen).mono ?_
    rintro e w2 ⟨A2, c2, rfl, ho2, hk2⟩
    have HO2 := Lib.hid ho2
    have HK2 := Lib.hid (HK1.out.trans hk2 fun _ _ e => e)
    have HH2 := Lib.hid (HH1.out.fresh hk2)
    clear ho2 hk2
    go_wp2_with (fail)
    refine (CloneD_any H hv hc _ HH2.out hlen).mono ?_
    rintro e w3 ⟨A3, c3, rfl, ho3, hk3⟩
    have HL := Lib.hid (show LogAt (w3.alloc (.cells (Lg.cells ⟨hv, hv, [], A2, c2, A3, c3, none, 0⟩) 51)) w3.heap.size ⟨hv, hv, [], A2, c2, A3, c3, none, 0⟩ from
      ⟨Box.new _ _ _, (hk3.own (own_base (base' := 0) HO2.out (Nat.zero_le _)) fun _ _ => id).alloc _, (own_base ho3 (Nat.zero_le _)).alloc _, World.ownsRow_nil _ _ _ _, fun x h => absurd h (by simp), fun x h => absurd h (by simp), hlen, hlen, by simp⟩)
    have HK3 := Lib.hid ((HK2.out.trans hk3 fun _ _ e => e).alloc (.cells (Lg.cells ⟨hv, hv, [], A2, c2, A3, c3, none, 0⟩) 51))
    have HSZ := Lib.hid ((HK2.out.trans hk3 fun _ _ e => e).size)
    have HN2 := Lib.hid (fun k e => Nat.le_trans HK1.out.size (HO2.out.lt k e).1)
    have HN3 := Lib.hid (fun k e => Nat.le_trans HK2.out.size (ho3.lt k e).1)
    clear ho3 hk3 HO2
    go_wp2_with (fail)
    go_ret2
    unfold NewPostX
    rw [if_pos HCH.out]
    exact ⟨w3.heap.size, _, rfl, HL.out, rfl, rfl, rfl, rfl, HSZ.out, HN2.out, HN3.out, HK3.out⟩
  · have HCH := Lib.hid hch
    go_wp2_with (fail)
    go_ret2
    unfold NewPostX
    rw [if_neg HCH.out]
    exact ⟨rfl, HK1.out⟩
/-- A script as it is handed in, its lists as Go has them. -/
structure ScrArg (w : World) (A : Option Addr) (l : List Stp) : Prop where
  s : ScrAt w A l
  n : ∀ s ∈ l, s.x.Nil ∧ (s.vA = none → s.vc = 0)
theorem ScrArg.ok {w : World} {A : Option Addr} {l : List Stp} {nb : Nat} (h : ScrArg w A l) (hm : muchB l nb = false) : (∀ s ∈ l, StepArg w s) ∧ l.length ≤ 200 ∧ nb ≤ 60000 := by
  obtain ⟨h1, h2, h3⟩ := h.s.ok hm
  exact ⟨fun s hs => ⟨h1 s hs, (h.n s hs).1, (h.n s hs).2⟩, h2, h3⟩
theorem run_load_stp {w : World} {a : Act} (op : Oper) (x : Operand) (ho : op.op = .load 47 x) (q : Addr) (hx : a.eval x = .pointer (some q)) (s : Stp)
    (h0 : w.cell? q = some (.int .i64 s.kind)) (h1 : w.rangeAt q.block (q.off + 1) s.x.c.toList) (h2 : w.cell? ⟨q.block, q.off + 12, none⟩ = some (.slice s.vA s.v.length s.vc)) : (execOp a.eval op).run Try.prog w = .ok (.value (.agg s.c)) w := by
  have hq := cell_spot h0
  obtain ⟨b, f, sp⟩ := q
  injection hq with _ _ hsp
  subst hsp
  obtain ⟨d, hu, hd⟩ := und_step
  have hr : ∀ i v, s.x.c.toList[i]? = some v → w.cell? ⟨b, f + (1 + i), none⟩ = some v := fun i v hi => by rw [← Nat.add_assoc]; exact h1 i v hi
  have := run_loadVar_mid (P := Try.prog) w b f 47 s.c.toList d (fun j v hj => by
    have hj' : j < 13 := by
      have := (List.getElem?_eq_some_iff.1 hj).1
      simpa [Stp.c] using this
    match j, hj' with
    | 0, _ => rw [← hj]; exact h0
    | 1, _ => exact hr 0 v hj
    | 2, _ => exact hr 1 v hj
    | 3, _ => exact hr 2 v hj
    | 4, _ => exact hr 3 v hj
    | 5, _ => exact hr 4 v hj
    | 6, _ => exact hr 5 v hj
    | 7, _ => exact hr 6 v hj
    | 8, _ => exact hr 7 v hj
    | 9, _ => exact hr 8 v hj
    | 10, _ => exact hr 9 v hj
    | 11, _ => exact hr 10 v hj
    | 12, _ => rw [← hj]; exact h2) hu hd size_step
  rw [Array.toArray_toList] at this
  unfold execOp
  simp only [ho, hx, Instr.loadAt, Instr.sureAddr, Sem.run_bind, Sem.run_pure, Result.andThen_ok, this]
/-- A step of a script, in any later world. -/
theorem StepsAt.load {w W : World} {a : Act} {A : Option Addr} {l : List Stp} (h : StepsAt w A l) (hk : Kept (fun _ => False) w W) {k : Nat} (hlt : k < l.length) (op : Oper) (x : Operand) (ho : op.op = .load 47 x) (ad : Addr) (hA : A = some ad) (hx : a.eval x = .pointer (some (ad.add (k * 13)))) :
    (execOp a.eval op).run Try.prog W = .ok (.value (.agg l[k].c)) W := by
  obtain ⟨ad', e, h0, h1, h2⟩ := (h.fresh hk) k hlt
  rw [hA] at e
  injection e with e
  subst e
  exact run_load_stp op x ho _ hx l[k] h0 h1 h2
/-- Both logs, the reference's in its variable. -/
structure PlAt (w : World) (p g : Nat) (L : Lg) (R : RLg) (X : World) : Prop where
  b : Both w p L R X
  x : Box X g 35 R.c
  ge : w.heap.size ≤ g
section
variable {w X X' : World} {p g N : Nat} {L L' : Lg} {R R' : RLg}
theorem PlAt.fresh (h : PlAt w p g L R X) (hk : Kept (fun _ => False) X X') : PlAt w p g L R X' := ⟨h.b.fresh hk, h.x.kept hk id, h.ge⟩
theorem PlAt.cells (h : PlAt w p g L R X) : X.cell? ⟨g, 0, none⟩ = some (.slice R.bA R.base.length R.bc) ∧ X.cell? ⟨g, 1, none⟩ = some (.slice R.oA R.ops.length R.oc) := ⟨by simpa [RLg.c] using h.x.cell 0, by simpa [RLg.c] using h.x.cell 1⟩
theorem Both.other {T : TypeId} {cs : Array Value} (h : Both w p L R X) (hb : Box X g T cs) (h1 : 51 ≠ T) (h2 : 45 ≠ T) (h3 : 28 ≠ T) (h4 : 87 ≠ T) (hk : Kept (fun k => k = g) X X') (hg : w.heap.size ≤ g) : Both w p L R X' :=
  ⟨h.l.other hb h1 h2 h3 h4 hk hg, h.r.other hb h2 h3 hk hg, h.ap, h.says⟩
/-- The other box stands while a call works on the log. -/
theorem Both.box {T : TypeId} {cs : Array Value} (h : Both w p L R X) (hb : Box X g T cs) (h1 : 51 ≠ T) (h2 : 45 ≠ T) (hk : Kept (fun k => k = p ∨ L.oV.ownBlock = some k) X X') : Box X' g T cs :=
  hb.kept hk fun e => by
    rcases e with e | e
    · exact Box.ne h.l.l.box hb h1 e.symm
    · exact own_box_ne h.l.l.o hb h2 e
/-- The new one is laid into its variable. -/
theorem PlAt.set {cs : Array Value} (hb : Both w p L' R' X) (hx : Box X g 35 cs) (hg : w.heap.size ≤ g) (hx' : Box X' g 35 R'.c) (hk : Kept (fun k => k = g) X X') : PlAt w p g L' R' X' :=
  ⟨hb.other hx (by decide) (by decide) (by decide) (by decide) hk hg, hx', hg⟩
end
theorem step_len' (L L' : Lg) (kind : Int) (o : Opr) (v : List Dt) (h : L'.d = L.d.step kind o v) {k : Nat} (hk : L.ops.length ≤ k) : L'.ops.length ≤ k + 1 := by
  have h1 := L.d.step_len kind o v
  rw [← h] at h1
  have e : ∀ M : Lg, M.d.ops.length = M.ops.length := fun M => List.length_map _
  rw [e, e] at h1
  omega

set_option maxRecDepth 100000 in
set_option maxHeartbeats 12800000 in
theorem Plays_walk (B : Option Addr) (bl : List Dt) (bc : Nat) (A : Option Addr) (l : List Stp) (c : Nat) (w : World) (hb : DotsAt w B bl) (hn : B = none → bc = 0) (hs : ScrArg w A l) (hl : l.length ≤ 4611686018427387904) (hbl : bl.length ≤ 4611686018427387904) :
    Calls Try.prog 3 #[.slice B bl.length bc, .slice A l.length c] w (BoolPost w true) := by
  have HB := Lib.hid hb
  have HS := Lib.hid hs
  have HNB := Lib.hid (hb.nilness hn)
  clear hb hs hn
  go_enter Try.func3, Try.ntmps3
  go_wp2_with (fail)
  refine (much_any A l c B bl.length bc w HS.out.s.steps hl hbl).mono ?_
  unfold BoolPost
  rintro e w1 ⟨rfl, hk1⟩
  have HK1 := Lib.hid hk1
  clear hk1
  have hfin : ∀ W, Kept (fun _ => False) w W → Calls Try.prog 11 #[] W fun e W' => e = .returned (.bool true) ∧ Kept (fun _ => False) w W' := fun W hk => (known_any W).mono fun e W' ⟨h1, h2⟩ => ⟨h1, hk.trans h2 fun _ _ e => e⟩
  have HFIN := Lib.hid hfin
  clear hfin
  cases hm : muchB l bl.length with
  | true =>
    clear hm
    go_wp2_with (fail)
    refine (HFIN.out _ HK1.out).mono ?_
    rintro e w2 ⟨rfl, hk2⟩
    have HK2 := Lib.hid hk2
    clear hk2
    go_wp2
    go_ret
    exact ⟨rfl, HK2.out⟩
  | false =>
    obtain ⟨hok, hl200, hb6⟩ := HS.out.ok hm
    have HOK := Lib.hid hok
    clear hm hok
    have HB1 := Lib.hid (HB.out.fresh HK1.out)
    go_wp2_with (at_builtin; refine wpList_append_copy eltDots rfl _ _ rfl rfl B bl.length bc (dots bl) rfl HNB.out (dots_len bl) HB1.out.cells (dots_one bl) (by omega) ?_)
    intro A1 c1 w2 HO1 HK2
    have hs1 := HK2.out.size
    go_wp2_with (at_builtin; refine wpList_append_new eltDots rfl _ _ rfl w1.heap.size _ bl.length (dots bl) rfl HO1.out 1 1 rfl rfl rfl (by omega) hs1 ?_)
    intro V vc w3 HO2 HK3 HM2
    have hk3 : Kept (fun _ => False) w1 w3 := HK2.out.trans HK3.out fun k hk e => by have := (HO1.out.lt k e).1; omega
    obtain ⟨gV, hVA, -, -, -⟩ := own_cells HO2.out (by omega)
    subst hVA
    have hcap := own_cap HO2.out
    have hlv : bl.length ≤ vc := by omega
    have HV := Lib.hid (show w3.ownsRow w.heap.size 28 2 (.slice (some ⟨gV, 0, none⟩) (bl.length + 1) vc) (bl.length + 1) (dots (bl ++ [dotM])) by rw [dots_app]; exact own_base HO2.out HK1.out.size)
    have HK4 := Lib.hid (HK1.out.trans hk3 fun _ _ e => e)
    have HB3 := Lib.hid (HB1.out.fresh hk3)
    have HVD := Lib.hid (DotsAt.pre (DotsAt.of_own HV.out))
    have HGV := Lib.hid (show w.heap.size ≤ gV ∧ gV < w3.heap.size from HV.out.lt gV rfl)
    clear hk3 HO1 HK2 hs1 HO2 HK3 HM2 HB1 HNB
    obtain ⟨ck, hck⟩ : ∃ ck, checkV bl = ck := ⟨_, rfl⟩
    have HCK := Lib.hid hck
    have hn0 : (0 : Int) ≤ (bl.length : Int) := by omega
    have hn1 : (bl.length : Int) < ((bl.length + 1 : Nat) : Int) := by omega
    have hn2 : ¬ ((bl.length : Int) + 1 ≤ (bl.length : Int)) := by omega
    go_wp2_with (fail)
    refine (New_anyX _ bl vc w3 HVD.out (by omega)).mono ?_
    unfold NewPostX
    rw [hck]
    clear hck
    intro e w4 hnew
    by_cases hc0 : ck = 0
    · subst hc0
      rw [if_pos rfl] at hnew
      obtain ⟨p, L, rfl, hlg, hb0, ha0, ho0, hoA, hge, hnb, hna, hk4⟩ := hnew
      have HL := Lib.hid (LogOf.made hlg (HK4.out.trans hk4 fun _ _ e => e) (Nat.le_trans HK4.out.size hge) hoA)
      have HG := Lib.hid (show L.d.Good from by unfold Lg.d; rw [hb0, ha0, ho0]; exact Pl.Good.new HCK.out)
      have HB0 := Lib.hid hb0
      have HO0 := Lib.hid ho0
      have HOUT := Lib.hid (show Out w.heap.size w3.heap.size p L from ⟨fun e => by omega, fun k e => by have := hnb k e; omega, fun k e => by have := hna k e; omega, fun k e => (by unfold Lg.oV at e; rw [hoA] at e; cases e), fun x hx => absurd hx (by rw [ho0]; simp)⟩)
      have HOA := Lib.hid hoA
      have HV4 := Lib.hid (hk4.own HV.out fun _ _ => id)
      have HB4 := Lib.hid (HB3.out.fresh hk4)
      have HSZ4 := Lib.hid hk4.size
      clear hlg hb0 ha0 ho0 hoA hge hnb hna hk4 HV HB3 HVD HK4
      go_wp2_with (fail)
      refine (RNew_any B bl bc w4 HB4.out (by omega)).mono ?_
      unfold RNewPost
      rw [HCK.out]
      intro e w5 hnw
      rw [if_pos rfl] at hnw
      obtain ⟨R, rfl, hr, hrow, hrb, hro, hroA, hroc, hk5⟩ := hnw
      have HL5 := Lib.hid (HL.out.fresh hk5)
      have HBO := Lib.hid (show Both w p L R w5 from ⟨HL.out.fresh hk5, ⟨HL5.out.k, own_base hrow HL.out.k.size, by unfold RLg.oV; rw [hroA, hroc, hro]; exact World.ownsRow_nil _ _ _ _, fun x hx => absurd hx (by rw [hro]; simp), fun x hx => absurd hx (by rw [hro]; simp), by rw [hrb]; omega, by rw [hro]; simp⟩,
        fun k e1 e2 => (by unfold Lg.oV at e1; rw [HOA.out] at e1; cases e1), ⟨HG.out, by rw [hrb]; exact HB0.out.symm, by rw [hro]; unfold Lg.d; rw [HO0.out]⟩⟩)
      have HRO := Lib.hid (show ROut w.heap.size w3.heap.size R from ⟨fun k e => by have := (hrow.lt k e).1; have := HSZ4.out; omega, fun k e => (by unfold RLg.oV at e; rw [hroA] at e; cases e)⟩)
      have HV5 := Lib.hid (hk5.own HV4.out fun _ _ => id)
      have HB5 := Lib.hid (HB4.out.fresh hk5)
      have HLL := Lib.hid (show L.ops.length ≤ 0 by rw [HO0.out]; simp)
      have HN := Lib.hid (Box.new w5 35 RLg.zero.c)
      have hz0 : RLg.zero.c = #[.slice none 0 0, .slice none 0 0] := rfl
      rw [hz0] at HN
      clear hr hrow hrb hro hroA hroc hk5 HL HG HB0 HO0 HOA HV4 HB4 HSZ4 HL5 hz0
      go_wp2_with (refine wpList_store_box rfl 35 _ _ rfl w5.heap.size (RLg.c R) rfl rfl 35 _ HN.out (size_RL.trans rfl) rfl (RLg.c_one _) ?_)
      intro w6 HB6 hk6
      have hk56 : Kept (fun _ => False) w5 w6 := ((Kept.refl (fun _ => False) w5).alloc (.cells #[.slice none 0 0, .slice none 0 0] 35)).trans hk6 fun k hk e => by omega
      have HPL := Lib.hid (show PlAt w p w5.heap.size L R w6 from ⟨HBO.out.fresh hk56, HB6.out, HBO.out.l.k.size⟩)
      have HV6 := Lib.hid (hk56.own HV5.out fun _ _ => id)
      have HD6 := Lib.hid (DotsAt.pre (DotsAt.of_own HV6.out))
      have HB7 := Lib.hid (HB5.out.fresh hk56)
      have HGG := Lib.hid (show w3.heap.size ≤ w5.heap.size by have := HBO.out.l.l.box.lt; have := HOUT.out.p; have := HBO.out.l.ge; omega)
      obtain ⟨g, hg⟩ : ∃ g, w5.heap.size = g := ⟨_, rfl⟩
      rw [hg] at HPL HGG ⊢
      clear hk6 hk56 HBO HV5 HB5 HN HB6 hg
      go_wp2_with (fail)
      refine (vectors_any _ B bl bl vc bc w6 HD6.out HB7.out (by omega)).mono ?_
      unfold SamePost
      rw [decide_eq_true rfl]
      rintro e w7 ⟨rfl, hk7⟩
      have HP7 := Lib.hid (HPL.out.fresh hk7)
      have HV7 := Lib.hid (hk7.own HV6.out fun _ _ => id)
      have z77 : w7.cell? ⟨gV, bl.length * 2 + 1, none⟩ = some (.int .i64 77) := by
        obtain ⟨g', hA, hb', hc', -⟩ := own_cells HV7.out (by omega)
        injection hA with hA
        injection hA with hA _ _
        subst hA
        refine hc' _ _ ?_
        obtain ⟨-, g1⟩ := dots_get (bl ++ [dotM]) bl.length (by simp)
        rw [g1]
        simp [dotM]
      clear hk7 HPL HV6 HD6 HB7
      go_wp2_with (fail)
      go_loopw [10] (fun i wr => ∃ (k : Nat) (vl : List Dt), i = .int .i64 k ∧ k ≤ bl.length + 1 ∧ PlAt w p g L R wr ∧ wr.ownsRow w.heap.size 28 2 (.slice (some ⟨gV, 0, none⟩) (bl.length + 1) vc) (bl.length + 1) (dots vl)) (fun i _ => bl.length + 1 - (intOf i).toNat)
      case atStart => exact ⟨0, _, rfl, by omega, HP7.out, HV7.out⟩
      case round =>
        obtain ⟨k, vl, rfl, hk, hpl, hv⟩ := hrel
        have HP8 := Lib.hid hpl
        have HV8 := Lib.hid hv
        clear HP7 HV7 z77
        by_cases hlt : k < bl.length + 1
        · obtain ⟨g', a, b, hA, hgb, y0, y1, f, ho, hK⟩ := dots_turn hv hlt ⟨2, 99⟩
          injection hA with hA
          injection hA with hA _ _
          subst hA
          have f0 := f (k * 2)
          have f1 := f (k * 2 + 1)
          have hK' := hK.more (T := fun b => w.heap.size ≤ b ∧ b < w3.heap.size) fun k _ e => by rw [e]; exact HGV.out
          have H2 := Lib.hid (show PlAt w p g L R _ from ⟨⟨hpl.b.l.outside HOUT.out (Nat.le_refl _) hK', hpl.b.r.outside HRO.out (Nat.le_refl _) hK', hpl.b.ap, hpl.b.says⟩, hpl.x.kept hK (fun e => by have := HGV.out; have := HGG.out; omega), hpl.ge⟩)
          have H3 := Lib.hid ho
          clear f ho hK hK' hpl hv HP8 HV8
          go_wp2_with (fail)
          go_roundw
          case rel => exact ⟨k + 1, _, by go_num, by omega, H2.out, H3.out⟩
          case measure => simp [intOf]; omega
        · obtain rfl : k = bl.length + 1 := by omega
          clear hpl hv HV8
          have hcap' := hcap
          clear hcap hlv hcap'
          go_wp2_with (fail)
          as_aux_lemma =>
            go_loopw [11] (fun i wr => ∃ (k : Nat) (L : Lg) (R : RLg), i = .int .i64 k ∧ k ≤ l.length ∧ L.ops.length ≤ k ∧ PlAt w p g L R wr) (fun i _ => l.length - (intOf i).toNat)
            case atStart => exact ⟨0, L, R, rfl, Nat.zero_le _, HLL.out, HP8.out⟩
            case round =>
              obtain ⟨k, L, R, rfl, hk, hlk, hpl⟩ := hrel
              have HPL := Lib.hid hpl
              clear HP8 HLL HOUT HRO
              by_cases hlt : k < l.length
              · obtain ⟨ad, rfl, -, -, -⟩ := HS.out.s.steps k hlt
                have HOKK := Lib.hid (HOK.out l[k] (List.getElem_mem hlt))
                have hk0 : (0 : Int) ≤ (k : Int) := by omega
                have hk1 : (k : Int) < (l.length : Int) := by omega
                have hk2 : ¬ ((l.length : Int) ≤ (k : Int)) := by omega
                clear hpl
                go_upto_region 19 with (fail)
                go_cut [12, 13] (fun v12 v13 wx => ∃ (N : Nat) (L' : Lg) (R' : RLg), v12 = .pointer (some ⟨N, 0, none⟩) ∧ v13 = .bool true ∧ L'.ops.length ≤ k + 1 ∧ Both w p L' R' wx ∧ Box wx g 35 R.c ∧ Box wx N 35 R'.c)
                case first =>
                  have HP9 := Lib.hid (HPL.out.fresh (Kept.refl (fun _ => False) wr).drew)
                  clear HPL
                  refine wp_region_held_drew (S := fun Wz => Box Wz g 35 R.c ∧ Kept (fun _ => False) w Wz) (by kernel_rfl) ⟨HP9.out.x, HP9.out.b.l.k⟩ fun hS => ?_
                  generalize wr.drew = w9 at HP9 hS ⊢
                  refine held_takeTo 86 (i := 0) (v := .pointer (some ⟨p, 0, none⟩)) rfl rfl (by kernel_rfl) (by kernel_rfl) (by kernel_rfl) (fun _ _ _ h => h) rfl hS (fun Wz hW => by go_simp) ?_
                  simp only [List.setIfInBounds_toArray, List.set_cons_zero, List.set_cons_succ]
                  refine held_takeTo 87 (i := 1) (v := .agg R.c) rfl rfl (by kernel_rfl) (by kernel_rfl) (by kernel_rfl) (fun _ _ _ h => h) rfl hS (fun Wz hW => run_load_RL _ _ rfl g rfl hW.1) ?_
                  simp only [List.setIfInBounds_toArray, List.set_cons_zero, List.set_cons_succ]
                  refine held_takeTo 88 (i := 2) (v := .slice (some ad) l.length c) rfl rfl (by kernel_rfl) (by kernel_rfl) (by kernel_rfl) (fun _ _ _ h => h) rfl hS (fun Wz hW => by go_simp) ?_
                  simp only [List.setIfInBounds_toArray, List.set_cons_zero, List.set_cons_succ]
                  refine held_takeTo 89 (i := 3) (v := .int .i64 k) rfl rfl (by kernel_rfl) (by kernel_rfl) (by kernel_rfl) (fun _ _ _ h => h) rfl hS (fun Wz hW => by go_simp) ?_
                  simp only [List.setIfInBounds_toArray, List.set_cons_zero, List.set_cons_succ]
                  refine held_takeTo 90 (i := 4) (v := .pointer (some (ad.add (k * 13)))) rfl rfl (by kernel_rfl) (by kernel_rfl) (by kernel_rfl) (fun _ _ _ h => h) rfl hS (fun Wz hW => by go_simp) ?_
                  simp only [List.setIfInBounds_toArray, List.set_cons_zero, List.set_cons_succ]
                  refine held_takeTo 91 (i := 5) (v := .agg l[k].c) rfl rfl (by kernel_rfl) (by kernel_rfl) (by kernel_rfl) (fun _ _ _ h => h) rfl hS (fun Wz hW => HS.out.s.steps.load hW.2 hlt _ _ rfl ad rfl rfl) ?_
                  simp only [List.setIfInBounds_toArray, List.set_cons_zero, List.set_cons_succ]
                  refine held_two (i := 6) (j := 10) (by kernel_rfl) rfl rfl ?_ ?_
                  · intro K hK
                    go_wp2_with (fail)
                    refine (step_any w w9 p L R l[k] HP9.out.b HOKK.out (by omega)).mono ?_
                    rintro e w11 ⟨L', R', rfl, hd', hbo, hk11, -, -⟩
                    have hS11 : Box w11 g 35 R.c ∧ Kept (fun _ => False) w w11 := ⟨HP9.out.b.box hS.1 (by decide) (by decide) hk11, hbo.l.k⟩
                    have HBO := Lib.hid hbo
                    have HLK := Lib.hid (step_len' L L' _ _ _ hd' hlk)
                    clear hd' hbo hk11 HP9 hS
                    go_wp2_with (fail)
                    refine hK.out _ _ hS11 fun _ => ?_
                    clear hK K
                    refine held_takeTo 85 (i := 7) (v := .tuple #[.agg R'.c, .bool true]) rfl rfl (by kernel_rfl) (by kernel_rfl) (by kernel_rfl) (fun _ _ _ h => h) rfl hS11 (fun Wz hW => by go_simp) ?_
                    simp only [List.setIfInBounds_toArray, List.set_cons_zero, List.set_cons_succ]
                    refine held_takeTo 93 (i := 8) (v := .agg R'.c) rfl rfl (by kernel_rfl) (by kernel_rfl) (by kernel_rfl) (fun _ _ _ h => h) rfl hS11 (fun Wz hW => by go_simp) ?_
                    simp only [List.setIfInBounds_toArray, List.set_cons_zero, List.set_cons_succ]
                    refine held_takeTo 94 (i := 9) (v := .bool true) rfl rfl (by kernel_rfl) (by kernel_rfl) (by kernel_rfl) (fun _ _ _ h => h) rfl hS11 (fun Wz hW => by go_simp) ?_
                    simp only [List.setIfInBounds_toArray, List.set_cons_zero, List.set_cons_succ]
                    refine held_one (i := 10) (by kernel_rfl) rfl fun K hK => ?_
                    go_wp2_with (fail)
                    refine hK.out _ _ ⟨hS11.1.alloc _, hS11.2.alloc _⟩ fun _ => ?_
                    clear hK K
                    refine held_one (i := 11) (by kernel_rfl) rfl fun K hK => ?_
                    refine wpList_store_box rfl 35 _ _ rfl w11.heap.size (RLg.c R') rfl rfl 35 _ (Box.new w11 35 #[.slice none 0 0, .slice none 0 0]) (size_RL.trans rfl) rfl (RLg.c_one _) ?_
                    intro w13 HB13 hk13
                    have hk12 : Kept (fun _ => False) w11 w13 := ((Kept.refl (fun _ => False) w11).alloc (.cells #[.slice none 0 0, .slice none 0 0] 35)).trans hk13 fun k hk e => by omega
                    have hS13 : Box w13 g 35 R.c ∧ Kept (fun _ => False) w w13 := ⟨hS11.1.kept hk12 id, hS11.2.trans hk12 fun _ _ e => e⟩
                    have HF := Lib.hid (HBO.out.fresh hk12)
                    clear hk12 hk13
                    refine hK.out _ _ hS13 fun _ => ?_
                    clear hK K
                    refine held_one (i := 12) (by kernel_rfl) rfl fun K hK => ?_
                    go_wp2_with (fail)
                    refine hK.out _ _ hS13 fun _ => ?_
                    clear hK K
                    refine wpAnyH_done (by kernel_rfl) ?_ _
                    go_wp2_with (fail)
                    go_meet
                    case rel => exact ⟨_, L', R', rfl, rfl, HLK.out, HF.out, hS13.1, HB13.out⟩
                  · intro K hK
                    go_wp2_with (fail)
                    have HP10 := Lib.hid (HP9.out.fresh ((Kept.refl (fun _ => False) w9).alloc (.cells #[.slice none 0 0, .slice none 0 0] 35)))
                    have HN := Lib.hid (Box.new w9 35 #[.slice none 0 0, .slice none 0 0])
                    have hS10 : Box (w9.alloc (.cells #[.slice none 0 0, .slice none 0 0] 35)) g 35 R.c ∧ Kept (fun _ => False) w (w9.alloc (.cells #[.slice none 0 0, .slice none 0 0] 35)) := ⟨HP10.out.x, HP10.out.b.l.k⟩
                    have hgn : g ≠ w9.heap.size := by have := HP9.out.x.lt; omega
                    have hnw : w.heap.size ≤ w9.heap.size := HP9.out.b.l.k.size
                    refine hK.out _ _ hS10 fun _ => ?_
                    clear hK K hS
                    generalize w9.alloc (.cells #[.slice none 0 0, .slice none 0 0] 35) = w10 at HP10 HN hS10 ⊢
                    generalize w9.heap.size = N at HN hgn hnw ⊢
                    clear HP9
                    refine held_one (i := 6) (by kernel_rfl) rfl fun K hK => ?_
                    go_wp2_with (fail)
                    refine (step_any w w10 p L R l[k] HP10.out.b HOKK.out (by omega)).mono ?_
                    rintro e w11 ⟨L', R', rfl, hd', hbo, hk11, -, -⟩
                    have hS11 : Box w11 g 35 R.c ∧ Kept (fun _ => False) w w11 := ⟨HP10.out.b.box hS10.1 (by decide) (by decide) hk11, hbo.l.k⟩
                    have HBO := Lib.hid hbo
                    have HLK := Lib.hid (step_len' L L' _ _ _ hd' hlk)
                    have HN11 := Lib.hid (HP10.out.b.box HN.out (by decide) (by decide) hk11)
                    clear hd' hbo hk11 HP10 HN hS10
                    go_wp2_with (fail)
                    refine hK.out _ _ hS11 fun _ => ?_
                    clear hK K
                    refine held_takeTo 85 (i := 7) (v := .tuple #[.agg R'.c, .bool true]) rfl rfl (by kernel_rfl) (by kernel_rfl) (by kernel_rfl) (fun _ _ _ h => h) rfl hS11 (fun Wz hW => by go_simp) ?_
                    simp only [List.setIfInBounds_toArray, List.set_cons_zero, List.set_cons_succ]
                    refine held_takeTo 93 (i := 8) (v := .agg R'.c) rfl rfl (by kernel_rfl) (by kernel_rfl) (by kernel_rfl) (fun _ _ _ h => h) rfl hS11 (fun Wz hW => by go_simp) ?_
                    simp only [List.setIfInBounds_toArray, List.set_cons_zero, List.set_cons_succ]
                    refine held_takeTo 94 (i := 9) (v := .bool true) rfl rfl (by kernel_rfl) (by kernel_rfl) (by kernel_rfl) (fun _ _ _ h => h) rfl hS11 (fun Wz hW => by go_simp) ?_
                    simp only [List.setIfInBounds_toArray, List.set_cons_zero, List.set_cons_succ]
                    refine held_one (i := 11) (by kernel_rfl) rfl fun K hK => ?_
                    refine wpList_store_box rfl 35 _ _ rfl N (RLg.c R') rfl rfl 35 _ HN11.out (size_RL.trans rfl) rfl (RLg.c_one _) ?_
                    intro w13 HB13 hk13
                    have hS13 : Box w13 g 35 R.c ∧ Kept (fun _ => False) w w13 := ⟨hS11.1.kept hk13 hgn, hS11.2.trans hk13 fun k hk e => by omega⟩
                    have HF := Lib.hid (HBO.out.other HN11.out (by decide) (by decide) (by decide) (by decide) hk13 hnw)
                    clear hk13
                    refine hK.out _ _ hS13 fun _ => ?_
                    clear hK K
                    refine held_one (i := 12) (by kernel_rfl) rfl fun K hK => ?_
                    go_wp2_with (fail)
                    refine hK.out _ _ hS13 fun _ => ?_
                    clear hK K
                    refine wpAnyH_done (by kernel_rfl) ?_ _
                    go_wp2_with (fail)
                    go_meet
                    case rel => exact ⟨_, L', R', rfl, rfl, HLK.out, HF.out, hS13.1, HB13.out⟩
                case rest =>
                  obtain ⟨N, L', R', rfl, rfl, hlk', hbo, hbx, hbn⟩ := hcut
                  have HBO := Lib.hid hbo
                  have HBX := Lib.hid hbx
                  have HGE := Lib.hid HPL.out.ge
                  have y0 : wc.cell? ⟨N, 0, none⟩ = some (.slice R'.bA R'.base.length R'.bc) := by simpa [RLg.c] using hbn.cell 0
                  have y1 : wc.cell? ⟨N, 1, none⟩ = some (.slice R'.oA R'.ops.length R'.oc) := by simpa [RLg.c] using hbn.cell 1
                  clear hbo hbx hbn HPL hlk HOKK
                  go_wp2_with (refine wpList_store_box rfl 35 _ _ rfl g (RLg.c R') rfl rfl 35 _ HBX.out (size_RL.trans rfl) rfl (RLg.c_one _) ?_)
                  intro w9 HB9 hk9
                  have hpl9 := PlAt.set HBO.out HBX.out HGE.out HB9.out hk9
                  have HP9 := Lib.hid hpl9
                  obtain ⟨c0, c1⟩ := hpl9.cells
                  clear hk9 HBO HBX HGE HB9 hpl9 y0 y1
                  go_wp2_with (fail)
                  refine (alike_any p L' R' w9 HP9.out.b.l.l HP9.out.b.r.at HP9.out.b.says).mono ?_
                  unfold BoolPost
                  rintro e w10 ⟨rfl, hk10⟩
                  have HP10 := Lib.hid (HP9.out.fresh hk10)
                  clear hk10 HP9 c0 c1
                  go_wp2_with (fail)
                  go_roundw
                  case rel => (repeat apply Exists.intro); exact ⟨⟨k + 1, L', R', by go_num, by omega, hlk', HP10.out⟩, rfl⟩
                  case measure => simp [intOf]; omega
              · obtain rfl : k = l.length := by omega
                obtain ⟨c0, c1⟩ := hpl.cells
                clear hpl
                go_wp2_with (fail)
                refine (all_any p L R wr HPL.out.b.l.l HPL.out.b.r.at HPL.out.b.says (by omega)).mono ?_
                unfold BoolPost
                rintro e w9 ⟨rfl, hk9⟩
                have HK9 := Lib.hid (HPL.out.b.l.k.trans hk9 fun _ _ e => e)
                clear hk9 HPL c0 c1
                go_wp2_with (fail)
                refine (HFIN.out _ HK9.out).mono ?_
                rintro e w10 ⟨rfl, hk10⟩
                have HK10 := Lib.hid hk10
                clear hk10
                go_wp2_with (fail)
                go_ret
                exact ⟨rfl, HK10.out⟩
    · rw [if_neg hc0] at hnew
      obtain ⟨rfl, hk4⟩ := hnew
      have HV4 := Lib.hid (hk4.own HV.out fun _ _ => id)
      have HB4 := Lib.hid (HB3.out.fresh hk4)
      have HKK := Lib.hid (HK4.out.trans hk4 fun _ _ e => e)
      have HC0 := Lib.hid hc0
      have hne : (ck != 0) = true := bne_iff_ne.2 hc0
      clear hk4 HV HB3 HVD HK4
      go_wp2_with (fail)
      refine (RNew_any B bl bc w4 HB4.out (by omega)).mono ?_
      unfold RNewPost
      rw [HCK.out]
      intro e w5 hnw
      rw [if_neg HC0.out] at hnw
      obtain ⟨rfl, hk5⟩ := hnw
      have HV5 := Lib.hid (hk5.own HV4.out fun _ _ => id)
      have HB5 := Lib.hid (HB4.out.fresh hk5)
      have HK5 := Lib.hid (HKK.out.trans hk5 fun _ _ e => e)
      have HN := Lib.hid (Box.new w5 35 RLg.zero.c)
      have hz0 : RLg.zero.c = #[.slice none 0 0, .slice none 0 0] := rfl
      rw [hz0] at HN
      clear hk5 HV4 HB4 HKK hz0
      go_wp2_with (refine wpList_store_box rfl 35 _ _ rfl w5.heap.size (RLg.c RLg.zero) rfl rfl 35 _ HN.out (size_RL.trans rfl) rfl (RLg.c_one _) ?_)
      intro w6 HB6 hk6
      have hk56 : Kept (fun _ => False) w5 w6 := ((Kept.refl (fun _ => False) w5).alloc (.cells #[.slice none 0 0, .slice none 0 0] 35)).trans hk6 fun k hk e => by omega
      have HV6 := Lib.hid (hk56.own HV5.out fun _ _ => id)
      have HD6 := Lib.hid (DotsAt.pre (DotsAt.of_own HV6.out))
      have HB7 := Lib.hid (HB5.out.fresh hk56)
      have HK6 := Lib.hid (HK5.out.trans hk56 fun _ _ e => e)
      clear hk6 hk56 HV5 HB5 HN HB6 HK5
      go_wp2_with (fail)
      refine (vectors_any _ B bl bl vc bc w6 HD6.out HB7.out (by omega)).mono ?_
      unfold SamePost
      rw [decide_eq_true rfl]
      rintro e w7 ⟨rfl, hk7⟩
      have HV7 := Lib.hid (hk7.own HV6.out fun _ _ => id)
      have HK7 := Lib.hid (HK6.out.trans hk7 fun _ _ e => e)
      have z77 : w7.cell? ⟨gV, bl.length * 2 + 1, none⟩ = some (.int .i64 77) := by
        obtain ⟨g', hA, hb', hc', -⟩ := own_cells HV7.out (by omega)
        injection hA with hA
        injection hA with hA _ _
        subst hA
        refine hc' _ _ ?_
        obtain ⟨-, g1⟩ := dots_get (bl ++ [dotM]) bl.length (by simp)
        rw [g1]
        simp [dotM]
      clear hk7 HV6 HD6 HB7 HK6
      go_wp2_with (fail)
      go_loopw [10] (fun i wr => ∃ (k : Nat) (vl : List Dt), i = .int .i64 k ∧ k ≤ bl.length + 1 ∧ Kept (fun _ => False) w wr ∧ wr.ownsRow w.heap.size 28 2 (.slice (some ⟨gV, 0, none⟩) (bl.length + 1) vc) (bl.length + 1) (dots vl)) (fun i _ => bl.length + 1 - (intOf i).toNat)
      case atStart => exact ⟨0, _, rfl, by omega, HK7.out, HV7.out⟩
      case round =>
        obtain ⟨k, vl, rfl, hk, hkk, hv⟩ := hrel
        have HP8 := Lib.hid hkk
        clear HK7 HV7 z77
        by_cases hlt : k < bl.length + 1
        · obtain ⟨g', a, b, hA, hgb, y0, y1, f, ho, hK⟩ := dots_turn hv hlt ⟨2, 99⟩
          injection hA with hA
          injection hA with hA _ _
          subst hA
          have f0 := f (k * 2)
          have f1 := f (k * 2 + 1)
          have H2 := Lib.hid (hkk.trans hK fun k hk e => by have := HGV.out.1; omega)
          have H3 := Lib.hid ho
          clear f ho hK hkk hv HP8
          go_wp2_with (fail)
          go_roundw
          case rel => exact ⟨k + 1, _, by go_num, by omega, H2.out, H3.out⟩
          case measure => simp [intOf]; omega
        · obtain rfl : k = bl.length + 1 := by omega
          clear hkk hv
          go_wp2_with (fail)
          refine (HFIN.out _ HP8.out).mono ?_
          rintro e w8 ⟨rfl, hk8⟩
          have HK8 := Lib.hid hk8
          clear hk8
          go_wp2_with (fail)
          go_ret
          exact ⟨rfl, HK8.out⟩
end Go.Proofs.Ytnfehkncfjgeeaa
