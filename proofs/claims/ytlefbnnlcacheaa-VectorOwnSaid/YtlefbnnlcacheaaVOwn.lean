/- The walk of the law VectorOwn: it returns true, whatever the two lists. Conditions: the Dots lie in memory as DotsAt says. -/
import Derived.Test.YtlefbnnlcacheaaVOwnB
namespace Go.Proofs.Ytlefbnnlcacheaa
open Go Go.RowKit

set_option maxRecDepth 100000 in
set_option maxHeartbeats 2000000 in
theorem Own_walk (A B : Option Addr) (l m : List Dt) (cA cB : Nat) (w : World) (hA : DotsAt w A l) (hB : DotsAt w B m) (nA : A = none → cA = 0) :
    Calls Try.prog 6 #[.slice A l.length cA, .slice B m.length cB] w (KnownEnd w) := by
  have hwide : 4000 < l.length ∨ (l.length ≤ 4000 ∧ 4000 < m.length) ∨ (l.length ≤ 4000 ∧ m.length ≤ 4000) := by omega
  rcases hwide with h1 | ⟨h1, h2⟩ | ⟨h1, h2⟩
  iterate 2
    · clear hA hB nA
      go_enter Try.func6, Try.ntmps6
      go_wp2_with (fail)
      refine (known_any _).mono ?_
      rintro e w1 ⟨rfl, hk⟩
      have HK := Lib.hid hk
      clear hk
      go_wp2
      go_ret
      exact ⟨rfl, HK.out⟩
  have HA := Lib.hid hA
  have HB := Lib.hid hB
  have HNA := Lib.hid nA
  have HAB := Lib.hid (fun h0 => hA.lt (w := w) h0)
  have HBB := Lib.hid (fun h0 => hB.lt (w := w) h0)
  obtain ⟨q, hq⟩ : ∃ q, getV l 2 = q := ⟨_, rfl⟩
  have hqb : 0 ≤ q ∧ q ≤ 2147483647 := by
    rw [← hq]
    unfold getV
    have := (Row.says l).bd (2 : Int).toNat
    split <;> omega
  have HQ := Lib.hid hq
  obtain ⟨V, hV⟩ : ∃ V, vec (says l) = V := ⟨_, rfl⟩
  have HVV := Lib.hid hV
  have hv16 : V.length ≤ 16 := by rw [← hV]; exact vec_len (Row.says l)
  have HP := Lib.hid (show puts [] 0 (vnums (vec (says l))) = encs (vnums V) by rw [hV]; simp [puts, encs])
  have hvl : (encs (vnums V)).length ≤ 9 * 33 := by
    have h1 := encs_len (vnums V) fun x hx => by
      rcases List.mem_cons.1 hx with rfl | hx
      · omega
      · have := dotNums_bd V (by rw [← hV]; exact vec_ok (Row.says l) 17 (Nat.le_refl _)) x hx
        omega
    have h2 := dotNums_len V
    simp only [vnums, List.length_cons] at h1
    unfold encs
    simp only [vnums]
    omega
  generalize hbs : encs (vnums V) = bs at HP hvl
  have HBY := Lib.hid (show isByte bs by rw [← hbs]; exact encs_byte _)
  clear hA hB nA hq hV hbs
  obtain ⟨wo, rfl⟩ : ∃ wo : World, wo = w := ⟨_, rfl⟩
  go_enter Try.func6, Try.ntmps6
  go_wp2_with (fail)
  refine (Get_any A l cA 2 _ HA.out (by omega)).mono ?_
  rw [HQ.out]
  rintro e w1 ⟨rfl, hk1⟩
  have HK1 := Lib.hid hk1
  clear hk1
  have HD2 := Lib.hid (Box.new w1 25 #[.int .i64 2, .int .i64 (q + 1)])
  have HK2 := Lib.hid (HK1.out.alloc (.cells #[.int .i64 2, .int .i64 (q + 1)] 25))
  have hs2 : (w1.alloc (.cells #[.int .i64 2, .int .i64 (q + 1)] 25)).heap.size = w1.heap.size + 1 := by simp
  go_wp2_with (fail)
  generalize w1.alloc (.cells #[.int .i64 2, .int .i64 (q + 1)] 25) = w2 at HD2 HK2 hs2 ⊢
  have HW2 := Lib.hid (show WriterAt (w2.alloc (.cells #[.slice none 0 0, .int .i64 0] 46)) (w1.heap.size + 1) (w1.heap.size + 1) (.slice none 0 0) [] 0 by
    have := WriterAt.new w2
    rwa [hs2] at this)
  refine (Put_any _ _ _ [] 0 A l cA _ HW2.out ((HA.out.fresh HK2.out).fresh ((Kept.refl _ _).alloc _)) (by omega) (by simp)).mono ?_
  rw [HP.out]
  rintro e w3 ⟨rfl, sv, hw3, hk3, hm3⟩
  have HZ0 := Lib.hid (show OAt wo w3.heap.size A B l m w1.heap.size (q + 1) (w1.heap.size + 1) sv bs w3 from by
    have hk20 : Kept (fun _ => False) w2 (w2.alloc (.cells #[.slice none 0 0, .int .i64 0] 46)) := (Kept.refl _ _).alloc _
    have hk23 : Kept (fun _ => False) w2 w3 := hk20.trans hk3 fun k hk h => by
      rcases h with h | h
      · omega
      · cases h
    have hk := HK2.out.trans hk23 fun _ _ e => e
    have hsz := HK1.out.size
    have hs3 := hk23.size
    refine ⟨HA.out.fresh hk, HB.out.fresh hk, HD2.out.kept hk23 id, hw3, hk, hk.size, Nat.le_refl _, fun h0 a ha => ?_, fun h0 a ha => ?_, by omega, fun k h => (hw3.own_lt k h).2⟩
    · have := HAB.out h0 a ha; have := hk.size; omega
    · have := HBB.out h0 a ha; have := hk.size; omega)
  have HQ1 := Lib.hid (addV_len l ⟨2, q + 1⟩)
  clear hw3 hk3 hm3 HD2 HK2 hs2 HW2 HK1 HA HB HAB HBB HQ HP
  generalize w1.heap.size = gd at HZ0 ⊢
  generalize hN : w3.heap.size = N at HZ0
  have HN := Lib.hid hN
  clear hN
  go_wp2_with (fail)
  as_aux_lemma =>
    go_loopw [5, 8] (fun Sv i wr => ∃ (k : Nat) (vs : List Lane), i = .int .i64 k ∧ k ≤ 3 ∧ vs.length = 6 * k ∧ (∀ L ∈ vs, L.l.length ≤ 17) ∧ LAt wo N A B l m gd (q + 1) (gd + 1) sv bs Sv vs vs wr) (fun _ i _ => 3 - (intOf i).toNat)
    case atStart => exact ⟨0, [], rfl, by omega, rfl, fun L h => absurd h (by simp), HZ0.out, Lanes.nil, World.ownsRow_nil _ _ _ _⟩
    case round =>
      obtain ⟨k, vs, rfl, hk, hvl6, hv17, hz⟩ := hrel
      obtain ⟨SA, sc, rfl⟩ := own_shape hz.s
      have HZ := Lib.hid hz
      have HV17 := Lib.hid hv17
      have HV6 := Lib.hid hvl6
      clear hz hv17 hvl6
      by_cases hlt : k < 3
      · have x0 : wr.cell? ⟨gd, 0, none⟩ = some (.int .i64 2) := by simpa using HZ.out.o.d.cell 0
        have x1 : wr.cell? ⟨gd, 1, none⟩ = some (.int .i64 (q + 1)) := by simpa using HZ.out.o.d.cell 1
        go_wp2_with (fail)
        refine (Add_any A l cA ⟨2, q + 1⟩ _ HZ.out.o.a (by omega)).mono ?_
        rintro e w4 ⟨A4, c4, rfl, ho, hk4⟩
        generalize addV l ⟨2, q + 1⟩ = l4 at HQ1 ho ⊢
        have HZ4 := Lib.hid (HZ.out.more (L := ⟨A4, c4, l4⟩) hk4 ho)
        clear ho hk4 HZ x0 x1
        go_wp2_with (fail)
        refine (Data_any _ _ sv bs 0 _ HZ4.out.o.wtr (by omega)).mono ?_
        rintro e w5 hf
        obtain ⟨D, cD, rfl, hd, hk5⟩ := hf.at
        have HZ5 := Lib.hid (HZ4.out.fresh hk5)
        have HD := Lib.hid hd
        clear hf hd hk5 HZ4
        go_wp2_with (fail)
        refine (Read_any D bs cD _ HD.out HD.out.noneN (by omega)).mono ?_
        rintro e w6 ⟨dd, gr, rfl, hr, ⟨hdd, hgr⟩, hk6⟩
        have HR6 := Lib.hid (show RdAt w6 dd gr ⟨bs, 0⟩ from ⟨hr, HBY.out⟩)
        have HK6 := Lib.hid hk6
        clear hr hdd hk6 HD
        go_wp2_with (fail)
        refine (Take_any dd gr _ _ HR6.out).mono ?_
        rintro e w7 ⟨A7, c7, rfl, ho, hk7, -⟩
        have h7 := takeV_len ⟨bs, 0⟩
        generalize (takeV ⟨bs, 0⟩).2.1 = l7 at h7 ho ⊢
        generalize (takeV ⟨bs, 0⟩).1 = e7
        have HZ7 := Lib.hid (HZ5.out.more (L := ⟨A7, c7, l7⟩) (HK6.out.trans hk7 fun k h1 h2 => by omega) (own_base ho HK6.out.size))
        clear ho hk7 HZ5 HK6 HR6 hgr
        as_aux_lemma =>
          go_wp2_with (fail)
          refine (Merge_any A B l m cA cB _ HZ7.out.o.a HZ7.out.o.b (by omega) (by omega)).mono ?_
          rintro e w8 ⟨A8, c8, rfl, ho, hk8⟩
          have h8 := vecTo_len17 (maxR (says l) (says m))
          generalize vec (maxR (says l) (says m)) = l8 at h8 ho ⊢
          have HZ8 := Lib.hid (HZ7.out.more (L := ⟨A8, c8, l8⟩) hk8 ho)
          clear ho hk8 HZ7
          go_wp2_with (fail)
          refine (Least_any A A l l cA cA _ HZ8.out.o.a HZ8.out.o.a (by omega) (by omega)).mono ?_
          rintro e w9 ⟨A9, c9, rfl, ho, hk9⟩
          have h9 := vecTo_len17 (minR (says l) (says l))
          generalize vec (minR (says l) (says l)) = l9 at h9 ho ⊢
          have HZ9 := Lib.hid (HZ8.out.more (L := ⟨A9, c9, l9⟩) hk9 ho)
          clear ho hk9 HZ8
          go_wp2_with (fail)
          refine (Merge_any A none l [] cA 0 _ HZ9.out.o.a DotsAt.nil (by omega) (by simp)).mono ?_
          rintro e w10 ⟨A10, c10, rfl, ho, hk10⟩
          have h10 := vecTo_len17 (maxR (says l) (says []))
          generalize vec (maxR (says l) (says [])) = l10 at h10 ho ⊢
          have HZ10 := Lib.hid (HZ9.out.more (L := ⟨A10, c10, l10⟩) hk10 ho)
          clear ho hk10 HZ9
          go_wp2_with (fail)
          refine (Least_any A B l m cA cB _ HZ10.out.o.a HZ10.out.o.b (by omega) (by omega)).mono ?_
          rintro e w11 ⟨A11, c11, rfl, ho, hk11⟩
          have h11 := vecTo_len17 (minR (says l) (says m))
          generalize vec (minR (says l) (says m)) = l11 at h11 ho ⊢
          have HZ11 := Lib.hid (HZ10.out.more (L := ⟨A11, c11, l11⟩) hk11 ho)
          have HL11 := Lib.hid HZ11.out.o.le
          clear ho hk11 HZ10
          go_wp2_with (first | (refine wpList_six rfl (.tmp 62) (.tmp 65) (.tmp 66) (.tmp 67) (.tmp 69) (.tmp 72) rfl rfl rfl rfl rfl rfl rfl ?_) | (at_builtin; refine wpList_append_new eltVecs rfl (.tmp 59) (.tmp 73) rfl N _ vs.length (vs.map Lane.v) rfl HZ11.out.s 6 6 rfl rfl (six_one _ _ _ _ _ _ _ _ _ _ _ _ _ _ _ _ _ _) (by have := HV6.out; omega) HL11.out ?_))
          intro A12 c12 w12 HO12 HK12 HM12
          have HZ12 := Lib.hid (HZ11.out.push (ws := vs ++ [⟨A8, c8, l8⟩, ⟨A9, c9, l9⟩, ⟨A4, c4, l4⟩, ⟨A7, c7, l7⟩, ⟨A10, c10, l10⟩, ⟨A11, c11, l11⟩]) (Sv' := .slice A12 (vs.length + 6) c12) HK12.out (by rw [List.map_append, List.length_append]; exact HO12.out) (by
            simp only [List.append_assoc, List.singleton_append]
            exact ((List.perm_append_comm (l₁ := [⟨A4, c4, l4⟩, ⟨A7, c7, l7⟩]) (l₂ := [⟨A8, c8, l8⟩, ⟨A9, c9, l9⟩])).append_right [⟨A10, c10, l10⟩, ⟨A11, c11, l11⟩]).append_left vs))
          clear HZ11 HO12 HK12 HM12
          go_wp2
          go_roundw
          case rel =>
            refine ⟨k + 1, _, by go_num, by omega, by have := HV6.out; simp; omega, fun L hL => ?_, HZ12.out⟩
            simp only [List.mem_append, List.mem_cons, List.not_mem_nil, or_false] at hL
            rcases hL with hL | rfl | rfl | rfl | rfl | rfl | rfl
            · exact HV17.out L hL
            · exact h8
            · exact h9
            · exact HQ1.out
            · exact Nat.le_succ_of_le h7
            · exact h10
            · exact h11
          case measure => simp [intOf]; omega
      · obtain rfl : k = 3 := by omega
        obtain ⟨wq, rfl⟩ : ∃ wq : World, wq = wr := ⟨_, rfl⟩
        go_wp2_with (fail)
        refine (room_any A l cA _ HZ.out.o.a HNA.out (by omega)).mono ?_
        rintro e w20 ⟨Ax, cx, rfl, ho, hk20⟩
        have HZ1 := Lib.hid (HZ.out.more (L := ⟨Ax, cx, l ++ [mark]⟩) hk20 (by simpa [Owns, Lane.v] using ho))
        clear ho hk20 HZ
        go_wp2_with (fail)
        as_aux_lemma =>
          go_loopw [14] (fun i wr => ∃ (k : Nat) (us : List Lane), i = .int .i64 k ∧ k ≤ vs.length ∧ us.map Lane.v = vs.map Lane.v ∧ Over k 0 us ∧ LAt wo N A B l m gd (q + 1) (gd + 1) sv bs (.slice SA vs.length sc) us (us ++ [⟨Ax, cx, l ++ [mark]⟩]) wr) (fun i _ => vs.length - (intOf i).toNat)
          case atStart => exact ⟨0, vs, rfl, by omega, rfl, Over.zero _, HZ1.out⟩
          case round =>
            obtain ⟨k, us, rfl, hk, hm, hov, hz⟩ := hrel
            obtain ⟨hul, hu17⟩ := lane_ext hm
            have HZ := Lib.hid hz
            have HM := Lib.hid hm
            have HOV := Lib.hid hov
            have HUL := Lib.hid hul
            clear hz hm hov hul hu17 HZ1
            by_cases hlt : k < vs.length
            · have hks : k < us.length := by rw [HUL.out]; exact hlt
              have hk18 : k < 18 := by have := HV6.out; omega
              obtain ⟨wq, rfl⟩ : ∃ wq : World, wq = wr := ⟨_, rfl⟩
              go_wp2_with (fail)
              as_aux_lemma =>
                go_loopw [15] (fun j wr => ∃ (t : Nat) (us : List Lane), j = .int .i64 t ∧ t ≤ 17 ∧ us.map Lane.v = vs.map Lane.v ∧ Over k t us ∧ LAt wo N A B l m gd (q + 1) (gd + 1) sv bs (.slice SA vs.length sc) us (us ++ [⟨Ax, cx, l ++ [mark]⟩]) wr) (fun j _ => 17 - (intOf j).toNat)
                case atStart => exact ⟨0, us, rfl, by omega, HM.out, HOV.out, HZ.out⟩
                case round =>
                  obtain ⟨t, us, rfl, ht17, hm, hov, hz⟩ := hrel
                  clear HZ HM HOV HUL hks
                  obtain ⟨hul, hu17⟩ := lane_ext hm
                  have hks : k < us.length := by rw [hul]; exact hlt
                  obtain ⟨gs, rfl, x0⟩ := row_at (SA := SA) (n := vs.length) (sc := sc) hz.s hks
                  obtain ⟨L, hL⟩ : ∃ L, us[k] = L := ⟨_, rfl⟩
                  obtain ⟨Ak, ck, lk⟩ := L
                  have hO : Owns wr N ⟨Ak, ck, lk⟩ := hL ▸ hz.lanes.own us[k] (List.mem_append_left _ (List.getElem_mem hks))
                  have hlk17 : lk.length ≤ 17 := by
                    have := hu17 HV17.out us[k] (List.getElem_mem hks)
                    rwa [hL] at this
                  rw [hL] at x0
                  have x0' : wr.cell? ⟨gs, k, none⟩ = some (.slice Ak lk.length ck) := x0
                  have HOV := Lib.hid hov
                  have HM := Lib.hid hm
                  have HUL := Lib.hid hul
                  have HLL := Lib.hid hL
                  have HZ := Lib.hid hz
                  have HKS := Lib.hid hks
                  clear hz hm hov hul hu17 hL x0
                  by_cases htl : t < lk.length
                  · obtain ⟨gl, rfl, y0, y1, f⟩ := hO.cells htl
                    obtain ⟨gl', e, hO2, hk2⟩ := hO.stored htl ⟨((1000 + k : Nat) : Int), (t : Int)⟩
                    injection e with e
                    injection e with e _ _
                    subst e
                    have f0 := f (t * 2)
                    have f1 := f (t * 2 + 1)
                    have HO2 := Lib.hid hO2
                    have HK2 := Lib.hid hk2
                    clear hO hO2 hk2 f
                    go_wp2_with (fail)
                    go_roundw
                    case rel =>
                      have e1 : (1000 : Int) + (k : Int) = ((1000 + k : Nat) : Int) := by omega
                      rw [e1]
                      exact ⟨t + 1, _, by go_num, by omega, (set_v HKS.out (by rw [HLL.out]; simp [Lane.v])).trans HM.out, HOV.out.step HKS.out HLL.out htl rfl, HZ.out.turn HKS.out (by rw [HLL.out]; exact HK2.out) (by rw [HLL.out]; simp [Lane.v]) HO2.out⟩
                    case measure => simp [intOf]; omega
                  · have hlt' : lk.length ≤ t := by omega
                    clear hO
                    go_wp2_with (fail)
                    go_roundw
                    case rel => exact ⟨k + 1, _, by go_num, by omega, HM.out, HOV.out.next HKS.out (by rw [HLL.out]; exact hlt'), HZ.out⟩
                    case measure => simp [intOf]; omega
            · obtain rfl : k = vs.length := by omega
              obtain ⟨F, hMM⟩ := HZ.out.fix
              have HF := Lib.hid F
              have HMM := Lib.hid hMM
              have HU17 := Lib.hid ((lane_ext HM.out).2 HV17.out)
              have hu18 : us.length = 18 := by have := HUL.out; have := HV6.out; omega
              have HMK := Lib.hid (show ∀ j (hj : j < us.length), us[j].l = marks us[j].l.length (1000 + j) from fun j hj => HOV.out.1 j hj (by have := HUL.out; omega))
              have hvu : vs.length = us.length := HUL.out.symm
              rw [hvu] at HMM HF
              have HVU := Lib.hid hvu
              have HU18 := Lib.hid hu18
              clear F hMM HM HOV HUL HZ HV17 HV6 hlt hk hu18
              generalize wr.heap.size = N2 at HF HMM
              obtain ⟨wq, rfl⟩ : ∃ wq : World, wq = wr := ⟨_, rfl⟩
              go_wp2_with (fail)
              generalize vs.length = nv at HVU ⊢
              as_aux_lemma =>
                obtain rfl : nv = us.length := HVU.out
                clear HVU hvu
                go_loopw [16, 17] (fun mv i wr => ∃ (k : Nat) (ms : List Lane), i = .int .i64 k ∧ k ≤ us.length ∧ ms.length = k ∧ Past us ms ∧ MAt wo N A B l m gd (q + 1) (gd + 1) sv bs (.slice SA us.length sc) us N2 mv ms (ms ++ (us.drop k ++ [⟨Ax, cx, l ++ [mark]⟩])) wr) (fun _ i _ => us.length - (intOf i).toNat)
                case atStart => exact ⟨0, [], rfl, by omega, rfl, Past.nil _, HMM.out⟩
                case round =>
                  obtain ⟨k, ms, rfl, hk, hml, hpast, hz⟩ := hrel
                  obtain ⟨MA, mc, rfl⟩ := own_shape hz.row
                  have HZ := Lib.hid hz
                  have HML := Lib.hid hml
                  have HPA := Lib.hid hpast
                  clear hz hml hpast HMM
                  by_cases hlt : k < us.length
                  · have hk18 : k < 18 := by have := HU18.out; omega
                    obtain ⟨gs, rfl, x0⟩ := row_at (SA := SA) (n := us.length) (sc := sc) HZ.out.z.s hlt
                    obtain ⟨L, hL⟩ : ∃ L, us[k] = L := ⟨_, rfl⟩
                    obtain ⟨Ak, ck, lk⟩ := L
                    rw [hL] at x0
                    have x0' : wr.cell? ⟨gs, k, none⟩ = some (.slice Ak lk.length ck) := x0
                    have hlk17 : lk.length ≤ 17 := by
                      have := HU17.out us[k] (List.getElem_mem hlt)
                      rwa [hL] at this
                    have HLL := Lib.hid hL
                    have HZ1 := Lib.hid (HZ.out.perm (Q := ms ++ (⟨Ak, ck, lk⟩ :: (us.drop (k + 1) ++ [⟨Ax, cx, l ++ [mark]⟩]))) (by rw [List.drop_eq_getElem_cons hlt, hL, List.cons_append]))
                    clear hL x0 HZ
                    obtain ⟨wq, rfl⟩ : ∃ wq : World, wq = wr := ⟨_, rfl⟩
                    go_wp2_with (fail)
                    as_aux_lemma =>
                      go_loopw [18, 19] (fun gv j wr => ∃ (t : Nat) (GA : Option Addr) (gc : Nat) (gl : List Dt), gv = .slice GA gl.length gc ∧ j = .int .i64 t ∧ t ≤ 20 ∧ gl = lk ++ marks t (2000 + k) ∧ (∀ b, (Lane.mk GA gc gl).v.ownBlock = some b → us[k].v.ownBlock = some b ∨ N2 ≤ b) ∧ MAt wo N A B l m gd (q + 1) (gd + 1) sv bs (.slice (some ⟨gs, 0, none⟩) us.length sc) us N2 (.slice MA ms.length mc) ms (ms ++ (⟨GA, gc, gl⟩ :: (us.drop (k + 1) ++ [⟨Ax, cx, l ++ [mark]⟩]))) wr) (fun _ j _ => 20 - (intOf j).toNat)
                      case atStart => exact ⟨0, Ak, ck, lk, rfl, rfl, by omega, by simp [marks], fun b e => .inl (by rw [HLL.out]; exact e), HZ1.out⟩
                      case round =>
                        obtain ⟨t, GA, gc, gl, rfl, rfl, ht20, hgl, hgo, hz⟩ := hrel
                        have hgl37 : gl.length ≤ 37 := by rw [hgl, List.length_append, marks_len]; omega
                        have HGL := Lib.hid hgl
                        have HGO := Lib.hid hgo
                        have HZ := Lib.hid hz
                        have HLE := Lib.hid (Nat.le_trans HF.out.le hz.le)
                        have hn : us[k].l.length ≤ gl.length := by rw [HLL.out, hgl]; simp
                        have HN2 := Lib.hid hn
                        clear hgl hgo hz HZ1 hn
                        by_cases htl : t < 20
                        · have hO : Owns wr N ⟨GA, gc, gl⟩ := HZ.out.z.lanes.own _ (by simp)
                          have HOO := Lib.hid hO
                          clear hO
                          go_wp2_with (at_builtin; refine wpList_append_stay eltDots rfl (.tmp 116) (.tmp 121) rfl N _ gl.length (dots gl) rfl HOO.out 1 1 rfl rfl rfl (by omega) HLE.out ?_)
                          intro A' c' w' HO HK HG HS
                          have e1 : (2000 : Int) + (k : Int) = ((2000 + k : Nat) : Int) := by omega
                          obtain ⟨G', hG'⟩ : ∃ G', (⟨A', c', gl ++ [⟨((2000 + k : Nat) : Int), (t : Int)⟩]⟩ : Lane) = G' := ⟨_, rfl⟩
                          have hv' : G'.v = .slice A' (gl.length + 1) c' := by rw [← hG']; simp [Lane.v]
                          have HP := Lib.hid (HZ.out.push (M := G') HF.out hlt HGO.out HN2.out HK.out (by
                            have h := HO.out
                            rw [e1] at h
                            unfold Owns
                            rw [hv', ← hG', List.length_append, dots_app]
                            exact h) (by rw [hv']; exact HG.out) HS.out)
                          rw [← hG'] at HP
                          clear hG' hv' HO HK HG HS HOO HZ e1
                          go_wp2_with (fail)
                          go_roundw
                          case rel => exact ⟨t + 1, A', c', gl ++ [⟨((2000 + k : Nat) : Int), (t : Int)⟩], by simp, by go_num, by omega, by rw [HGL.out, marks_succ, List.append_assoc], HP.out.2, HP.out.1⟩
                          case measure => simp [intOf]; omega
                        · obtain rfl : t = 20 := by omega
                          have HLE2 := Lib.hid HZ.out.le
                          have hms : ms.length ≤ 18 := by have := HML.out; omega
                          go_wp2_with (first | (refine wpList_one rfl (.tmp 124) rfl rfl ?_) | (at_builtin; refine wpList_append_new eltVecs rfl (.tmp 123) (.tmp 125) rfl N2 _ ms.length (ms.map Lane.v) rfl HZ.out.row 1 1 rfl rfl rfl (by omega) HLE2.out ?_))
                          intro A' c' w' HO HK HG
                          have HZ' := Lib.hid (HZ.out.more (L := ⟨GA, gc, gl⟩) (MV' := .slice A' (ms.length + 1) c') HF.out HK.out (by rw [List.length_append, List.map_append]; exact HO.out))
                          have HPA' := Lib.hid (HPA.out.snoc ⟨GA, gc, gl⟩ (by rw [HML.out]; exact hlt) (by
                            have h1 := HMK.out k hlt
                            have h2 := HML.out
                            subst h2
                            rw [HLL.out] at h1 ⊢
                            simp only at h1 ⊢
                            rw [HGL.out, ← h1]))
                          clear HO HK HG HZ
                          go_wp2_with (fail)
                          go_roundw
                          case rel => exact ⟨k + 1, ms ++ [⟨GA, gc, gl⟩], by go_num, by omega, by simp [HML.out], HPA'.out, by
                            rw [List.append_assoc, List.singleton_append]
                            simpa using HZ'.out⟩
                          case measure => simp [intOf]; omega
                  · obtain rfl : k = us.length := by omega
                    have HZ1 := Lib.hid (HZ.out.perm (Q := ms ++ [⟨Ax, cx, l ++ [mark]⟩]) (by simp))
                    have HML' := Lib.hid HML.out
                    clear HZ HML hlt hk
                    obtain ⟨wq, rfl⟩ : ∃ wq : World, wq = wr := ⟨_, rfl⟩
                    go_wp2_with (fail)
                    as_aux_lemma =>
                      go_loopw [20] (fun i wr => ∃ (k : Nat), i = .int .i64 k ∧ k ≤ ms.length ∧ MAt wo N A B l m gd (q + 1) (gd + 1) sv bs (.slice SA us.length sc) us N2 (.slice MA ms.length mc) ms (ms ++ [⟨Ax, cx, l ++ [mark]⟩]) wr) (fun i _ => ms.length - (intOf i).toNat)
                      case atStart => exact ⟨0, rfl, by omega, HZ1.out⟩
                      case round =>
                        obtain ⟨k, rfl, hk, hz⟩ := hrel
                        have HZ := Lib.hid hz
                        clear hz HZ1
                        by_cases hlt : k < ms.length
                        · have hlu : k < us.length := by rw [← HML'.out]; exact hlt
                          have hk18 : k < 18 := by have := HU18.out; omega
                          obtain ⟨gs, rfl, x0⟩ := row_at (SA := SA) (n := us.length) (sc := sc) HZ.out.z.s hlu
                          obtain ⟨gm, rfl, -⟩ := row_at (SA := MA) (n := ms.length) (sc := mc) HZ.out.row hlt
                          obtain ⟨L, hL⟩ : ∃ L, us[k] = L := ⟨_, rfl⟩
                          obtain ⟨Ak, ck, lk⟩ := L
                          obtain ⟨M, hM⟩ : ∃ M, ms[k] = M := ⟨_, rfl⟩
                          obtain ⟨Bk, dk, mk⟩ := M
                          have hlk17 : lk.length ≤ 17 := by
                            have := HU17.out us[k] (List.getElem_mem hlu)
                            rwa [hL] at this
                          have hmk : mk = marks lk.length (1000 + k) ++ marks 20 (2000 + k) := by
                            have := HPA.out k hlt hlu
                            rwa [hM, hL] at this
                          have hlk : lk = marks lk.length (1000 + k) := by
                            have := HMK.out k hlu
                            rwa [hL] at this
                          have hml : mk.length = lk.length + 20 := by rw [hmk, List.length_append, marks_len, marks_len]
                          rw [hL] at x0
                          have x0' : wr.cell? ⟨gs, k, none⟩ = some (.slice Ak lk.length ck) := x0
                          have HLL := Lib.hid hL
                          have HMM := Lib.hid hM
                          have HMK2 := Lib.hid hmk
                          have HLK := Lib.hid hlk
                          have HLN := Lib.hid hml
                          clear hL hM hmk hlk hml x0
                          obtain ⟨wq, rfl⟩ : ∃ wq : World, wq = wr := ⟨_, rfl⟩
                          go_wp2_with (fail)
                          as_aux_lemma =>
                            go_loopw [22] (fun j wr => ∃ (t : Nat), j = .int .i64 t ∧ t ≤ mk.length ∧ MAt wo N A B l m gd (q + 1) (gd + 1) sv bs (.slice (some ⟨gs, 0, none⟩) us.length sc) us N2 (.slice (some ⟨gm, 0, none⟩) ms.length mc) ms (ms ++ [⟨Ax, cx, l ++ [mark]⟩]) wr) (fun j _ => mk.length - (intOf j).toNat)
                            case atStart => exact ⟨0, rfl, by omega, HZ.out⟩
                            case round =>
                              obtain ⟨t, rfl, ht, hz⟩ := hrel
                              have HZ1 := Lib.hid hz
                              clear hz HZ
                              have y0 : wr.cell? ⟨gm, k, none⟩ = some (.slice Bk mk.length dk) := by
                                obtain ⟨g', e, y⟩ := row_at HZ1.out.row hlt
                                injection e with e
                                injection e with e _ _
                                subst e
                                rw [y, HMM.out]
                                rfl
                              by_cases htl : t < mk.length
                              · by_cases htn : t < lk.length
                                · have hd := Box.new wr 25 #[.int .i64 (1000 + (k : Int)), .int .i64 (t : Int)]
                                  have hz2 := HZ1.out.fresh ((Kept.refl (fun _ => False) wr).alloc (.cells #[.int .i64 (1000 + (k : Int)), .int .i64 (t : Int)] 25))
                                  have HD := Lib.hid hd
                                  have HZ2 := Lib.hid hz2
                                  clear hd hz2
                                  go_wp2_with (fail)
                                  generalize wr.alloc (.cells #[.int .i64 (1000 + (k : Int)), .int .i64 (t : Int)] 25) = W at HD HZ2 ⊢
                                  obtain ⟨x0, y1, z, v⟩ := HZ2.out.facts HF.out hlu hlt HLL.out HMM.out
                                  obtain ⟨gB, rfl, z0, z1⟩ := z t htl
                                  obtain ⟨gA, rfl, v0, v1⟩ := v t htn
                                  have e1 : (1000 : Int) + (k : Int) = ((1000 + k : Nat) : Int) := by omega
                                  rw [past_lt HMK2.out htl htn] at z0 z1
                                  rw [marks_at HLK.out htn] at v0 v1
                                  simp only [← e1] at z0 z1 v0 v1
                                  have d0 : W.cell? ⟨wr.heap.size, 0, none⟩ = some (.int .i64 (1000 + (k : Int))) := by simpa using HD.out.cell 0
                                  have d1 : W.cell? ⟨wr.heap.size, 1, none⟩ = some (.int .i64 (t : Int)) := by simpa using HD.out.cell 1
                                  have hx := fun W => neq_dot (1000 + (k : Int)) t (1000 + (k : Int)) t W
                                  rw [decide_eq_true ⟨rfl, rfl⟩] at hx
                                  clear z v e1 y0 x0'
                                  go_quiet (fail)
                                  go_wp2
                                  go_roundw
                                  case rel => exact ⟨t + 1, by go_num, by omega, HZ2.out.fresh ((Kept.refl _ _).trans (Kept.drewN_eq nq) fun _ _ e => e)⟩
                                  case measure => simp [intOf]; omega
                                · have ht37 : t < 37 := by have := HLN.out; omega
                                  have htn' : lk.length ≤ t := by omega
                                  have hd := Box.new wr 25 #[.int .i64 (2000 + (k : Int)), .int .i64 ((t : Int) - (lk.length : Int))]
                                  have hz2 := HZ1.out.fresh ((Kept.refl (fun _ => False) wr).alloc (.cells #[.int .i64 (2000 + (k : Int)), .int .i64 ((t : Int) - (lk.length : Int))] 25))
                                  have HD := Lib.hid hd
                                  have HZ2 := Lib.hid hz2
                                  clear hd hz2
                                  go_wp2_with (fail)
                                  generalize wr.alloc (.cells #[.int .i64 (2000 + (k : Int)), .int .i64 ((t : Int) - (lk.length : Int))] 25) = W at HD HZ2 ⊢
                                  obtain ⟨x0, y1, z, v⟩ := HZ2.out.facts HF.out hlu hlt HLL.out HMM.out
                                  obtain ⟨gB, rfl, z0, z1⟩ := z t htl
                                  have e1 : (2000 : Int) + (k : Int) = ((2000 + k : Nat) : Int) := by omega
                                  have e2 : (t : Int) - (lk.length : Int) = ((t - lk.length : Nat) : Int) := by omega
                                  rw [past_ge HMK2.out htl htn] at z0 z1
                                  simp only [← e1, ← e2] at z0 z1
                                  have d0 : W.cell? ⟨wr.heap.size, 0, none⟩ = some (.int .i64 (2000 + (k : Int))) := by simpa using HD.out.cell 0
                                  have d1 : W.cell? ⟨wr.heap.size, 1, none⟩ = some (.int .i64 ((t : Int) - (lk.length : Int))) := by simpa using HD.out.cell 1
                                  have hx := fun W => neq_dot (2000 + (k : Int)) ((t : Int) - (lk.length : Int)) (2000 + (k : Int)) ((t : Int) - (lk.length : Int)) W
                                  rw [decide_eq_true ⟨rfl, rfl⟩] at hx
                                  clear z v e1 e2 y0 x0'
                                  go_quiet (fail)
                                  go_wp2
                                  go_roundw
                                  case rel => exact ⟨t + 1, by go_num, by omega, HZ2.out.fresh ((Kept.refl _ _).trans (Kept.drewN_eq nq) fun _ _ e => e)⟩
                                  case measure => simp [intOf]; omega
                              · go_wp2_with (fail)
                                go_roundw
                                case rel => exact ⟨k + 1, by go_num, by omega, HZ1.out⟩
                                case measure => simp [intOf]; omega
                        · have hXO := HZ.out.z.lanes.own ⟨Ax, cx, l ++ [mark]⟩ (by simp)
                          have HX := Lib.hid (DotsAt.init hXO.at)
                          clear hXO
                          have HL := Lib.hid HZ.out.z
                          clear HZ
                          obtain ⟨wq, rfl⟩ : ∃ wq : World, wq = wr := ⟨_, rfl⟩
                          go_wp2_with (fail)
                          refine (Same_any A Ax l l cA cx _ HL.out.o.a HX.out (by omega)).mono ?_
                          rw [show decide (l = l) = true from decide_eq_true rfl]
                          rintro e w30 ⟨rfl, hk⟩
                          have HL0 := Lib.hid (HL.out.fresh hk)
                          clear hk HL HX
                          have h17 := vecTo_len17 (maxR (says l) (says m))
                          obtain ⟨l1, hl1⟩ : ∃ l1, vec (maxR (says l) (says m)) = l1 := ⟨_, rfl⟩
                          rw [hl1] at h17
                          have HV := Lib.hid hl1
                          clear hl1
                          go_wp2_with (fail)
                          refine (Merge_any A B l m cA cB _ HL0.out.o.a HL0.out.o.b (by omega) (by omega)).mono ?_
                          rw [HV.out]
                          rintro e w31 ⟨A1, c1, rfl, ho, hk⟩
                          have HL1 := Lib.hid (HL0.out.more (L := ⟨A1, c1, l1⟩) hk ho)
                          clear ho hk HL0
                          go_wp2_with (fail)
                          refine (RMerge_any A B l m cA cB _ HL1.out.o.a HL1.out.o.b (by omega) (by omega)).mono ?_
                          rw [HV.out]
                          rintro e w32 ⟨A2, c2, rfl, ho, hk⟩
                          have HL2 := Lib.hid (HL1.out.more (L := ⟨A2, c2, l1⟩) hk ho)
                          clear ho hk HL1
                          go_wp2_with (fail)
                          refine (Same_any A1 A2 l1 l1 c1 c2 _ (HL2.out.lanes.own ⟨A1, c1, l1⟩ (by simp)).at (HL2.out.lanes.own ⟨A2, c2, l1⟩ (by simp)).at (by omega)).mono ?_
                          rw [show decide (l1 = l1) = true from decide_eq_true rfl]
                          rintro e w33 ⟨rfl, hk⟩
                          have HL3 := Lib.hid (HL2.out.fresh hk)
                          clear hk HL2
                          go_wp2_with (fail)
                          refine (known_any _).mono ?_
                          rintro e w34 ⟨rfl, hk⟩
                          have HL4 := Lib.hid (HL3.out.fresh hk)
                          clear hk HL3
                          go_wp2
                          go_ret
                          exact ⟨rfl, HL4.out.o.k⟩
end Go.Proofs.Ytlefbnnlcacheaa
