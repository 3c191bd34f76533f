/- hearsayref11.end walked. Conditions: the nodes lie in memory; at most a million. · hearsayref11.place walked. Conditions: the nodes lie in memory; at most a million. · hearsayref11.offends walked. Conditions: the nodes lie in memory; at most a million. -/
import Derived.Test.YtnajbkccaclkcaaGreatIM11
import Derived.Test.YtnajbkccaclkcaaGreatIM6
import Derived.Test.YtnajbkccaclkcaaGreatIM17
import Derived.Test.YtnajbkccaclkcaaGreatIM12
import Derived.Test.YtnajbkccaclkcaaGreatIM26
namespace Go.Proofs.YtnajbkccaclkcaaGreat
open Go Go.RowKit

theorem built_idt (t s : Int) : Tryz.prog.builtSlice 61 1 [(0, .agg #[.int .i64 t, .int .i64 s])] = some #[.int .i64 t, .int .i64 s] := by
  obtain ⟨i, hi, hz, hsz, hby⟩ := info_parts info_idt
  unfold Program.builtSlice
  simp only [hi, hz, hsz]
  rw [if_neg (by decide)]
  kernel_rfl
theorem wpList_one_idt {ops : Array Oper} {rest : List Oper} {o : Oper} {a : Act} {w : World} {Q : Exit → Act → World → Prop} (hg : o.guard = none) (x0 : Operand)
    (ho : o.op = .buildSlice 172 1 #[(0, x0)]) (t s : Int) (h0 : a.eval x0 = .agg #[.int .i64 t, .int .i64 s])
    (h : wpList Tryz.prog ops Q rest (a.put o.dst (.slice (some ⟨w.heap.size, 0, none⟩) 1 1)) (w.alloc (.cells #[.int .i64 t, .int .i64 s] 61))) :
    wpList Tryz.prog ops Q (o :: rest) a w := by
  refine Great.wpList_buildSliceTo hg _ 61 1 _ ho _ rfl _ rfl Tryz.underlying172 _ ?_ h
  have e' : (#[(0, x0)].map fun ((i, x) : Nat × Operand) => (i, a.eval x)).toList = [(0, a.eval x0)] := by simp
  rw [e', h0]
  exact built_idt ..

set_option maxRecDepth 100000 in
set_option maxHeartbeats 4000000 in
theorem end_any (A : Option Addr) (l : List Nd) (c i : Nat) (hi : i < l.length) (w : World) (hl : CellsAt w A (nds l)) (hn : l.length ≤ 1000000) : Calls Tryz.prog 97 #[.slice A l.length c, .int .i64 i] w (IntPost w ((i + 1 + endC [l[i].id] (l.drop (i + 1)) : Nat) : Int)) := by
  obtain ⟨b, f, hA, hc⟩ := hl.some_ (by rw [nds_len]; omega)
  subst hA
  have hr := nd_range (w := w) hc i hi
  obtain ⟨x, hx⟩ : ∃ x, l[i] = x := ⟨_, rfl⟩
  rw [hx] at hr ⊢
  obtain ⟨⟨xt, xs⟩, ⟨rt, rs⟩, ru, st⟩ := x
  have x0 : w.cell? ⟨b, f + i * 6, none⟩ = some (.int .i64 xt) := by simpa using hr 0 _ rfl
  have x1 : w.cell? ⟨b, f + i * 6 + 1, none⟩ = some (.int .i64 xs) := hr 1 _ rfl
  have aI := Tryz.isAgg61
  have zI := Tryz.sizeOf61
  obtain ⟨N, hN⟩ : ∃ N, l.length = N := ⟨_, rfl⟩
  rw [hN] at hn hi ⊢
  have HN := Lib.hid hN
  have HC := Lib.hid hc
  obtain ⟨E, hE⟩ : ∃ E, i + 1 + endC [(⟨xt, xs⟩ : Idt)] (l.drop (i + 1)) = E := ⟨_, rfl⟩
  simp only
  rw [hE]
  have HE := Lib.hid hE
  have hii : (i : Int) < (N : Int) := by omega
  clear hl hr hx hE hc hN
  go_enter Tryz.func97, Tryz.ntmps97
  go_upto_region 2 with (refine wpList_one_idt rfl _ rfl xt xs rfl ?_)
  have hk := (Kept.refl (fun _ => False) w).alloc (.cells #[.int .i64 xt, .int .i64 xs] 61)
  have hrow : (w.alloc (.cells #[.int .i64 xt, .int .i64 xs] 61)).ownsRow w.heap.size 61 2 (.slice (some ⟨w.heap.size, 0, none⟩) 1 1) 1 (idc [(⟨xt, xs⟩ : Idt)]) := World.ownsRow_lit w #[.int .i64 xt, .int .i64 xs] 1 (Nat.le_refl _) (by unfold maxLen; omega) rfl
  obtain ⟨ga, hga⟩ : ∃ ga, w.heap.size = ga := ⟨_, rfl⟩
  have hsz : w.heap.size = ga := hga
  rw [hga] at hrow ⊢
  generalize w.alloc (.cells #[.int .i64 xt, .int .i64 xs] 61) = w1 at hk hrow ⊢
  have HK := Lib.hid hk
  have HROW := Lib.hid hrow
  have HSG := Lib.hid hsz
  clear hk hrow hga hsz x0 x1
  go_wp2_with (fail)
  go_loopw [5, 6] (fun vu vk wr => ∃ (k : Nat) (U : List Idt) (A' : Option Addr) (c' : Nat), vu = .slice A' U.length c' ∧ vk = .int .i64 k ∧ i + 1 ≤ k ∧ k ≤ N ∧ U.length ≤ k ∧ wr.ownsRow ga 61 2 (.slice A' U.length c') U.length (idc U) ∧ Kept (fun _ => False) w wr ∧ E = k + endC U (l.drop k)) (fun _ vk _ => N - (intOf vk).toNat)
  case atStart => exact ⟨i + 1, [⟨xt, xs⟩], some ⟨ga, 0, none⟩, 1, rfl, by go_num, Nat.le_refl _, by omega, by simp, HROW.out, HK.out, HE.out.symm⟩
  case round =>
    obtain ⟨k, U, A', c', rfl, rfl, hk1, hk2, hUl, hrow, hkw, he⟩ := hrel
    obtain ⟨L, hL⟩ : ∃ L, U.length = L := ⟨_, rfl⟩
    rw [hL] at hrow hUl ⊢
    have HROW1 := Lib.hid hrow
    have HKW := Lib.hid hkw
    have HE1 := Lib.hid he
    have HL := Lib.hid hL
    clear hrow hkw he hL
    by_cases hlt : k < N
    · as_aux_lemma =>
      have hin : (k : Int) < (N : Int) := by omega
      have hkl : k < l.length := by rw [HN.out]; exact hlt
      have hr := nd_range (w := wr) (fun j u hj => HKW.out.cellF (HC.out j u hj)) k hkl
      have hd := List.drop_eq_getElem_cons hkl
      obtain ⟨y, hy⟩ : ∃ y, l[k] = y := ⟨_, rfl⟩
      rw [hy] at hr hd
      have HD := Lib.hid ((HE1.out.trans (congrArg (fun z => k + endC U z) hd)).trans (by rw [endC_cons]))
      obtain ⟨⟨yt, ys⟩, ⟨zt, zs⟩, yu, yst⟩ := y
      have HR := Lib.hid hr
      simp only at HD
      have hw1 : IntKind.i64.wrap ((L : Int) - 1) = (L : Int) - 1 := IntWalk.i64_in _ ⟨by omega, by omega⟩
      clear hr hd hy HE1
      obtain ⟨wo, hwo⟩ : ∃ wo : World, wo = wr := ⟨_, rfl⟩
      subst hwo
      go_upto_region 6 with (fail)
      go_loopw [7, 8] (fun vf vj wr => ∃ (m : Nat) (fb : Bool), vf = .bool fb ∧ vj = .int .i64 ((m : Int) - 1) ∧ m ≤ L ∧ Kept (fun _ => False) wo wr ∧ (fb = false → ∀ q (hq : q < U.length), m ≤ q → U[q] ≠ ⟨zt, zs⟩) ∧ (fb = true → (⟨zt, zs⟩ : Idt) ∈ U)) (fun _ vj _ => (intOf vj + 1).toNat)
      case atStart => exact ⟨L, false, rfl, rfl, Nat.le_refl _, Kept.refl _ _, fun _ q hq h => by have := HL.out; omega, fun h => by cases h⟩
      case round =>
        obtain ⟨m, fb, rfl, rfl, hm, hkx, hf1, hf2⟩ := hrel
        have HKX := Lib.hid hkx
        have HF1 := Lib.hid hf1
        have HF2 := Lib.hid hf2
        clear hkx hf1 hf2
        have hr0 : wr.cell? ⟨b, f + k * 6 + 2, none⟩ = some (.int .i64 zt) := HKX.out.cellF (HR.out 2 _ rfl)
        have hr1 : wr.cell? ⟨b, f + k * 6 + 3, none⟩ = some (.int .i64 zs) := HKX.out.cellF (HR.out 3 _ rfl)
        have hrX := HKX.out.own HROW1.out fun _ _ => id
        have HROWX := Lib.hid hrX
        by_cases hgo : 0 < m ∧ fb = false
        · obtain ⟨hm0, rfl⟩ := hgo
          obtain ⟨P, rfl⟩ : ∃ P, m = P + 1 := ⟨m - 1, by omega⟩
          have e1 : ((P + 1 : Nat) : Int) - 1 = (P : Int) := by omega
          rw [e1]
          have hge : (P : Int) ≥ 0 := by omega
          have hPL : (P : Int) < (L : Int) := by omega
          have hPU : P < U.length := by rw [HL.out]; omega
          obtain ⟨gb, hA', hgb, hcu, -⟩ := own_cells hrX (by omega)
          subst hA'
          have u0 : wr.cell? ⟨gb, P * 2, none⟩ = some (.int .i64 U[P].time) := hcu _ _ (idc_get U P hPU).1
          have u1 : wr.cell? ⟨gb, P * 2 + 1, none⟩ = some (.int .i64 U[P].site) := hcu _ _ (idc_get U P hPU).2
          obtain ⟨u, hu⟩ : ∃ u, U[P] = u := ⟨_, rfl⟩
          rw [hu] at u0 u1
          obtain ⟨ut, us⟩ := u
          simp only at u0 u1
          have HU := Lib.hid hu
          have HPU := Lib.hid hPU
          clear hu hgb hcu hrX e1
          by_cases hm2 : ut = zt ∧ us = zs
          · obtain ⟨rfl, rfl⟩ := hm2
            as_aux_lemma =>
            go_upto_region 8 with (fail)
            go_quiet (fail)
            go_wp2_with (fail)
            go_roundw
            case rel => exact ⟨P, true, rfl, by go_num, by omega, HKX.out.drewN nq, fun h => (by cases h), fun _ => by have := List.getElem_mem HPU.out; rwa [HU.out] at this⟩
            case measure => simp [intOf]
          · have hcase : (ut = zt ∧ (us == zs) = false) ∨ (ut == zt) = false := by
              by_cases h1 : ut = zt
              · exact .inl ⟨h1, by simp [show ¬ us = zs from fun e => hm2 ⟨h1, e⟩]⟩
              · exact .inr (by simp [h1])
            have HNE := Lib.hid hm2
            have HREL := Lib.hid (show ∀ q (hq : q < U.length), P ≤ q → U[q] ≠ ⟨zt, zs⟩ from fun q hq hPq => by
              by_cases e : q = P
              · subst e
                rw [HU.out]
                exact fun e => hm2 (by injection e with e1 e2; exact ⟨e1, e2⟩)
              · exact HF1.out rfl q hq (by omega))
            clear hm2
            rcases hcase with ⟨rfl, b2⟩ | b2
            · as_aux_lemma =>
              go_upto_region 8 with (fail)
              go_quiet (fail)
              go_wp2_with (fail)
              go_roundw
              case rel => exact ⟨P, false, rfl, by go_num, by omega, HKX.out.drewN nq, fun _ => HREL.out, fun h => by cases h⟩
              case measure => simp [intOf]
            · as_aux_lemma =>
              go_upto_region 8 with (fail)
              go_quiet (fail)
              go_wp2_with (fail)
              go_roundw
              case rel => exact ⟨P, false, rfl, by go_num, by omega, HKX.out.drewN nq, fun _ => HREL.out, fun h => by cases h⟩
              case measure => simp [intOf]
        · have hin3 : fb = true ∨ (fb = false ∧ m = 0) := by
            cases fb with
            | true => exact .inl rfl
            | false => exact .inr ⟨rfl, by simp at hgo; omega⟩
          have HKY := Lib.hid (HKW.out.trans HKX.out fun _ _ e => e)
          clear hgo
          cases fb with
          | true =>
            as_aux_lemma =>
            have hmem := HF2.out rfl
            have hE2 : E = k + 1 + endC (U ++ [(⟨yt, ys⟩ : Idt)]) (l.drop (k + 1)) := by have := HD.out; rw [if_pos hmem] at this; omega
            have HE2 := Lib.hid hE2
            have r0 : wr.cell? ⟨b, f + k * 6, none⟩ = some (.int .i64 yt) := HKX.out.cellF (by simpa using HR.out 0 _ rfl)
            have r1 : wr.cell? ⟨b, f + k * 6 + 1, none⟩ = some (.int .i64 ys) := HKX.out.cellF (HR.out 1 _ rfl)
            clear hmem hE2 hr0 hr1 hrX hw1
            rcases Nat.eq_zero_or_pos m with rfl | hm0
            · have hge : ¬ (((0 : Nat) : Int) - 1) ≥ 0 := by omega
              go_wp2_with (first | refine wpList_one_idt rfl _ rfl yt ys rfl ?_ | (at_builtin; refine Hid.out ?_))
              refine Lib.hid ?_
              refine wpList_append_new eltIds rfl _ _ rfl ga _ L (idc U) rfl HROWX.out 1 1 rfl rfl rfl (by omega) (Nat.le_trans (by have := (HSG.out); omega) HKY.out.size) ?_
              intro A2 c2 w3 HO3 HK3 HG3
              have hk3 : Kept (fun _ => False) w w3 := HKY.out.trans HK3.out fun j hj h => by
                have := (HROWX.out.lt j h).1
                have := HSG.out
                omega
              have ho3 : w3.ownsRow ga 61 2 (.slice A2 (L + 1) c2) (L + 1) (idc (U ++ [(⟨yt, ys⟩ : Idt)])) := by rw [idc_app]; exact HO3.out
              have HO4 := Lib.hid ho3
              have HK4 := Lib.hid hk3
              clear ho3 hk3 HO3 HK3 HG3 r0 r1
              go_wp2_with (fail)
              go_roundw
              case rel => exact ⟨k + 1, U ++ [⟨yt, ys⟩], A2, c2, by rw [List.length_append, HL.out]; rfl, by go_num, by omega, by omega, by rw [List.length_append, HL.out]; simp; omega, by rw [List.length_append, HL.out]; exact HO4.out, HK4.out, HE2.out⟩
              case measure => simp [intOf]; omega
            · obtain ⟨P, rfl⟩ : ∃ P, m = P + 1 := ⟨m - 1, by omega⟩
              have e1 : ((P + 1 : Nat) : Int) - 1 = (P : Int) := by omega
              rw [e1]
              have hge : (P : Int) ≥ 0 := by omega
              clear e1
              go_wp2_with (first | refine wpList_one_idt rfl _ rfl yt ys rfl ?_ | (at_builtin; refine Hid.out ?_))
              refine Lib.hid ?_
              refine wpList_append_new eltIds rfl _ _ rfl ga _ L (idc U) rfl HROWX.out 1 1 rfl rfl rfl (by omega) (Nat.le_trans (by have := (HSG.out); omega) HKY.out.size) ?_
              intro A2 c2 w3 HO3 HK3 HG3
              have hk3 : Kept (fun _ => False) w w3 := HKY.out.trans HK3.out fun j hj h => by
                have := (HROWX.out.lt j h).1
                have := HSG.out
                omega
              have ho3 : w3.ownsRow ga 61 2 (.slice A2 (L + 1) c2) (L + 1) (idc (U ++ [(⟨yt, ys⟩ : Idt)])) := by rw [idc_app]; exact HO3.out
              have HO4 := Lib.hid ho3
              have HK4 := Lib.hid hk3
              clear ho3 hk3 HO3 HK3 HG3 r0 r1
              go_wp2_with (fail)
              go_roundw
              case rel => exact ⟨k + 1, U ++ [⟨yt, ys⟩], A2, c2, by rw [List.length_append, HL.out]; rfl, by go_num, by omega, by omega, by rw [List.length_append, HL.out]; simp; omega, by rw [List.length_append, HL.out]; exact HO4.out, HK4.out, HE2.out⟩
              case measure => simp [intOf]; omega
          | false =>
            as_aux_lemma =>
            have hm0 : m = 0 := by
              rcases hin3 with h | ⟨_, h⟩
              · cases h
              · exact h
            subst hm0
            have hnm : (⟨zt, zs⟩ : Idt) ∉ U := fun h => by
              obtain ⟨q, hq, e⟩ := List.getElem_of_mem h
              exact HF1.out rfl q hq (Nat.zero_le _) e
            have hE2 : E = k := by have := HD.out; rw [if_neg hnm] at this; omega
            have HE2 := Lib.hid hE2
            have hge : ¬ (((0 : Nat) : Int) - 1) ≥ 0 := by omega
            clear hnm hE2 hr0 hr1 hrX hw1 hin3
            go_wp2_with (fail)
            go_ret
            exact ⟨ret_int (by rw [HE2.out]), HKY.out⟩
    · as_aux_lemma =>
      have hin : ¬ (k : Int) < (N : Int) := by omega
      have hE2 : E = k := by have := HE1.out; rw [List.drop_eq_nil_of_le (by rw [HN.out]; omega)] at this; simpa [endC] using this
      have HE2 := Lib.hid hE2
      clear hE2
      go_wp2_with (fail)
      go_ret
      exact ⟨ret_int (by rw [HE2.out]), HKW.out⟩
end Go.Proofs.YtnajbkccaclkcaaGreat

namespace Go.Proofs.YtnajbkccaclkcaaGreat
open Go Go.RowKit

theorem eq3 {a b c d : Int} : (a = c ∧ b = d) ∨ ((a = c ∧ (b == d) = false) ∨ (a == c) = false) ∧ ¬ ((⟨a, b⟩ : Idt) = ⟨c, d⟩) := by
  by_cases h1 : a = c
  · by_cases h2 : b = d
    · exact .inl ⟨h1, h2⟩
    · exact .inr ⟨.inl ⟨h1, by simp [h2]⟩, fun e => h2 (by injection e)⟩
  · exact .inr ⟨.inr (by simp [h1]), fun e => h1 (by injection e)⟩

set_option maxRecDepth 100000 in
set_option maxHeartbeats 4000000 in
theorem place_any (A : Option Addr) (l : List Nd) (c : Nat) (id ref : Idt) (w : World) (hl : CellsAt w A (nds l)) (hn : l.length ≤ 1000000) : Calls Tryz.prog 72 #[.slice A l.length c, .agg #[.int .i64 id.time, .int .i64 id.site], .agg #[.int .i64 ref.time, .int .i64 ref.site]] w (IntPost w ((placeN l id ref : Nat) : Int)) := by
  obtain ⟨it, is⟩ := id
  obtain ⟨rt, rs⟩ := ref
  obtain ⟨N, hN⟩ : ∃ N, l.length = N := ⟨_, rfl⟩
  have HEND := Lib.hid (show ∀ (i : Nat) (hi : i < l.length) (W : World), Kept (fun _ => False) w W → Calls Tryz.prog 97 #[.slice A N c, .int .i64 i] W (IntPost W ((i + 1 + endC [l[i].id] (l.drop (i + 1)) : Nat) : Int)) from fun i hi W hW => by
    have := end_any A l c i hi W (hl.fresh hW) hn
    rw [hN] at this
    exact this)
  rw [hN] at hn ⊢
  have HN := Lib.hid hN
  have HL := Lib.hid hl
  clear hl hN
  simp only
  obtain ⟨P, hP⟩ : ∃ P, placeN l ⟨it, is⟩ ⟨rt, rs⟩ = P := ⟨_, rfl⟩
  rw [hP]
  have HPL := Lib.hid hP
  clear hP
  go_enter Tryz.func72, Tryz.ntmps72
  go_upto_region 1 with (fail)
  have hk : Kept (fun _ => False) w ((w.alloc (.cells #[.int .i64 it, .int .i64 is] 61)).alloc (.cells #[.int .i64 rt, .int .i64 rs] 61)) := ((Kept.refl _ _).alloc _).alloc _
  have hb1 := (Box.new w 61 #[.int .i64 it, .int .i64 is]).alloc (.cells #[.int .i64 rt, .int .i64 rs] 61)
  have hb2 := Box.new (w.alloc (.cells #[.int .i64 it, .int .i64 is] 61)) 61 #[.int .i64 rt, .int .i64 rs]
  rw [World.size_alloc] at hb2
  generalize (w.alloc (.cells #[.int .i64 it, .int .i64 is] 61)).alloc (.cells #[.int .i64 rt, .int .i64 rs] 61) = w2 at hk hb1 hb2 ⊢
  obtain ⟨g, hg⟩ : ∃ g, w.heap.size = g := ⟨_, rfl⟩
  rw [hg] at hb1 hb2 ⊢
  have HB1 := Lib.hid hb1
  have HB2 := Lib.hid hb2
  have HK := Lib.hid hk
  have y0 : w2.cell? ⟨g + 1, 0, none⟩ = some (.int .i64 rt) := by simpa using hb2.cell 0
  have y1 : w2.cell? ⟨g + 1, 1, none⟩ = some (.int .i64 rs) := by simpa using hb2.cell 1
  have aI := Tryz.isAgg61
  have zI := Tryz.sizeOf61
  clear hb1 hb2 hk hg
  obtain ⟨bn, hbn⟩ : ∃ bn, (!decide ((⟨rt, rs⟩ : Idt) = noId)) = bn := ⟨_, rfl⟩
  have HBN := Lib.hid hbn
  clear hbn
  go_upto_region 2 with (fail)
  go_cut [10] (fun v wx => v = .bool bn ∧ wx = w2)
  case first =>
    rcases (eq3 : (rt = 0 ∧ rs = 0) ∨ _) with ⟨rfl, rfl⟩ | ⟨⟨rfl, b2⟩ | b2, hne⟩
    · as_aux_lemma =>
      obtain rfl : false = bn := by rw [← HBN.out]; simp [noId]
      go_wp2_with (fail)
      go_meet
      case rel => exact ⟨rfl, rfl⟩
    · as_aux_lemma =>
      obtain rfl : true = bn := by rw [← HBN.out, decide_eq_false (show ¬ (⟨0, rs⟩ : Idt) = noId from hne)]; rfl
      clear hne
      go_wp2_with (fail)
      go_meet
      case rel => exact ⟨rfl, rfl⟩
    · as_aux_lemma =>
      obtain rfl : true = bn := by rw [← HBN.out, decide_eq_false (show ¬ (⟨rt, rs⟩ : Idt) = noId from hne)]; rfl
      clear hne
      go_wp2_with (fail)
      go_meet
      case rel => exact ⟨rfl, rfl⟩
  case rest =>
  obtain ⟨rfl, hwc⟩ := hcut
  subst hwc
  obtain ⟨w2, hw2⟩ : ∃ w2 : World, w2 = wc := ⟨_, rfl⟩
  subst hw2
  obtain ⟨S, hS⟩ : ∃ S, startN l ⟨rt, rs⟩ = S := ⟨_, rfl⟩
  have HS := Lib.hid hS
  clear hS
  go_upto_if 10 with (fail)
  go_cut [7] (fun v wx => v = .int .i64 S ∧ Kept (fun _ => False) w2 wx)
  case first =>
    cases bn with
    | false =>
      as_aux_lemma =>
      obtain rfl : 0 = S := by rw [← HS.out]; unfold startN; rw [if_pos (by simpa using HBN.out)]
      go_wp2_with (fail)
      go_meet
      case rel => exact ⟨rfl, Kept.refl _ _⟩
    | true =>
      as_aux_lemma =>
      have hs : S = idxN ⟨rt, rs⟩ l + 1 := by rw [← HS.out]; unfold startN; rw [if_neg (by simpa using HBN.out)]
      have HS2 := Lib.hid hs
      have HSL := Lib.hid (idxN_le ⟨rt, rs⟩ l)
      clear hs y0 y1
      go_wp2_with (fail)
      go_loopw [7] (fun v wr => ∃ k : Nat, v = .int .i64 k ∧ k ≤ N ∧ Kept (fun _ => False) w2 wr ∧ idxN ⟨rt, rs⟩ l = k + idxN ⟨rt, rs⟩ (l.drop k)) (fun v _ => N - (intOf v).toNat)
      case atStart => exact ⟨0, rfl, Nat.zero_le _, Kept.refl _ _, by simp⟩
      case round =>
        obtain ⟨k, rfl, hk, hkw, hf⟩ := hrel
        have HF := Lib.hid hf
        have HKW := Lib.hid hkw
        have y0 : wr.cell? ⟨g + 1, 0, none⟩ = some (.int .i64 rt) := by simpa using (HB2.out.kept hkw id).cell 0
        have y1 : wr.cell? ⟨g + 1, 1, none⟩ = some (.int .i64 rs) := by simpa using (HB2.out.kept hkw id).cell 1
        clear hf hkw
        by_cases hlt : k < N
        · have hin : (k : Int) < (N : Int) := by omega
          have hkl : k < l.length := by rw [HN.out]; exact hlt
          obtain ⟨b, f, hA, hc⟩ := HL.out.some_ (by rw [nds_len]; omega)
          subst hA
          have hr := nd_range (w := wr) (fun j u hj => HKW.out.cellF (HK.out.cellF (hc j u hj))) k hkl
          have hd := List.drop_eq_getElem_cons hkl
          obtain ⟨x, hx⟩ : ∃ x, l[k] = x := ⟨_, rfl⟩
          rw [hx] at hr hd
          have HD := Lib.hid ((HF.out.trans (congrArg (fun z => k + idxN ⟨rt, rs⟩ z) hd)).trans (by rw [idxN_cons]))
          obtain ⟨⟨xt, xs⟩, ⟨zt, zs⟩, ru, st⟩ := x
          have x0 : wr.cell? ⟨b, f + k * 6, none⟩ = some (.int .i64 xt) := by simpa using hr 0 _ rfl
          have x1 : wr.cell? ⟨b, f + k * 6 + 1, none⟩ = some (.int .i64 xs) := hr 1 _ rfl
          simp only at HD
          clear hr hd hx hc HF
          rcases (eq3 : (xt = rt ∧ xs = rs) ∨ _) with ⟨rfl, rfl⟩ | ⟨hcase, hne⟩
          · as_aux_lemma =>
            have hres : S = k + 1 := by have := HD.out; rw [if_pos rfl] at this; have := HS2.out; omega
            have HR := Lib.hid hres
            clear hres
            go_upto_region 3 with (fail)
            go_quiet (fail)
            go_wp2_with (fail)
            go_meet
            case rel => exact ⟨by rw [HR.out]; go_num, HKW.out.drewN nq⟩
          · have hres : idxN ⟨rt, rs⟩ l = k + 1 + idxN ⟨rt, rs⟩ (l.drop (k + 1)) := by have := HD.out; rw [if_neg hne] at this; omega
            have HR := Lib.hid hres
            clear hres hne
            rcases hcase with ⟨rfl, b2⟩ | b2
            · as_aux_lemma =>
              go_upto_region 3 with (fail)
              go_quiet (fail)
              go_wp2_with (fail)
              go_roundw
              case rel => exact ⟨k + 1, by go_num, by omega, HKW.out.drewN nq, HR.out⟩
              case measure => simp [intOf]; omega
            · as_aux_lemma =>
              go_upto_region 3 with (fail)
              go_quiet (fail)
              go_wp2_with (fail)
              go_roundw
              case rel => exact ⟨k + 1, by go_num, by omega, HKW.out.drewN nq, HR.out⟩
              case measure => simp [intOf]; omega
        · as_aux_lemma =>
          have hin : ¬ (k : Int) < (N : Int) := by omega
          have hres : S = k + 1 := by
            have := HF.out
            rw [List.drop_eq_nil_of_le (by rw [HN.out]; omega)] at this
            simp [idxN] at this
            have := HS2.out
            omega
          have HR := Lib.hid hres
          clear hres
          go_upto_region 3 with (fail)
          go_quiet (fail)
          go_wp2_with (fail)
          go_meet
          case rel => exact ⟨by rw [HR.out]; go_num, HKW.out.drewN nq⟩
  case rest =>
    obtain ⟨rfl, hkc⟩ := hcut
    have HKC := Lib.hid hkc
    have hP := HPL.out
    unfold placeN at hP
    rw [HS.out] at hP
    have HP := Lib.hid hP
    have hS1 : S ≤ N + 1 := by
      have h1 := idxN_le ⟨rt, rs⟩ l
      have h2 := HN.out
      have h3 := HS.out
      unfold startN at h3
      split at h3 <;> omega
    clear hP hkc y0 y1
    go_wp2_with (fail)
    go_loopw [7] (fun v wr => ∃ k : Nat, v = .int .i64 k ∧ k ≤ N + 1 ∧ Kept (fun _ => False) w2 wr ∧ P = k + walkC ⟨it, is⟩ ⟨rt, rs⟩ (l.drop k)) (fun v _ => N + 1 - (intOf v).toNat)
    case atStart => exact ⟨S, rfl, hS1, HKC.out, HP.out.symm⟩
    case round =>
      obtain ⟨k, rfl, hk, hkw, hf⟩ := hrel
      have HF := Lib.hid hf
      have HKW := Lib.hid hkw
      have y0 : wr.cell? ⟨g + 1, 0, none⟩ = some (.int .i64 rt) := by simpa using (HB2.out.kept hkw id).cell 0
      have y1 : wr.cell? ⟨g + 1, 1, none⟩ = some (.int .i64 rs) := by simpa using (HB2.out.kept hkw id).cell 1
      have v0 : wr.cell? ⟨g, 0, none⟩ = some (.int .i64 it) := by simpa using (HB1.out.kept hkw id).cell 0
      have v1 : wr.cell? ⟨g, 1, none⟩ = some (.int .i64 is) := by simpa using (HB1.out.kept hkw id).cell 1
      clear hf hkw
      by_cases hlt : k < N
      · have hin : (k : Int) < (N : Int) := by omega
        have hkl : k < l.length := by rw [HN.out]; exact hlt
        obtain ⟨b, f, hA, hc⟩ := HL.out.some_ (by rw [nds_len]; omega)
        subst hA
        have hr := nd_range (w := wr) (fun j u hj => HKW.out.cellF (HK.out.cellF (hc j u hj))) k hkl
        have hd := List.drop_eq_getElem_cons hkl
        have HE := Lib.hid (HEND.out k hkl)
        obtain ⟨x, hx⟩ : ∃ x, l[k] = x := ⟨_, rfl⟩
        rw [hx] at hr hd HE
        have HD := Lib.hid ((HF.out.trans (congrArg (fun z => k + walkC ⟨it, is⟩ ⟨rt, rs⟩ z) hd)).trans (by rw [walkC_cons]))
        obtain ⟨⟨xt, xs⟩, ⟨zt, zs⟩, ru, st⟩ := x
        have x0 : wr.cell? ⟨b, f + k * 6, none⟩ = some (.int .i64 xt) := by simpa using hr 0 _ rfl
        have x1 : wr.cell? ⟨b, f + k * 6 + 1, none⟩ = some (.int .i64 xs) := hr 1 _ rfl
        have x2 : wr.cell? ⟨b, f + k * 6 + 2, none⟩ = some (.int .i64 zt) := hr 2 _ rfl
        have x3 : wr.cell? ⟨b, f + k * 6 + 3, none⟩ = some (.int .i64 zs) := hr 3 _ rfl
        simp only at HD HE
        clear hr hd hx hc HF HEND
        rcases (eq3 : (zt = rt ∧ zs = rs) ∨ _) with ⟨rfl, rfl⟩ | ⟨hcase, hne⟩
        · have HLO := Lib.hid (fun W => RLower_any ⟨it, is⟩ ⟨xt, xs⟩ W)
          unfold idV at HLO
          simp only at HLO
          obtain ⟨bl, hbl⟩ : ∃ bl, decide (ltId ⟨it, is⟩ ⟨xt, xs⟩) = bl := ⟨_, rfl⟩
          rw [hbl] at HLO
          have HBL := Lib.hid hbl
          clear hbl
          go_upto_region 6 with (fail)
          go_cut [49] (fun v wx => v = .bool bl ∧ Kept (fun _ => False) wr wx)
          case first =>
            as_aux_lemma =>
            refine wp_region_class (C := fun w' => Kept (fun _ => False) wr w') (by kernel_rfl) (by kernel_rfl) (Kept.refl _ _).drew ?_
            iterate 22
              first | go_big_quiet_skip | (go_big_quiet_want; first | (go_big_quiet_op; go_big_quiet_on) | (apply Exists.intro; refine ⟨fun w' hS => ?_, ?_⟩; (have d0 := hS.cellF x0; have d1 := hS.cellF x1; have d2 := hS.cellF x2; have d3 := hS.cellF x3; have d4 := hS.cellF y0; have d5 := hS.cellF y1; have d6 := hS.cellF v0; have d7 := hS.cellF v1; go_simp; first | rfl | exact ⟨rfl, rfl⟩ | ((with_reducible refine (HLO.out _).mono ?_); unfold BoolPost; rintro e w2 ⟨rfl, hk⟩; exact ⟨rfl, hS.trans hk fun _ _ e => e⟩)); (try simp only [Act.put, List.setIfInBounds_toArray, List.set_cons_zero, List.set_cons_succ]); go_big_quiet_on))
            refine wpQuiet_nil ?_
            intro w5 hS
            have HS := Lib.hid hS
            clear hS x0 x1 x2 x3 y0 y1 v0 v1
            go_wp2_with (fail)
            go_meet
            case rel => exact ⟨rfl, HS.out⟩
          case rest =>
          obtain ⟨rfl, hkc2⟩ := hcut
          have HKD := Lib.hid (HKW.out.trans hkc2 fun _ _ e => e)
          clear hkc2 x0 x1 x2 x3 y0 y1 v0 v1
          cases bl with
          | true =>
            as_aux_lemma =>
            have hres : P = (k + 1 + endC [(⟨xt, xs⟩ : Idt)] (l.drop (k + 1))) + walkC ⟨it, is⟩ ⟨zt, zs⟩ (l.drop (k + 1 + endC [(⟨xt, xs⟩ : Idt)] (l.drop (k + 1)))) := by
              have := HD.out
              rw [if_pos ⟨rfl, of_decide_eq_true HBL.out⟩, List.drop_drop] at this
              omega
            have hle : k + 1 + endC [(⟨xt, xs⟩ : Idt)] (l.drop (k + 1)) ≤ N := by
              have := endC_le [(⟨xt, xs⟩ : Idt)] (l.drop (k + 1))
              rw [List.length_drop] at this
              have := HN.out
              omega
            have hlow : k + 1 ≤ k + 1 + endC [(⟨xt, xs⟩ : Idt)] (l.drop (k + 1)) := by omega
            have HE2 := Lib.hid (HE.out _ (HK.out.trans HKD.out fun _ _ e => e))
            obtain ⟨E, hE⟩ : ∃ E, k + 1 + endC [(⟨xt, xs⟩ : Idt)] (l.drop (k + 1)) = E := ⟨_, rfl⟩
            rw [hE] at hres hle hlow HE2
            have HR := Lib.hid hres
            clear hres hE HE HD
            go_wp2_with (fail)
            refine HE2.out.mono ?_
            unfold IntPost
            rintro r w6 ⟨rfl, hk6⟩
            have HK6 := Lib.hid hk6
            clear hk6
            go_wp2_with (fail)
            go_roundw
            case rel => exact ⟨E, rfl, by omega, HKD.out.trans HK6.out fun _ _ e => e, HR.out⟩
            case measure => simp [intOf]; omega
          | false =>
            as_aux_lemma =>
            have hres : P = k := by
              have := HD.out
              rw [if_neg (fun e => (of_decide_eq_false HBL.out) e.2)] at this
              omega
            have HR := Lib.hid hres
            clear hres HE HD
            go_wp2_with (fail)
            go_ret
            exact ⟨ret_int (by rw [HR.out]), HK.out.trans HKD.out fun _ _ e => e⟩
        · have hres : P = k := by
            have := HD.out
            rw [if_neg (fun e => hne e.1)] at this
            omega
          have HR := Lib.hid hres
          clear hres HE HD hne
          rcases hcase with ⟨rfl, b2⟩ | b2
          · as_aux_lemma =>
            go_upto_region 6 with (fail)
            go_quiet (fail)
            go_wp2_with (fail)
            go_ret
            exact ⟨ret_int (by rw [HR.out]), (HK.out.trans HKW.out fun _ _ e => e).drewN nq⟩
          · as_aux_lemma =>
            go_upto_region 6 with (fail)
            go_quiet (fail)
            go_wp2_with (fail)
            go_ret
            exact ⟨ret_int (by rw [HR.out]), (HK.out.trans HKW.out fun _ _ e => e).drewN nq⟩
      · as_aux_lemma =>
        have hin : ¬ (k : Int) < (N : Int) := by omega
        have hres : P = k := by
          have := HF.out
          rw [List.drop_eq_nil_of_le (by rw [HN.out]; omega), walkC_nil] at this
          omega
        have HR := Lib.hid hres
        clear hres
        go_upto_region 6 with (fail)
        go_quiet (fail)
        go_wp2_with (fail)
        go_ret
        exact ⟨ret_int (by rw [HR.out]), (HK.out.trans HKW.out fun _ _ e => e).drewN nq⟩
end Go.Proofs.YtnajbkccaclkcaaGreat

namespace Go.Proofs.YtnajbkccaclkcaaGreat
open Go Go.RowKit

theorem atN_in {l : List Nd} {id : Idt} : 0 ≤ atN l id ↔ id ∈ l.map (·.id) := by
  rw [← idxN_lt]
  unfold atN
  split <;> omega
theorem nodeE_congr {n : Nd} {S T : List Idt} (h : ∀ i, i ∈ S ↔ i ∈ T) : nodeE n S = nodeE n T := by
  unfold nodeE
  rw [show decide (n.id ∈ S) = decide (n.id ∈ T) by rw [decide_eq_decide]; exact h _, show decide (n.ref ∈ S) = decide (n.ref ∈ T) by rw [decide_eq_decide]; exact h _]

set_option maxRecDepth 100000 in
set_option maxHeartbeats 8000000 in
theorem offends_any (A : Option Addr) (l : List Nd) (c i : Nat) (hi : i < l.length) (w : World) (hl : CellsAt w A (nds l)) (hc : l.length ≤ c) (hn : l.length ≤ 1000000) : Calls Tryz.prog 70 #[.slice A l.length c, .int .i64 i] w (IntPost w (nodeE l[i] ((l.take i).map (·.id)))) := by
  obtain ⟨b, f, hA, hcc⟩ := hl.some_ (by rw [nds_len]; omega)
  subst hA
  have hr := nd_range (w := w) hcc i hi
  have hlt : (l.take i).length = i := by rw [List.length_take]; omega
  have hcT : CellsAt w (some ⟨b, f, none⟩) (nds (l.take i)) := fun j u hj => hl j u (by
    rw [← nds_take, List.getElem?_take] at hj
    split at hj
    · exact hj
    · cases hj)
  have HAT := Lib.hid (fun (z : Idt) W (hW : Kept (fun _ => False) w W) => at_any (some ⟨b, f, none⟩) (l.take i) c z W (hcT.fresh hW) (by omega))
  rw [hlt] at HAT
  obtain ⟨T, hT⟩ : ∃ T, l.take i = T := ⟨_, rfl⟩
  rw [hT] at HAT ⊢
  obtain ⟨x, hx⟩ : ∃ x, l[i] = x := ⟨_, rfl⟩
  rw [hx] at hr ⊢
  obtain ⟨⟨it, is⟩, ⟨rt, rs⟩, ru, st⟩ := x
  obtain ⟨N, hN⟩ : ∃ N, l.length = N := ⟨_, rfl⟩
  rw [hN] at hi hc hn ⊢
  have HR := Lib.hid hr
  obtain ⟨se, hse⟩ : ∃ se, nodeE ⟨⟨it, is⟩, ⟨rt, rs⟩, ru, st⟩ (T.map (·.id)) = se := ⟨_, rfl⟩
  rw [hse]
  unfold nodeE at hse
  simp only at hse
  have hii : (i : Int) < (N : Int) := by omega
  have hiN : (i : Int) ≤ (N : Int) := by omega
  have hiC : (i : Int) ≤ (c : Int) := by omega
  have hic : i ≤ c := by omega
  have HM1 := Lib.hid (fun W => RIsID_any ⟨it, is⟩ W)
  have HM2 := Lib.hid (fun W => RIsID_any ⟨rt, rs⟩ W)
  have HRU := Lib.hid (fun W => RIsRune_any ru W)
  have HLO := Lib.hid (fun W => RLower_any ⟨rt, rs⟩ ⟨it, is⟩ W)
  unfold idV at HM1 HM2 HLO
  simp only at HM1 HM2 HLO
  obtain ⟨b1, hb1⟩ : ∃ b1, okId ⟨it, is⟩ = b1 := ⟨_, rfl⟩
  obtain ⟨b2, hb2⟩ : ∃ b2, okId ⟨rt, rs⟩ = b2 := ⟨_, rfl⟩
  obtain ⟨br, hbr⟩ : ∃ br, isRuneB ru = br := ⟨_, rfl⟩
  obtain ⟨bl, hbl⟩ : ∃ bl, decide (ltId ⟨rt, rs⟩ ⟨it, is⟩) = bl := ⟨_, rfl⟩
  obtain ⟨bg, hbg⟩ : ∃ bg, decide ((⟨rt, rs⟩ : Idt) = noId) = bg := ⟨_, rfl⟩
  rw [hb1] at HM1 hse
  rw [hb2] at HM2 hse
  rw [hbr] at HRU hse
  rw [hbl] at HLO hse
  rw [hbg] at hse
  obtain ⟨q1, hq1⟩ : ∃ q1, (!b1 || (!bg && !b2)) = q1 := ⟨_, rfl⟩
  obtain ⟨q2, hq2⟩ : ∃ q2, (!br || decide (st < 1) || decide (3 < st)) = q2 := ⟨_, rfl⟩
  obtain ⟨q4, hq4⟩ : ∃ q4, decide ((⟨it, is⟩ : Idt) ∈ T.map (·.id)) = q4 := ⟨_, rfl⟩
  obtain ⟨q5, hq5⟩ : ∃ q5, (!bg && !decide ((⟨rt, rs⟩ : Idt) ∈ T.map (·.id))) = q5 := ⟨_, rfl⟩
  rw [hq1, hq2, hq4, hq5] at hse
  have HSE := Lib.hid hse
  have HQ1 := Lib.hid hq1
  have HQ2 := Lib.hid hq2
  have HQ4 := Lib.hid hq4
  have HQ5 := Lib.hid hq5
  have HBG := Lib.hid hbg
  clear hse hq1 hq2 hq4 hq5 hbg hb1 hb2 hbr hbl hr hx hN hl hcc hlt hcT hT
  go_enter Tryz.func70, Tryz.ntmps70
  go_upto_region 2 with (refine wpList_load_nd rfl _ rfl b (f + i * 6) rfl _ HR.out ?_)
  have hk := (Kept.refl (fun _ => False) w).alloc (.cells #[.int .i64 it, .int .i64 is, .int .i64 rt, .int .i64 rs, .int .i32 ru, .int .i64 st] 66)
  have hb := Box.new w 66 #[.int .i64 it, .int .i64 is, .int .i64 rt, .int .i64 rs, .int .i32 ru, .int .i64 st]
  generalize w.alloc (.cells #[.int .i64 it, .int .i64 is, .int .i64 rt, .int .i64 rs, .int .i32 ru, .int .i64 st] 66) = w1 at hk hb ⊢
  obtain ⟨g, hg⟩ : ∃ g, w.heap.size = g := ⟨_, rfl⟩
  rw [hg] at hb ⊢
  have HK := Lib.hid hk
  have HC := Lib.hid (show ∀ W, Kept (fun _ => False) w1 W → Box W g 66 #[.int .i64 it, .int .i64 is, .int .i64 rt, .int .i64 rs, .int .i32 ru, .int .i64 st] from fun W hW => hb.kept hW id)
  have HC0 := Lib.hid (show ∀ W, Kept (fun _ => False) w1 W → W.cell? ⟨g, 0, none⟩ = some (.int .i64 it) from fun W hW => by simpa using (HC.out W hW).cell 0)
  have HC1 := Lib.hid (show ∀ W, Kept (fun _ => False) w1 W → W.cell? ⟨g, 1, none⟩ = some (.int .i64 is) from fun W hW => by simpa using (HC.out W hW).cell 1)
  have HC2 := Lib.hid (show ∀ W, Kept (fun _ => False) w1 W → W.cell? ⟨g, 2, none⟩ = some (.int .i64 rt) from fun W hW => by simpa using (HC.out W hW).cell 2)
  have HC3 := Lib.hid (show ∀ W, Kept (fun _ => False) w1 W → W.cell? ⟨g, 3, none⟩ = some (.int .i64 rs) from fun W hW => by simpa using (HC.out W hW).cell 3)
  have HC4 := Lib.hid (show ∀ W, Kept (fun _ => False) w1 W → W.cell? ⟨g, 4, none⟩ = some (.int .i32 ru) from fun W hW => by simpa using (HC.out W hW).cell 4)
  have HC5 := Lib.hid (show ∀ W, Kept (fun _ => False) w1 W → W.cell? ⟨g, 5, none⟩ = some (.int .i64 st) from fun W hW => by simpa using (HC.out W hW).cell 5)
  have aI := Tryz.isAgg61
  have zI := Tryz.sizeOf61
  clear hk hb hg
  go_cut [11] (fun v wx => v = .bool q1 ∧ Kept (fun _ => False) w1 wx)
  case first =>
    have c0 := HC0.out _ (Kept.refl _ _)
    have c1 := HC1.out _ (Kept.refl _ _)
    cases b1 with
    | false =>
      as_aux_lemma =>
      obtain rfl : true = q1 := by rw [← HQ1.out]; simp
      go_wp2_with (fail)
      refine (HM1.out _).mono ?_
      unfold BoolPost
      rintro r w3 ⟨rfl, hk3⟩
      have HK3 := Lib.hid hk3
      clear hk3 c0 c1
      go_wp2_with (fail)
      go_meet
      case rel => exact ⟨rfl, HK3.out⟩
    | true =>
      rcases (eq3 : (rt = 0 ∧ rs = 0) ∨ _) with ⟨rfl, rfl⟩ | ⟨hcase, hne⟩
      · as_aux_lemma =>
        obtain rfl : false = q1 := by rw [← HQ1.out, ← HBG.out]; simp [noId]
        go_wp2_with (fail)
        refine (HM1.out _).mono ?_
        unfold BoolPost
        rintro r w3 ⟨rfl, hk3⟩
        have HK3 := Lib.hid hk3
        have c2 := HC2.out _ hk3
        have c3 := HC3.out _ hk3
        clear hk3 c0 c1
        go_wp2_with (fail)
        go_meet
        case rel => exact ⟨rfl, HK3.out⟩
      · obtain rfl : (!b2) = q1 := by
          rw [← HQ1.out, ← HBG.out, decide_eq_false (show ¬ (⟨rt, rs⟩ : Idt) = noId from hne)]
          simp
        clear hne
        rcases hcase with ⟨rfl, b2'⟩ | b2'
        · as_aux_lemma =>
          go_wp2_with (fail)
          refine (HM1.out _).mono ?_
          unfold BoolPost
          rintro r w3 ⟨rfl, hk3⟩
          have HK3 := Lib.hid hk3
          have c2 := HC2.out _ hk3
          have c3 := HC3.out _ hk3
          clear hk3 c0 c1
          go_wp2_with (fail)
          refine (HM2.out _).mono ?_
          unfold BoolPost
          rintro r w4 ⟨rfl, hk4⟩
          have HK4 := Lib.hid (HK3.out.trans hk4 fun _ _ e => e)
          clear hk4 c2 c3
          go_wp2_with (fail)
          go_meet
          case rel => exact ⟨rfl, HK4.out⟩
        · as_aux_lemma =>
          go_wp2_with (fail)
          refine (HM1.out _).mono ?_
          unfold BoolPost
          rintro r w3 ⟨rfl, hk3⟩
          have HK3 := Lib.hid hk3
          have c2 := HC2.out _ hk3
          have c3 := HC3.out _ hk3
          clear hk3 c0 c1
          go_wp2_with (fail)
          refine (HM2.out _).mono ?_
          unfold BoolPost
          rintro r w4 ⟨rfl, hk4⟩
          have HK4 := Lib.hid (HK3.out.trans hk4 fun _ _ e => e)
          clear hk4 c2 c3
          go_wp2_with (fail)
          go_meet
          case rel => exact ⟨rfl, HK4.out⟩
  case rest =>
  obtain ⟨rfl, hkc⟩ := hcut
  obtain ⟨w2, hw2⟩ : ∃ w2 : World, w2 = wc := ⟨_, rfl⟩
  subst hw2
  have HK2 := Lib.hid hkc
  clear hkc
  cases q1 with
  | true =>
    as_aux_lemma =>
    have hs : se = 1 := by have := HSE.out; simpa [firstE] using this.symm
    have HS := Lib.hid hs
    clear hs
    go_wp2_with (fail)
    go_ret
    exact ⟨ret_int HS.out.symm, HK.out.trans HK2.out fun _ _ e => e⟩
  | false =>
  have c4 := HC4.out _ HK2.out
  have c5 := HC5.out _ HK2.out
  go_upto_region 4 with (fail)
  go_cut [28] (fun v wx => v = .bool q2 ∧ Kept (fun _ => False) w1 wx)
  case first =>
    cases br with
    | false =>
      as_aux_lemma =>
      obtain rfl : true = q2 := by rw [← HQ2.out]; simp
      go_wp2_with (fail)
      refine (HRU.out _).mono ?_
      rintro r w3 ⟨rfl, rfl⟩
      go_wp2_with (fail)
      go_meet
      case rel => exact ⟨rfl, HK2.out⟩
    | true =>
      have hcase : (st < 1 ∧ true = q2) ∨ (¬ st < 1 ∧ st > 3 ∧ true = q2) ∨ (¬ st < 1 ∧ ¬ st > 3 ∧ false = q2) := by
        rw [← HQ2.out]
        by_cases h1 : st < 1
        · exact .inl ⟨h1, by simp [h1]⟩
        · by_cases h3 : 3 < st
          · exact .inr (.inl ⟨h1, h3, by simp [h3]⟩)
          · exact .inr (.inr ⟨h1, h3, by simp [h1, h3]⟩)
      rcases hcase with ⟨h1, rfl⟩ | ⟨h1, h3, rfl⟩ | ⟨h1, h3, rfl⟩
      · as_aux_lemma =>
        go_wp2_with (fail)
        refine (HRU.out _).mono ?_
        rintro r w3 ⟨rfl, rfl⟩
        go_wp2_with (fail)
        go_meet
        case rel => exact ⟨rfl, HK2.out⟩
      · as_aux_lemma =>
        go_wp2_with (fail)
        refine (HRU.out _).mono ?_
        rintro r w3 ⟨rfl, rfl⟩
        go_wp2_with (fail)
        go_meet
        case rel => exact ⟨rfl, HK2.out⟩
      · as_aux_lemma =>
        have HV := Lib.hid (show (decide (st < 1) || decide (3 < st)) = false by simp; omega)
        go_wp2_with (fail)
        refine (HRU.out _).mono ?_
        rintro r w3 ⟨rfl, rfl⟩
        go_wp2_with (fail)
        go_meet
        case rel => exact ⟨by rw [HV.out], HK2.out⟩
  case rest =>
  obtain ⟨rfl, hkc⟩ := hcut
  obtain ⟨w3, hw3⟩ : ∃ w3 : World, w3 = wc := ⟨_, rfl⟩
  subst hw3
  have HK3 := Lib.hid hkc
  clear hkc c4 c5
  cases q2 with
  | true =>
    as_aux_lemma =>
    have hs : se = 6 := by have := HSE.out; simpa [firstE] using this.symm
    have HS := Lib.hid hs
    clear hs
    go_wp2_with (fail)
    go_ret
    exact ⟨ret_int HS.out.symm, HK.out.trans HK3.out fun _ _ e => e⟩
  | false =>
  have c0 := HC0.out _ HK3.out
  have c1 := HC1.out _ HK3.out
  have c2 := HC2.out _ HK3.out
  have c3 := HC3.out _ HK3.out
  go_upto_region 6 with (fail)
  go_wp2_with (fail)
  refine (HLO.out _).mono ?_
  unfold BoolPost
  rintro r w4 ⟨rfl, hk4⟩
  have HK4 := Lib.hid (HK3.out.trans hk4 fun _ _ e => e)
  clear hk4 c0 c1 c2 c3
  cases bl with
  | false =>
    as_aux_lemma =>
    have hs : se = 9 := by have := HSE.out; simpa [firstE] using this.symm
    have HS := Lib.hid hs
    clear hs
    go_wp2_with (fail)
    go_ret
    exact ⟨ret_int HS.out.symm, HK.out.trans HK4.out fun _ _ e => e⟩
  | true =>
  go_upto_region 9 with (fail)
  have hk5 := (Kept.refl (fun _ => False) w4).alloc (.cells #[.slice (some ⟨b, f, none⟩) i c] 155)
  have hb5 := Box.new w4 155 #[.slice (some ⟨b, f, none⟩) i c]
  generalize w4.alloc (.cells #[.slice (some ⟨b, f, none⟩) i c] 155) = w5 at hk5 hb5 ⊢
  obtain ⟨D, hD⟩ : ∃ D, w4.heap.size = D := ⟨_, rfl⟩
  rw [hD] at hb5 ⊢
  have HK5 := Lib.hid (HK4.out.trans hk5 fun _ _ e => e)
  have HD := Lib.hid (show ∀ W, Kept (fun _ => False) w5 W → W.cell? ⟨D, 0, none⟩ = some (.slice (some ⟨b, f, none⟩) i c) from fun W hW => by simpa using (hb5.kept hW id).cell 0)
  have c0 := HC0.out _ HK5.out
  have c1 := HC1.out _ HK5.out
  have d0 := HD.out _ (Kept.refl _ _)
  have aD := Tryz.isAgg155
  have zD := Tryz.sizeOf155
  clear hk5 hb5 hD
  go_wp2_with (fail)
  refine (HAT.out ⟨it, is⟩ _ (HK.out.trans HK5.out fun _ _ e => e)).mono ?_
  unfold IntPost
  rintro r w6 ⟨rfl, hk6⟩
  have HK6 := Lib.hid hk6
  have HK56 := Lib.hid (HK5.out.trans hk6 fun _ _ e => e)
  obtain ⟨v, hv⟩ : ∃ v, atN T ⟨it, is⟩ = v := ⟨_, rfl⟩
  rw [hv]
  have hv2 : (v ≥ 0 ∧ q4 = true) ∨ (¬ v ≥ 0 ∧ q4 = false) := by
    rw [← hv, ← HQ4.out]
    by_cases h0 : (⟨it, is⟩ : Idt) ∈ T.map (·.id)
    · exact .inl ⟨atN_in.2 h0, by simpa using h0⟩
    · exact .inr ⟨fun e => h0 (atN_in.1 e), by simpa using h0⟩
  clear hk6 hv c0 c1 d0
  rcases hv2 with ⟨hv0, rfl⟩ | ⟨hv0, rfl⟩
  · as_aux_lemma =>
    have hs : se = 12 := by have := HSE.out; simpa [firstE] using this.symm
    have HS := Lib.hid hs
    clear hs
    go_wp2_with (fail)
    go_ret
    exact ⟨ret_int HS.out.symm, HK.out.trans HK56.out fun _ _ e => e⟩
  have c2 := HC2.out _ HK56.out
  have c3 := HC3.out _ HK56.out
  have d0 := HD.out _ HK6.out
  rcases (eq3 : (rt = 0 ∧ rs = 0) ∨ _) with ⟨rfl, rfl⟩ | ⟨hcase, hne⟩
  · as_aux_lemma =>
    have hs : se = 0 := by
      obtain rfl : false = q5 := by rw [← HQ5.out, ← HBG.out]; simp [noId]
      have := HSE.out
      simpa [firstE] using this.symm
    have HS := Lib.hid hs
    clear hs
    go_wp2_with (fail)
    go_ret
    exact ⟨ret_int HS.out.symm, HK.out.trans HK56.out fun _ _ e => e⟩
  · have hq5 : (!decide ((⟨rt, rs⟩ : Idt) ∈ T.map (·.id))) = q5 := by
      rw [← HQ5.out, ← HBG.out, decide_eq_false (show ¬ (⟨rt, rs⟩ : Idt) = noId from hne)]
      rfl
    have HQ := Lib.hid hq5
    have HA2 := Lib.hid (HAT.out ⟨rt, rs⟩ w6 (HK.out.trans HK56.out fun _ _ e => e))
    simp only at HA2
    obtain ⟨v2, hv2⟩ : ∃ v2, atN T ⟨rt, rs⟩ = v2 := ⟨_, rfl⟩
    rw [hv2] at HA2
    have hv3 : (v2 < 0 ∧ q5 = true) ∨ (¬ v2 < 0 ∧ q5 = false) := by
      rw [← hv2, ← HQ.out]
      by_cases h0 : (⟨rt, rs⟩ : Idt) ∈ T.map (·.id)
      · have := atN_in.2 h0
        exact .inr ⟨by omega, by simpa using h0⟩
      · refine .inl ⟨?_, by simpa using h0⟩
        have : ¬ 0 ≤ atN T ⟨rt, rs⟩ := fun e => h0 (atN_in.1 e)
        omega
    clear hne hv2 hq5
    rcases hv3 with ⟨hv3, rfl⟩ | ⟨hv3, rfl⟩
    · have hs : se = 11 := by have := HSE.out; simpa [firstE] using this.symm
      have HS := Lib.hid hs
      clear hs
      rcases hcase with ⟨rfl, b2'⟩ | b2'
      · as_aux_lemma =>
        go_wp2_with (fail)
        refine HA2.out.mono ?_
        unfold IntPost
        rintro r w7 ⟨rfl, hk7⟩
        have HK7 := Lib.hid hk7
        clear hk7 c2 c3 d0
        go_wp2_with (fail)
        go_ret
        exact ⟨ret_int HS.out.symm, (HK.out.trans HK56.out fun _ _ e => e).trans HK7.out fun _ _ e => e⟩
      · as_aux_lemma =>
        go_wp2_with (fail)
        refine HA2.out.mono ?_
        unfold IntPost
        rintro r w7 ⟨rfl, hk7⟩
        have HK7 := Lib.hid hk7
        clear hk7 c2 c3 d0
        go_wp2_with (fail)
        go_ret
        exact ⟨ret_int HS.out.symm, (HK.out.trans HK56.out fun _ _ e => e).trans HK7.out fun _ _ e => e⟩
    · have hs : se = 0 := by have := HSE.out; simpa [firstE] using this.symm
      have HS := Lib.hid hs
      clear hs
      rcases hcase with ⟨rfl, b2'⟩ | b2'
      · as_aux_lemma =>
        go_wp2_with (fail)
        refine HA2.out.mono ?_
        unfold IntPost
        rintro r w7 ⟨rfl, hk7⟩
        have HK7 := Lib.hid hk7
        clear hk7 c2 c3 d0
        go_wp2_with (fail)
        go_ret
        exact ⟨ret_int HS.out.symm, (HK.out.trans HK56.out fun _ _ e => e).trans HK7.out fun _ _ e => e⟩
      · as_aux_lemma =>
        go_wp2_with (fail)
        refine HA2.out.mono ?_
        unfold IntPost
        rintro r w7 ⟨rfl, hk7⟩
        have HK7 := Lib.hid hk7
        clear hk7 c2 c3 d0
        go_wp2_with (fail)
        go_ret
        exact ⟨ret_int HS.out.symm, (HK.out.trans HK56.out fun _ _ e => e).trans HK7.out fun _ _ e => e⟩
end Go.Proofs.YtnajbkccaclkcaaGreat
