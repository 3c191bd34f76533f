/- The walks of the reference's Drop, Copies. Conditions: the network lies in memory. -/
import Derived.Test.YtopcogogpbcbhaaNRd
namespace Go.Proofs.Ytopcogogpbcbhaa
open Go Go.RowKit

set_option maxRecDepth 100000 in
set_option maxHeartbeats 3200000 in
theorem RDrop_any (p : Nat) (F : Nat → Prop) (s : Nt) (L : Option Addr) (lc : Nat) (hs : List He) (w : World) (h : RNetAt w p F s L lc hs) (n : Int) :
    Calls Try.prog 30 #[.pointer (some ⟨p, 0, none⟩), .int .i64 n] w (RDelPost w p F (s.deliver n)) := by
  have hka : Kept (fun _ => False) w (w.alloc (.cells (cpC zeroCp none 0) 44)) := (Kept.refl _ _).alloc _
  have HK0 := Lib.hid hka
  have HZ := Lib.hid (h.fresh hka)
  have HR := Lib.hid (Box.new w 44 (cpC zeroCp none 0))
  have HFL := Lib.hid h.lt
  clear h hka
  obtain ⟨z, hz⟩ : ∃ z, s.deliver n = z := ⟨_, rfl⟩
  have HZZ := Lib.hid hz
  rw [hz]
  clear hz
  go_enter Try.func30, Try.ntmps30
  go_upto_region 1 with (fail)
  have hzz : w.alloc (.cells #[.int .i64 0, .int .i64 0, .int .i64 0, .slice none 0 0, .int .i64 0, .bool false] 44) = w.alloc (.cells (cpC zeroCp none 0) 44) := rfl
  rw [hzz]
  clear hzz
  generalize w.alloc (.cells (cpC zeroCp none 0) 44) = w0 at HK0 HZ HR ⊢
  obtain ⟨R, hR⟩ : ∃ R, w.heap.size = R := ⟨_, rfl⟩
  have HWR := Lib.hid hR
  rw [hR] at HR ⊢
  clear hR
  go_wp2_with (fail)
  refine (RDeliver_any p F s L lc hs w0 HZ.out n).mono ?_
  rw [HZZ.out]
  rintro r w1 ⟨A, cap, rfl, ho, ⟨F', L', lc', hs', hn, hf, hd⟩, hk⟩
  have hFR : ∀ k, F k → k < R := fun k e => by have := HFL.out k e; have := HWR.out; omega
  have hRs : R < w0.heap.size := HR.out.lt
  have HR1 := Lib.hid (HR.out.kept hk fun e => by have := hFR R e; omega)
  have HO := Lib.hid ho
  have HN := Lib.hid hn
  have HF := Lib.hid hf
  have HD := Lib.hid hd
  have HK1 := Lib.hid ((HK0.out.more (T := F) fun _ _ e => e.elim).trans hk fun _ _ e => e)
  clear ho hn hf hd hk
  go_wp2_with (refine wpList_store_box rfl 44 _ _ rfl R (cpC z.1.1 A cap) rfl rfl 44 (cpC zeroCp none 0) HR1.out (size_cp.trans rfl) rfl (cpC_one _ _ _) ?_; intro w8 HB8 hk8)
  refine bodyPost_ret (results_cell_slot (show Try.f30.results = #[.cell 4 44, .tmp 5] by kernel_rfl) _ _ _ _ R rfl (load_CP HB8.out) rfl) rfl ?_
  have hwr := HWR.out
  refine ⟨A, cap, rfl, hk8.own (own_base HO.out (by omega)) (fun k e e2 => by have := (HO.out.lt k e).1; omega), ⟨F', L', lc', hs', HN.out.kept hk8 fun k e e2 => ?_, fun k e => (HF.out k e).imp id fun e => by omega, HD.out⟩, HK1.out.trans hk8 fun k hk e => by omega⟩
  rcases HF.out k e with e | e
  · have := hFR k e; omega
  · omega
set_option maxRecDepth 100000 in
set_option maxHeartbeats 3200000 in
theorem RCopies_any (p : Nat) (F : Nat → Prop) (s : Nt) (L : Option Addr) (lc : Nat) (hs : List He) (w : World) (h : RNetAt w p F s L lc hs) :
    Calls Try.prog 17 #[.pointer (some ⟨p, 0, none⟩)] w (CopiesPost w s) := by
  have HZ := Lib.hid h
  have HLE := Lib.hid h.len
  have hsm := h.small
  clear h
  go_enter Try.func17, Try.ntmps17
  go_wp2_with (fail)
  go_loopw [3, 4] (fun v3 i wr => ∃ (k : Nat) (M : Option Addr) (mc : Nat) (l : List Cc), i = .int .i64 k ∧ k ≤ hs.length ∧ v3 = .slice M l.length mc ∧ l.map (·.c) = s.l.take k ∧ CopAt wr w.heap.size M mc l ∧ Kept (fun _ => False) w wr) (fun _ i _ => hs.length - (intOf i).toNat)
  case atStart => exact ⟨0, none, 0, [], rfl, Nat.zero_le _, rfl, rfl, CopAt.nil _ _, Kept.refl _ _⟩
  case round =>
    obtain ⟨k, M, mc, l, rfl, hk, rfl, hl, hc, hkk⟩ := hrel
    have HC := Lib.hid hc
    have HL := Lib.hid hl
    have HK := Lib.hid hkk
    have HZ1 := Lib.hid (HZ.out.fresh hkk)
    have hll : l.length ≤ 1000000 := by
      have := congrArg List.length hl
      rw [List.length_map, List.length_take] at this
      omega
    have x0 : wr.cell? ⟨p, 0, none⟩ = some (.slice L hs.length lc) := (HZ1.out.box.cell 0).trans rfl
    clear hc hl hkk
    by_cases hlt : k < hs.length
    · have hls : k < s.l.length := by rw [← HLE.out]; exact hlt
      have hxc := he_map HZ.out.tie hlt hls
      obtain ⟨x, hx⟩ : ∃ x, hs[k] = x := ⟨_, rfl⟩
      have hxm : x ∈ hs := by rw [← hx]; exact List.getElem_mem hlt
      have HPT := Lib.hid (he_part hlt hx).2
      rw [hx] at hxc
      have HXC := Lib.hid hxc
      have hxl : x.c.data.length ≤ 60000 := by rw [hxc]; exact (HZ.out.ok.len _ (List.getElem_mem hls)).2
      have ha := HZ1.out.ats x hxm
      have HD := Lib.hid (BytesAt.of_own ha.d)
      have HNN := Lib.hid (own_noneNil ha.d)
      obtain ⟨g, e1, -, -, -⟩ := own_cells HZ1.out.row (by omega)
      subst e1
      have hi0 : (0 : Int) ≤ (k : Int) := by omega
      have hin : (k : Int) < (hs.length : Int) := by omega
      clear hx hxc hxm ha
      go_wp2_with (refine load_part rfl 44 _ rfl g (k * 7) rfl HZ1.out.row (cpC x.c x.dA x.dc) und_cp size_cp HPT.out ?_)
      refine (RTold_any x.c x.dA x.dc wr HD.out HNN.out hxl).mono ?_
      rintro r w3 ⟨A, cap, rfl, ho, hk3⟩
      have HO := Lib.hid ho
      have HC3 := Lib.hid (HC.out.fresh hk3)
      have HK3 := Lib.hid (HK.out.trans hk3 fun _ _ e => e)
      have HWS := Lib.hid (fun y (hy : y ∈ l) k (e : y.dV.ownBlock = some k) => ((HC.out.d y hy).lt k e).2)
      have HWZ := Lib.hid HK.out.size
      clear ho hk3 x0 HPT HD HNN
      go_wp2_with (first | refine wpList_one_cp rfl _ rfl x.c A cap rfl ?_ | (at_builtin; refine Hid.out ?_))
      refine Lib.hid ?_
      refine wpList_append_new eltCps rfl _ _ rfl w.heap.size _ l.length (ccs l) rfl HC3.out.row 1 1 rfl rfl (Cc.cs_one ⟨x.c, A, cap⟩) (by omega) HK3.out.size ?_
      intro A' c' w4 HO4 HK4 HG4
      have hcop4 : CopAt w4 w.heap.size A' c' (l ++ [⟨x.c, A, cap⟩]) := by
        refine ⟨?_, fun y hy => ?_, ?_⟩
        · rw [List.length_append, ccs_snoc]
          exact HO4.out
        · rcases List.mem_append.1 hy with hy | hy
          · exact HK4.out.own (HC3.out.d y hy) fun k e e2 => own_kinds (HC3.out.d y hy) HC3.out.row (by decide) k e e2
          · obtain rfl : y = _ := List.mem_singleton.1 hy
            exact HK4.out.own (own_base HO.out HWZ.out) fun k e e2 => own_kinds HO.out HC3.out.row (by decide) k e e2
        · refine List.pairwise_append.2 ⟨HC3.out.ap, List.pairwise_singleton _ _, fun y hy z hz k h1 h2 => ?_⟩
          obtain rfl : z = _ := List.mem_singleton.1 hz
          have a1 := HWS.out y hy k h1
          have a2 := (HO.out.lt k h2).1
          omega
      have HC4 := Lib.hid hcop4
      have HKF := Lib.hid (HK3.out.trans HK4.out fun j hj e => by have := (HC3.out.row.lt j e).1; omega)
      have HLN := Lib.hid (show (l ++ [(⟨x.c, A, cap⟩ : Cc)]).length = l.length + 1 by simp)
      clear hcop4 HO HC HC3 HO4 HK4 HG4 HWS HWZ HK HK3 HZ1
      go_wp2_with (fail)
      go_roundw
      case rel => exact ⟨k + 1, A', c', l ++ [⟨x.c, A, cap⟩], by go_num, by omega, by rw [HLN.out], by rw [List.map_append, HL.out, List.take_succ_eq_append_getElem hls, ← HXC.out]; rfl, HC4.out, HKF.out⟩
      case measure => simp [intOf]; omega
    · obtain rfl : k = hs.length := by omega
      go_wp2_with (fail)
      go_ret
      exact ⟨M, mc, l, rfl, HC.out, by rw [HL.out, HLE.out, List.take_length], HK.out⟩
end Go.Proofs.Ytopcogogpbcbhaa
