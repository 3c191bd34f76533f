/- The walk of OpDecodes: it is true. Conditions: the bytes lie in memory. -/
import Derived.Test.YtnlklhlnnoihiaaDEC
import Derived.Test.YtnlklhlnnoihiaaDEE
namespace Go.Proofs.Ytnlklhlnnoihiaa
open Go Go.RowKit

theorem BytesAt.pre {w : World} {A : Option Addr} {l m : List Int} (h : BytesAt w A (l ++ m)) : BytesAt w A l := fun k hk => by
  have := h k (by rw [List.length_append]; omega)
  rwa [List.getElem_append_left hk] at this
theorem nine_take (l : List Int) : takeFrom 0 0 (9 :: l) = (0, 9, 1) := by
  have e : enc 9 = [9] := by rw [enc]; rfl
  have h := take_enc 9 0 0 l (by rw [e]; decide) (.inl rfl)
  rwa [e] at h
theorem nine_val (l : List Int) : (⟨9 :: l, 0⟩ : Rd).val = 9 := by unfold Rd.val; rw [if_pos rfl, nine_take]
theorem nine_nx (l : List Int) : (⟨9 :: l, 0⟩ : Rd).nx = ⟨l, 0⟩ := by unfold Rd.nx; rw [if_pos rfl, nine_take]; rfl
theorem nine_byte {l : List Int} (h : isByte l) : isByte (9 :: l) := by
  intro x hx
  rcases List.mem_cons.1 hx with rfl | hx
  · decide
  · exact h x hx
theorem takeO_bd {l : List Int} (hb : isByte l) (hl : l.length ≤ 1000000) : (takeO ⟨l, 0⟩).2.1.deps.length ≤ 1000000 ∧ (takeO ⟨l, 0⟩).2.1.gone.length ≤ 1000000 := by
  unfold takeO
  split
  · exact ⟨Nat.zero_le _, Nat.zero_le _⟩
  · rename_i h
    have hs := takeR_small hb hl (by simpa using h)
    split
    · exact ⟨hs.dl, hs.gl⟩
    · exact ⟨Nat.zero_le _, Nat.zero_le _⟩
theorem decO_bd {l : List Int} (hb : isByte l) (hl : l.length ≤ 1000000) : (decO l).2.deps.length ≤ 1000000 ∧ (decO l).2.gone.length ≤ 1000000 := by
  unfold decO
  split
  · exact ⟨Nat.zero_le _, Nat.zero_le _⟩
  split
  · exact ⟨Nat.zero_le _, Nat.zero_le _⟩
  · exact takeO_bd hb hl
theorem own_oneB (w : World) (v : Int) : (w.alloc (.cells #[.int .u8 v] 5)).ownsRow w.heap.size 5 1 (.slice (some ⟨w.heap.size, 0, none⟩) 1 1) 1 (bys [v]) := ⟨rfl, .inr ⟨w.heap.size, 1, #[.int .u8 v], rfl, Nat.le_refl _, heap_alloc_new w _, Nat.le_refl _, by decide, rfl, rfl⟩⟩
theorem own_caps {w : World} {base s n c : Nat} {e : TypeId} {A : Option Addr} {xs : List Value} (h : w.ownsRow base e s (.slice A n c) n xs) : n ≤ c ∧ c ≤ maxLen := by
  rcases h.2 with ⟨h1, h2⟩ | ⟨g, cap, cur, h1, _, _, h3, h4, _⟩
  · injection h1 with _ _ h3
    subst h3 h2
    exact ⟨Nat.le_refl _, by decide⟩
  · injection h1 with _ _ h5
    subst h5
    exact ⟨h3, h4⟩
theorem wf_byte {n : Int} (h : (Lit.int .u8 n).wf = true) : 0 ≤ n ∧ n < 256 := by
  have h1 : IntKind.u8.min = 0 := by kernel_rfl
  have h2 : IntKind.u8.max = 255 := by kernel_rfl
  simp only [Lit.wf, Bool.and_eq_true, decide_eq_true_eq, h1, h2] at h
  omega
/-- What a round begins with: at's value, the turn, the bytes given. -/
def DeRel (w : World) (g n c : Nat) (v1 v8 : Value) (wr : World) : Prop := ∃ (i : Int) (k : Nat) (l : List Int), v1 = .int .i64 i ∧ v8 = .int .i64 k ∧ k ≤ 2 ∧ n = l.length ∧ isByte l ∧ wr.ownsRow w.heap.size 5 1 (.slice (some ⟨g, 0, none⟩) (n + 1) c) (n + 1) (bys (l ++ [171])) ∧ Kept (fun _ => False) w wr
set_option maxRecDepth 100000 in
set_option maxHeartbeats 16000000 in
theorem Decodes_walk (A : Option Addr) (b : List Int) (c : Nat) (at_ : Int) (by_ : Int) (w : World) (hb : BytesAt w A b) (hby : isByte b) (hbn : A = none → c = 0) (hv : 0 ≤ by_ ∧ by_ < 256) :
    Calls Try.prog 4 #[.slice A b.length c, .int .i64 at_, .int .u8 by_] w (KnownPost w) := by
  have HB := Lib.hid hb
  have HBY := Lib.hid hby
  have HBN := Lib.hid hbn
  have HVV := Lib.hid hv
  have HK0 := Lib.hid (Kept.refl (fun _ => False) w)
  clear hb hby hbn hv
  by_cases h1 : 60000 < b.length
  · have h1' : (60000 : Int) < (b.length : Int) := by omega
    go_enter Try.func4, Try.ntmps4
    go_wp2_with (fail)
    refine (Known8_any w).mono ?_
    rintro r k1 ⟨rfl, hk⟩
    have HK1 := Lib.hid (HK0.out.trans hk fun _ _ e => e)
    clear hk
    go_wp2_with (fail)
    go_ret
    exact ⟨rfl, HK1.out⟩
  have h1' : ¬ (60000 : Int) < (b.length : Int) := by omega
  have hke : Kept (fun _ => False) w (w.alloc (.cells #[] 5)) := (Kept.refl _ _).alloc _
  have HEM := Lib.hid (own_emptyB w)
  have HBE := Lib.hid (HB.out.fresh hke)
  have HNB := Lib.hid (HBE.out.nilness HBN.out)
  go_enter Try.func4, Try.ntmps4
  go_wp2_with (at_builtin; refine wpList_append_kit eltBytes rfl _ _ rfl w.heap.size _ 0 [] rfl HEM.out A b.length c (bys b) rfl HNB.out (by rw [bys_len]; omega) HBE.out.srcs (bys_one b) (by omega) (by simp) ?_)
  intro A1 c1 w1 HO1 HK1 _
  have hk1 : Kept (fun _ => False) w w1 := hke.trans HK1.out fun k hk e => absurd (show w.heap.size = k by simpa [Value.ownBlock] using e) (by omega)
  have HK1' := Lib.hid hk1
  have HO1' := Lib.hid (show w1.ownsRow w.heap.size 5 1 (.slice A1 b.length c1) b.length (bys b) by simpa using HO1.out)
  clear hke HEM HBE HNB HB HK0 HK1 hk1 HO1
  have HO1 := HO1'
  clear HO1'
  go_wp2_with (at_builtin; refine Hid.out ?_)
  refine Lib.hid ?_
  refine wpList_append_new eltBytes rfl _ _ rfl w.heap.size _ b.length (bys b) rfl HO1.out 1 1 rfl rfl rfl (by omega) HK1'.out.size ?_
  intro A2 c2 w2 HO2 HK2 _
  have HK2' := Lib.hid (HK1'.out.trans HK2.out fun k hk e => by have := (HO1.out.lt k e).1; omega)
  have hO2 : w2.ownsRow w.heap.size 5 1 (.slice A2 (b.length + 1) c2) (b.length + 1) (bys (b ++ [171])) := by rw [bys_app]; exact HO2.out
  obtain ⟨g, hA2, -, -, -⟩ := own_cells hO2 (by omega)
  subst hA2
  have HO := Lib.hid hO2
  have hc2 : b.length + 1 ≤ c2 := (own_caps hO2).1
  clear hO2 HO1 HO2 HK1' HK2
  obtain ⟨n, hn⟩ : ∃ n, b.length = n := ⟨_, rfl⟩
  have HN := Lib.hid hn
  rw [hn] at h1 h1' HO hc2 ⊢
  clear hn
  go_wp2_with (fail)
  go_loopw [1, 8] (fun v1 v8 wr => DeRel w g n c2 v1 v8 wr) (fun _ v8 _ => 2 - (intOf v8).toNat)
  case atStart => exact ⟨at_, 0, b, rfl, rfl, by omega, HN.out.symm, HBY.out, HO.out, HK2'.out⟩
  case round =>
    clear HO HK2' HBY HN
    obtain ⟨i, k, l, rfl, rfl, hk, rfl, hby, ho, hkp⟩ := hrel
    have HBY := Lib.hid hby
    have HO := Lib.hid ho
    have HK := Lib.hid hkp
    clear hby ho hkp
    by_cases h2 : k < 2
    · as_aux_lemma =>
      have h2' : (k : Int) < 2 := by omega
      have HBT := Lib.hid (show BytesAt wr (some ⟨g, 0, none⟩) l from BytesAt.pre (BytesAt.of_own HO.out))
      have HBD := Lib.hid (decO_bd HBY.out (by omega))
      have HSM := Lib.hid (fun h => takeR_small (b := l) HBY.out (by omega) h)
      have hln : l.length ≤ 60000 := by omega
      clear h1
      have hke : Kept (fun _ => False) wr (wr.alloc (.cells #[] 5)) := (Kept.refl _ _).alloc _
      have HEM := Lib.hid (own_emptyB wr)
      have HBE := Lib.hid (HBT.out.fresh hke)
      have HKE := Lib.hid hke
      clear hke
      go_wp2_with (at_builtin; refine wpList_append_kit eltBytes rfl _ _ rfl wr.heap.size _ 0 [] rfl HEM.out (some ⟨g, 0, none⟩) l.length c2 (bys l) rfl (fun e => by cases e) (by rw [bys_len]; omega) HBE.out.srcs (bys_one l) (by omega) (by simp) ?_)
      intro A3 c3 w3 HO3 HK3 _
      have hk3 : Kept (fun _ => False) wr w3 := HKE.out.trans HK3.out fun k hk e => absurd (show wr.heap.size = k by simpa [Value.ownBlock] using e) (by omega)
      have hO3 : w3.ownsRow wr.heap.size 5 1 (.slice A3 l.length c3) l.length (bys l) := by simpa using HO3.out
      have HWS := Lib.hid (own_base hO3 HK.out.size)
      have HG3 := Lib.hid (hk3.own HO.out fun _ _ => id)
      have HK3' := Lib.hid (HK.out.trans hk3 fun _ _ e => e)
      clear hk3 hO3 HEM HBE HKE HO3 HK3 HBT HO HK
      have HG := HG3
      have HW := HWS
      have HK := HK3'
      clear HG3 HWS HK3'
      have HC3 := Lib.hid (own_caps HW.out)
      go_wp2_with (fail)
      refine (DecB_any (some ⟨g, 0, none⟩) l c2 w3 (BytesAt.pre (BytesAt.of_own HG.out)) (by omega) HBY.out).mono ?_
      obtain ⟨D, hD⟩ : ∃ D, decO l = D := ⟨_, rfl⟩
      have HDD := Lib.hid hD
      rw [hD] at HBD ⊢
      clear hD
      obtain ⟨er, od⟩ := D
      simp only at HBD ⊢
      rintro r w4 ⟨z, gc, rfl, hzo, hz, -, -, -, hk⟩
      have HZO := Lib.hid hzo
      have HZA := Lib.hid hz
      have HG4 := Lib.hid (hk.own HG.out fun _ _ => id)
      have HW4 := Lib.hid (hk.own HW.out fun _ _ => id)
      have HK4 := Lib.hid (HK.out.trans hk fun _ _ e => e)
      have HSZ := Lib.hid (show z.c.size = 11 from rfl)
      have HON := Lib.hid (show z.c.all (·.oneCell') = true from Opr.cells_one _ _ _ _ _)
      obtain ⟨zs, hzs⟩ : ∃ zs, z.c = zs := ⟨_, rfl⟩
      have HZS := Lib.hid hzs
      rw [hzs] at HSZ HON ⊢
      simp only at hzo
      clear hzo hz hk hzs HG HW HK
      have HG := HG4
      have HW := HW4
      have HK := HK4
      clear HG4 HW4 HK4
      have hka : Kept (fun _ => False) w4 (w4.alloc (.cells zeroC 30)) := (Kept.refl _ _).alloc _
      have HKA := Lib.hid hka
      have HBX := Lib.hid (Box.new w4 30 zeroC)
      clear hka
      go_wp2_with (refine wpList_store_box rfl 30 _ _ rfl w4.heap.size zs rfl rfl 30 zeroC HBX.out (by rw [HSZ.out]; exact size_op) HSZ.out.symm HON.out ?_; intro w5 HM5 hk5; refine Hid.out ?_)
      refine Lib.hid ?_
      have hk45 : Kept (fun _ => False) w4 w5 := HKA.out.trans hk5 fun k hk e => by omega
      have HG5 := Lib.hid (hk45.own HG.out fun _ _ => id)
      have HW5 := Lib.hid (hk45.own HW.out fun _ _ => id)
      have HK5 := Lib.hid (HK.out.trans hk45 fun _ _ e => e)
      have HZ5 := Lib.hid (HZA.out.fresh hk45)
      have HMl := Lib.hid (show w.heap.size ≤ w4.heap.size from HK.out.size)
      have HGl := Lib.hid (show g < w4.heap.size from (HG.out.lt g rfl).2)
      obtain ⟨M, hM⟩ : ∃ M, w4.heap.size = M := ⟨_, rfl⟩
      rw [hM] at HM5 HMl HGl ⊢
      clear hM hk45 hk5 HKA HBX HG HW HK HZA
      go_wp2_with (fail)
      refine (RDecode8_any A3 l c3 w5 (BytesAt.of_own HW5.out) HBY.out (by omega) HC3.out (fun _ a e => by subst e; exact (HW5.out.lt a.block rfl).2) HSM.out).mono ?_
      rw [HDD.out]
      rintro r w6 ⟨y, rfl, hyo, hy, hk⟩
      have HYO := Lib.hid (show y.o = z.o by rw [HZO.out]; exact hyo)
      have HG6 := Lib.hid (hk.own HG5.out fun _ _ => id)
      have HW6 := Lib.hid (hk.own HW5.out fun _ _ => id)
      have HK6 := Lib.hid (HK5.out.trans hk fun _ _ e => e)
      have HZ6 := Lib.hid (HZ5.out.fresh hk)
      have HM6 := Lib.hid (HM5.out.kept hk id)
      have HY6 := Lib.hid hy
      have HSY := Lib.hid (show y.c.size = 11 from rfl)
      have HOY := Lib.hid (show y.c.all (·.oneCell') = true from Opr.cells_one _ _ _ _ _)
      obtain ⟨ys, hys⟩ : ∃ ys, y.c = ys := ⟨_, rfl⟩
      have HYS := Lib.hid hys
      rw [hys] at HSY HOY ⊢
      clear hyo hy hk hys HG5 HW5 HK5 HZ5 HM5
      have hka : Kept (fun _ => False) w6 (w6.alloc (.cells zeroC 30)) := (Kept.refl _ _).alloc _
      have HKA := Lib.hid hka
      have HBX := Lib.hid (Box.new w6 30 zeroC)
      clear hka
      go_wp2_with (refine wpList_store_box rfl 30 _ _ rfl w6.heap.size ys rfl rfl 30 zeroC HBX.out (by rw [HSY.out]; exact size_op) HSY.out.symm HOY.out ?_; intro w7 HN7 hk7; refine Hid.out ?_)
      refine Lib.hid ?_
      have hk67 : Kept (fun _ => False) w6 w7 := HKA.out.trans hk7 fun k hk e => by omega
      have HG7 := Lib.hid (hk67.own HG6.out fun _ _ => id)
      have HW7 := Lib.hid (hk67.own HW6.out fun _ _ => id)
      have HK7 := Lib.hid (HK6.out.trans hk67 fun _ _ e => e)
      have HZ7 := Lib.hid (HZ6.out.fresh hk67)
      have HM7 := Lib.hid (HM6.out.kept hk67 id)
      have HY7 := Lib.hid (HY6.out.fresh hk67)
      obtain ⟨M2, hM2⟩ : ∃ M2, w6.heap.size = M2 := ⟨_, rfl⟩
      rw [hM2] at HN7 ⊢
      clear hM2 hk67 hk7 HKA HBX HG6 HW6 HK6 HZ6 HM6 HY6
      have hcall := Same8_any z y w7 HZ7.out HY7.out (by rw [HZO.out]; exact HBD.out.1) (by rw [HZO.out]; exact HBD.out.2)
      rw [HZS.out, HYS.out] at hcall
      have HCL := Lib.hid hcall
      clear hcall
      go_wp2_with (refine wpList_unguard rfl ?_; first | refine wpList_load_op rfl _ rfl M rfl _ zs HSZ.out HM7.out ?_ | refine wpList_load_op rfl _ rfl M2 rfl _ ys HSY.out HN7.out ?_)
      refine HCL.out.mono ?_
      rintro r w8 ⟨bb, rfl, hbb, hk⟩
      obtain rfl : bb = true := hbb.2 HYO.out.symm
      have HG8 := Lib.hid (hk.own HG7.out fun _ _ => id)
      have HW8 := Lib.hid (hk.own HW7.out fun _ _ => id)
      have HK8 := Lib.hid (HK7.out.trans hk fun _ _ e => e)
      have HM8 := Lib.hid (HM7.out.kept hk id)
      clear hbb hk HCL HG7 HW7 HK7 HZ7 HM7 HY7 HN7 HYO HYS HSY HOY
      go_wp2_with (fail)
      refine (Bytes8_any (some ⟨g, 0, none⟩) A3 l l c2 c3 w8 (BytesAt.pre (BytesAt.of_own HG8.out)) (BytesAt.of_own HW8.out) (by omega)).mono ?_
      rw [decide_eq_true rfl]
      unfold SamePost
      rintro r w9 ⟨rfl, hk⟩
      have HG9 := Lib.hid (hk.own HG8.out fun _ _ => id)
      have HW9 := Lib.hid (hk.own HW8.out fun _ _ => id)
      have HK9 := Lib.hid (HK8.out.trans hk fun _ _ e => e)
      have HM9 := Lib.hid (HM8.out.kept hk id)
      clear hk HG8 HW8 HK8 HM8
      have x171 : w9.cell? ⟨g, l.length, none⟩ = some (.int .u8 171) := by
        obtain ⟨g', e, -, hc, -⟩ := own_cells HG9.out (by omega)
        injection e with e
        injection e with e
        subst e
        refine hc l.length _ ?_
        rw [bys_get _ _ (by simp)]
        simp
      have hlt : (l.length : Int) < (l.length : Int) + 1 := by omega
      have hke : Kept (fun _ => False) w9 (w9.alloc (.cells #[.int .u8 9] 5)) := (Kept.refl _ _).alloc _
      have HKE := Lib.hid hke
      have HE1 := Lib.hid (own_oneB w9 9)
      have HBW := Lib.hid (BytesAt.of_own (hke.own HW9.out fun _ _ => id))
      have HNW := Lib.hid (show A3 = none → l.length = 0 ∧ c3 = 0 from fun e => by
        have h := HW9.out.2
        subst e
        rcases h with ⟨h, h'⟩ | ⟨_, _, _, h, _⟩
        · injection h with _ _ h; exact ⟨h', h⟩
        · cases h)
      clear hke
      go_wp2_with (at_builtin; refine wpList_append_kit eltBytes rfl _ _ rfl w9.heap.size _ 1 (bys [9]) rfl HE1.out A3 l.length c3 (bys l) rfl HNW.out (by rw [bys_len]; omega) HBW.out.srcs (bys_one l) (by omega) (by simp) ?_)
      intro A4 c4 w10 HO4 HK4 _
      have hk10 : Kept (fun _ => False) w9 w10 := HKE.out.trans HK4.out fun k hk e => absurd (show w9.heap.size = k by simpa [Value.ownBlock] using e) (by omega)
      have HG10 := Lib.hid (hk10.own HG9.out fun _ _ => id)
      have HW10 := Lib.hid (hk10.own HW9.out fun _ _ => id)
      have HK10 := Lib.hid (HK9.out.trans hk10 fun _ _ e => e)
      have HM10 := Lib.hid (HM9.out.kept hk10 id)
      have hO4 : w10.ownsRow w9.heap.size 5 1 (.slice A4 (9 :: l).length c4) (9 :: l).length (bys (9 :: l)) := by
        rw [show (9 :: l).length = 1 + l.length by rw [List.length_cons]; omega]
        exact HO4.out
      have HNN := Lib.hid (BytesAt.of_own hO4)
      have HN4 := Lib.hid (show A4 = none → (9 :: l) = [] from fun e => by
        obtain ⟨ad, h, -⟩ := BytesAt.of_own hO4 0 (by simp)
        rw [e] at h; cases h)
      have HCA := Lib.hid (Read_any A4 (9 :: l) c4 w10 HNN.out HN4.out (by rw [List.length_cons]; omega))
      rw [show (9 :: l).length = 1 + l.length by rw [List.length_cons]; omega] at HCA
      clear hk10 hO4 HE1 HBW HNW HO4 HK4 HKE HG9 HW9 HK9 HM9 x171
      go_wp2_with (fail)
      refine HCA.out.mono ?_
      rintro r w11 ⟨d, gr, rfl, hr, ⟨hd, hgr⟩, hk⟩
      have HR11 := Lib.hid (show RdAt w11 d gr ⟨9 :: l, 0⟩ from ⟨hr, nine_byte HBY.out⟩)
      have HG11 := Lib.hid (hk.own HG10.out fun _ _ => id)
      have HW11 := Lib.hid (hk.own HW10.out fun _ _ => id)
      have HK11 := Lib.hid (HK10.out.trans hk fun _ _ e => e)
      have HM11 := Lib.hid (HM10.out.kept hk id)
      have HGR := Lib.hid (show w10.heap.size ≤ gr from hgr)
      have HDR := Lib.hid (show w10.heap.size ≤ d from hd)
      have HL10 := Lib.hid (show w.heap.size ≤ w10.heap.size ∧ g < w10.heap.size ∧ M < w10.heap.size ∧ ∀ k, (Value.slice A3 l.length c3).ownBlock = some k → k < w10.heap.size from ⟨HK10.out.size, (HG10.out.lt g rfl).2, HM10.out.lt, fun k e => (HW10.out.lt k e).2⟩)
      clear hr hd hgr hk HG10 HW10 HK10 HM10 HCA HNN HN4
      obtain ⟨L10, hL10⟩ : ∃ L10, w10.heap.size = L10 := ⟨_, rfl⟩
      rw [hL10] at HGR HDR HL10
      clear hL10
      go_wp2_with (fail)
      refine (RNum_any d gr ⟨9 :: l, 0⟩ w11 HR11.out).mono ?_
      rw [show RdPost w11 d gr ⟨9 :: l, 0⟩ = fun r w' => r = .returned (.int .i64 9) ∧ Kept (fun k => k = gr) w11 w' ∧ RdAt w' d gr ⟨l, 0⟩ from by unfold RdPost; rw [nine_nx, nine_val]; rfl]
      rintro r w12 ⟨rfl, hk, hr⟩
      have HR12 := Lib.hid hr
      have HG12 := Lib.hid (hk.own HG11.out fun k e hs => by have := HL10.out.2.1; have := HGR.out; have e' : g = k := (by simpa [Value.ownBlock] using e); omega)
      have HW12 := Lib.hid (hk.own HW11.out fun k e hs => by have := HL10.out.2.2.2 k e; have := HGR.out; omega)
      have HK12 := Lib.hid (HK11.out.trans hk fun k hk e => by have := HL10.out.1; have := HGR.out; omega)
      have HM12 := Lib.hid (HM11.out.kept hk (by have := HL10.out.2.2.1; have := HGR.out; omega))
      clear hr hk HR11 HG11 HW11 HK11 HM11
      go_wp2_with (fail)
      refine (TakeS_any d gr ⟨l, 0⟩ w12 HR12.out HSM.out).mono ?_
      have HBT := Lib.hid (takeO_bd HBY.out (show l.length ≤ 1000000 by omega))
      obtain ⟨X, hX⟩ : ∃ X, takeO ⟨l, 0⟩ = X := ⟨_, rfl⟩
      have HXX := Lib.hid hX
      rw [hX] at HBT ⊢
      clear hX
      obtain ⟨et, ot, st⟩ := X
      simp only at HBT ⊢
      rintro r w13 ⟨z2, gc2, rfl, hzo, -, -, hzd, hzg, hk, hr⟩
      have HR13 := Lib.hid hr
      have HZO2 := Lib.hid hzo
      have HD13 := Lib.hid hzd
      have HH13 := Lib.hid hzg
      have HG13 := Lib.hid (hk.own HG12.out fun k e hs => by have := HL10.out.2.1; have := HGR.out; have e' : g = k := (by simpa [Value.ownBlock] using e); omega)
      have HW13 := Lib.hid (hk.own HW12.out fun k e hs => by have := HL10.out.2.2.2 k e; have := HGR.out; omega)
      have HK13 := Lib.hid (HK12.out.trans hk fun k hk e => by have := HL10.out.1; have := HGR.out; omega)
      have HM13 := Lib.hid (HM12.out.kept hk (by have := HL10.out.2.2.1; have := HGR.out; omega))
      have HSZ2 := Lib.hid (show z2.c.size = 11 from rfl)
      have HON2 := Lib.hid (show z2.c.all (·.oneCell') = true from Opr.cells_one _ _ _ _ _)
      obtain ⟨zt, hzt⟩ : ∃ zt, z2.c = zt := ⟨_, rfl⟩
      have HZT := Lib.hid hzt
      rw [hzt] at HSZ2 HON2 ⊢
      have HGM := Lib.hid (show ¬ g = M from fun e => by
        have h1 := HG13.out.2
        rcases h1 with ⟨h, _⟩ | ⟨g', cap, cur, h, _, hh, _⟩
        · injection h with h; cases h
        · injection h with h
          injection h with h
          injection h with h
          subst h e
          exact Box.ne (t := 5) hh HM13.out (by decide) rfl)
      clear hzo hzd hzg hk hr hzt HR12 HG12 HW12 HK12 HM12
      go_wp2_with (refine wpList_store_box rfl 30 _ _ rfl M zt rfl rfl 30 zs HM13.out (by rw [HSZ2.out]; exact size_op) (HSZ.out.trans HSZ2.out.symm) HON2.out ?_; intro w14 HM14 hk14; refine Hid.out ?_)
      refine Lib.hid ?_
      have HR14 := Lib.hid (HR13.out.kept hk14 (by have := HL10.out.2.2.1; have := HGR.out; omega) (by have := HL10.out.2.2.1; have := HDR.out; omega))
      have HD14 := Lib.hid (hk14.own HD13.out fun j e hj => by subst hj; exact own_box_ne HD13.out HM13.out (by decide) e)
      have HH14 := Lib.hid (hk14.own HH13.out fun j e hj => by subst hj; exact own_box_ne HH13.out HM13.out (by decide) e)
      have HG14 := Lib.hid (hk14.own HG13.out fun j e hj => by subst hj; exact own_box_ne HG13.out HM13.out (by decide) e)
      have HW14 := Lib.hid (hk14.own HW13.out fun j e hj => by subst hj; exact own_box_ne HW13.out HM13.out (by decide) e)
      have HK14 := Lib.hid (HK13.out.trans hk14 fun k hk e => by have := HMl.out; omega)
      clear hk14 HR13 HD13 HH13 HG13 HW13 HK13 HM13 HSZ HON HZS
      go_wp2_with (fail)
      refine (RRead_at A3 l c3 w14).mono ?_
      rintro r w15 ⟨rfl, hk⟩
      have HR15 := Lib.hid (HR14.out.fresh hk)
      have HD15 := Lib.hid (hk.own HD14.out fun _ _ => id)
      have HH15 := Lib.hid (hk.own HH14.out fun _ _ => id)
      have HG15 := Lib.hid (hk.own HG14.out fun _ _ => id)
      have HW15 := Lib.hid (hk.own HW14.out fun _ _ => id)
      have HK15 := Lib.hid (HK14.out.trans hk fun _ _ e => e)
      have HM15 := Lib.hid (HM14.out.kept hk id)
      clear hk HR14 HD14 HH14 HG14 HW14 HK14 HM14
      go_wp2_with (fail)
      refine (RTake8_any A3 l c3 w15 (BytesAt.of_own HW15.out) HBY.out (by omega) HC3.out (fun _ a e => by subst e; exact (HW15.out.lt a.block rfl).2) HSM.out).mono ?_
      rw [HXX.out]
      rintro r w16 ⟨y3, a3, rfl, hyo, ha3, hl3, hy, hk⟩
      simp only at hyo hl3 ⊢
      have HYO := Lib.hid (show z2.o = y3.o by rw [hyo]; exact HZO2.out)
      have HL3 := Lib.hid hl3
      have HY16 := Lib.hid hy.at
      have HR16 := Lib.hid (HR15.out.fresh hk)
      have HD16 := Lib.hid (hk.own HD15.out fun _ _ => id)
      have HH16 := Lib.hid (hk.own HH15.out fun _ _ => id)
      have HG16 := Lib.hid (hk.own HG15.out fun _ _ => id)
      have HK16 := Lib.hid (HK15.out.trans hk fun _ _ e => e)
      have HM16 := Lib.hid (HM15.out.kept hk id)
      have HSY := Lib.hid (show y3.c.size = 11 from rfl)
      have HOY := Lib.hid (show y3.c.all (·.oneCell') = true from Opr.cells_one _ _ _ _ _)
      obtain ⟨ys, hys⟩ : ∃ ys, y3.c = ys := ⟨_, rfl⟩
      have HYS := Lib.hid hys
      rw [hys] at HSY HOY ⊢
      clear hyo hl3 hy hk hys HR15 HD15 HH15 HG15 HW15 HK15 HM15
      have hka : Kept (fun _ => False) w16 ((w16.alloc (.cells zeroC 30)).alloc (.cells (rdV none [] 0 0 0) 52)) := ((Kept.refl _ _).alloc _).alloc _
      have HKA := Lib.hid hka
      have HBN := Lib.hid ((Box.new w16 30 zeroC).alloc (.cells (rdV none [] 0 0 0) 52))
      have HBR := Lib.hid ((Box.new (w16.alloc (.cells zeroC 30)) 52 (rdV none [] 0 0 0)).at_eq (show _ = w16.heap.size + 1 by simp))
      clear hka
      go_upto_region 18 with (first | (refine wpList_store_box rfl 30 (.tmp 15) _ rfl w16.heap.size ys rfl rfl 30 zeroC HBN.out (by rw [HSY.out]; exact size_op) HSY.out.symm HOY.out ?_; intro w17 HB17 hk17) | (refine wpList_store_box rfl 52 (.tmp 16) _ rfl (w16.heap.size + 1) (rdV A3 l c3 a3 st.e) rfl rfl 52 (rdV none [] 0 0 0) (HBR.out.kept hk17 (by omega)) (size_RR.trans rfl) rfl (rdV_one _ _ _ _ _) ?_; intro w18 HB18 hk18))
      have hkf : Kept (fun _ => False) w16 w18.drew := ((HKA.out.trans hk17 fun k hk e => by omega).trans hk18 fun k hk e => by omega).drew
      have HRD := Lib.hid (HR16.out.fresh hkf)
      have HZD := Lib.hid (show z2.At w18.drew from ⟨DotsAt.of_own (hkf.own HD16.out fun _ _ => id), RunsAt.of_own (hkf.own HH16.out fun _ _ => id)⟩)
      have HGD := Lib.hid (hkf.own HG16.out fun _ _ => id)
      have HKD := Lib.hid (HK16.out.trans hkf fun _ _ e => e)
      have HMD := Lib.hid (HM16.out.kept hkf id)
      have HYD := Lib.hid (HY16.out.fresh hkf)
      have HND := Lib.hid (show Box w18.drew w16.heap.size 30 ys from (HB17.out.kept hk18 (by omega)).drew)
      have HQD := Lib.hid (show Box w18.drew (w16.heap.size + 1) 52 (rdV A3 l c3 a3 st.e) from HB18.out.drew)
      have HSAM := Lib.hid (fun W h h' => Same8_any z2 y3 W h h' (by rw [HZO2.out]; exact HBT.out.1) (by rw [HZO2.out]; exact HBT.out.2))
      rw [HZT.out, HYS.out] at HSAM
      have HLF := Lib.hid (fun W => RLeft_at A3 l c3 a3 st.e W ha3 (by omega))
      rw [HL3.out] at HLF
      obtain ⟨N, hN⟩ : ∃ N, w16.heap.size = N := ⟨_, rfl⟩
      rw [hN] at HND HQD ⊢
      clear hkf hk17 hk18 HKA HBN HBR HB17 HB18 hN HR16 HD16 HH16 HG16 HK16 HM16 HY16 HZT HYS HZO2 HL3 HXX HBT
      refine wp_region_held_drew (S := fun Wz => Kept (fun _ => False) w18.drew Wz) (by kernel_rfl) (Kept.refl _ _) fun hS => ?_
      generalize w18.drew = W at HRD HZD HGD HKD HMD HYD HND HQD hS ⊢
      refine held_takeTo 95 (i := 0) (v := .int .i64 et) rfl rfl (by kernel_rfl) (by kernel_rfl) (by kernel_rfl) (fun _ _ _ h => h) rfl hS (fun Wz hW => by go_simp) ?_
      simp only [List.setIfInBounds_toArray, List.set_cons_zero, List.set_cons_succ]
      refine held_takeTo 96 (i := 1) (v := .int .i64 et) rfl rfl (by kernel_rfl) (by kernel_rfl) (by kernel_rfl) (fun _ _ _ h => h) rfl hS (fun Wz hW => by go_simp) ?_
      simp only [List.setIfInBounds_toArray, List.set_cons_zero, List.set_cons_succ]
      refine held_one (i := 2) (by kernel_rfl) rfl fun K hK => ?_
      go_wp2_with (fail)
      refine hK.out _ _ hS fun _ => ?_
      clear hK K
      refine held_one (i := 3) (by kernel_rfl) rfl fun K hK => ?_
      go_wp2_with (fail)
      refine hK.out _ _ hS fun _ => ?_
      clear hK K
      refine held_takeG 99 (i := 4) (v := .agg zt) rfl rfl (by kernel_rfl) (by kernel_rfl) (by kernel_rfl) (fun _ _ _ h => h) (by rfl) hS (fun Wz hW => run_load_op _ _ rfl M rfl _ zt HSZ2.out (HMD.out.kept hW id)) ?_
      simp only [List.setIfInBounds_toArray, List.set_cons_zero, List.set_cons_succ]
      refine held_takeG 100 (i := 5) (v := .agg ys) rfl rfl (by kernel_rfl) (by kernel_rfl) (by kernel_rfl) (fun _ _ _ h => h) (by rfl) hS (fun Wz hW => run_load_op _ _ rfl N rfl _ ys HSY.out (HND.out.kept hW id)) ?_
      simp only [List.setIfInBounds_toArray, List.set_cons_zero, List.set_cons_succ]
      refine held_one (i := 6) (by kernel_rfl) rfl fun K hK => ?_
      go_wp2_with (fail)
      refine (HSAM.out W HZD.out HYD.out).mono ?_
      rintro r v1 ⟨bb, rfl, hbb, hk⟩
      obtain rfl : bb = true := hbb.2 HYO.out
      have hS1 := hS.trans hk fun _ _ e => e
      clear hbb hk
      go_wp2_with (fail)
      refine hK.out _ _ hS1 fun _ => ?_
      clear hK K
      refine held_one (i := 7) (by kernel_rfl) rfl fun K hK => ?_
      go_wp2_with (fail)
      refine hK.out _ _ hS1 fun _ => ?_
      clear hK K
      refine held_one (i := 8) (by kernel_rfl) rfl fun K hK => ?_
      go_wp2_with (fail)
      refine hK.out _ _ hS1 fun _ => ?_
      clear hK K
      refine held_one (i := 9) (by kernel_rfl) rfl fun K hK => ?_
      go_wp2_with (fail)
      refine hK.out _ _ hS1 fun _ => ?_
      clear hK K
      refine held_takeG 105 (i := 10) (v := .pointer (some ⟨gr, 0, none⟩)) rfl rfl (by kernel_rfl) (by kernel_rfl) (by kernel_rfl) (fun _ _ _ h => h) (by rfl) hS1 (fun Wz hW => by go_simp) ?_
      simp only [List.setIfInBounds_toArray, List.set_cons_zero, List.set_cons_succ]
      refine held_takeG 107 (i := 12) (v := .agg (rdV A3 l c3 a3 st.e)) rfl rfl (by kernel_rfl) (by kernel_rfl) (by kernel_rfl) (fun _ _ _ h => h) (by rfl) hS1 (fun Wz hW => by (have h0 : Wz.cell? ⟨N + 1, 0, none⟩ = some (.slice A3 l.length c3) := ((HQD.out.kept hW id).cell 0).trans rfl; have h1 : Wz.cell? ⟨N + 1, 1, none⟩ = some (.int .i64 a3) := ((HQD.out.kept hW id).cell 1).trans rfl; have h2 : Wz.cell? ⟨N + 1, 2, none⟩ = some (.int .i64 st.e) := ((HQD.out.kept hW id).cell 2).trans rfl; go_simp; rfl)) ?_
      simp only [List.setIfInBounds_toArray, List.set_cons_zero, List.set_cons_succ]
      refine held_one (i := 11) (by kernel_rfl) rfl fun K hK => ?_
      go_wp2_with (fail)
      refine (Left_any d gr st.l st.e v1 (HRD.out.fresh hS1).at_).mono ?_
      rintro r v2 ⟨rfl, rfl⟩
      go_wp2_with (fail)
      refine hK.out _ _ hS1 fun _ => ?_
      clear hK K
      refine held_one (i := 13) (by kernel_rfl) rfl fun K hK => ?_
      go_wp2_with (fail)
      refine (HLF.out v1).mono ?_
      rintro r v2 ⟨rfl, hk⟩
      have hS2 := hS1.trans hk fun _ _ e => e
      clear hk
      go_wp2_with (fail)
      refine hK.out _ _ hS2 fun _ => ?_
      clear hK K
      refine held_one (i := 14) (by kernel_rfl) rfl fun K hK => ?_
      go_wp2_with (fail)
      refine hK.out _ _ hS2 fun _ => ?_
      clear hK K
      refine held_one (i := 15) (by kernel_rfl) rfl fun K hK => ?_
      go_wp2_with (fail)
      refine hK.out _ _ hS2 fun _ => ?_
      clear hK K
      refine held_one (i := 16) (by kernel_rfl) rfl fun K hK => ?_
      go_wp2_with (fail)
      refine hK.out _ _ hS2 fun _ => ?_
      clear hK K
      refine held_takeG 112 (i := 17) (v := .pointer (some ⟨gr, 0, none⟩)) rfl rfl (by kernel_rfl) (by kernel_rfl) (by kernel_rfl) (fun _ _ _ h => h) (by rfl) hS2 (fun Wz hW => by go_simp) ?_
      simp only [List.setIfInBounds_toArray, List.set_cons_zero, List.set_cons_succ]
      refine held_takeG 114 (i := 19) (v := .pointer (some ⟨N + 1, 2, none⟩)) rfl rfl (by kernel_rfl) (by kernel_rfl) (by kernel_rfl) (fun _ _ _ h => h) (by rfl) hS2 (fun Wz hW => by go_simp) ?_
      simp only [List.setIfInBounds_toArray, List.set_cons_zero, List.set_cons_succ]
      refine held_takeG 115 (i := 20) (v := .int .i64 st.e) rfl rfl (by kernel_rfl) (by kernel_rfl) (by kernel_rfl) (fun _ _ _ h => h) (by rfl) hS2 (fun Wz hW => by (have h2 : Wz.cell? ⟨N + 1, 2, none⟩ = some (.int .i64 st.e) := ((HQD.out.kept hW id).cell 2).trans rfl; go_simp)) ?_
      simp only [List.setIfInBounds_toArray, List.set_cons_zero, List.set_cons_succ]
      refine held_one (i := 18) (by kernel_rfl) rfl fun K hK => ?_
      go_wp2_with (fail)
      refine (RErr_any d gr st.l st.e v2 (HRD.out.fresh hS2).at_).mono ?_
      rintro r v3 ⟨rfl, rfl⟩
      go_wp2_with (fail)
      refine hK.out _ _ hS2 fun _ => ?_
      clear hK K
      refine held_one (i := 21) (by kernel_rfl) rfl fun K hK => ?_
      go_wp2_with (fail)
      refine hK.out _ _ hS2 fun _ => ?_
      clear hK K
      refine held_one (i := 22) (by kernel_rfl) rfl fun K hK => ?_
      go_wp2_with (fail)
      refine hK.out _ _ hS2 fun _ => ?_
      clear hK K
      refine wpAnyH_done (by kernel_rfl) ?_ _
      have HGE := Lib.hid (hS2.own HGD.out fun _ _ => id)
      have HKE := Lib.hid (HKD.out.trans hS2 fun _ _ e => e)
      clear hS hS1 hS2 HRD HZD HGD HKD HMD HYD HND HQD HSAM HLF HYO
      by_cases hl0 : l.length = 0
      · have hl0' : (l.length : Int) = 0 := by omega
        go_wp2_with (fail)
        refine (Known8_any v2).mono ?_
        rintro r k1 ⟨rfl, hk⟩
        have HKF := Lib.hid (HKE.out.trans hk fun _ _ e => e)
        clear hk
        go_wp2_with (fail)
        go_ret
        exact ⟨rfl, HKF.out⟩
      · have hl1 : ¬ (l.length : Int) = 0 := by omega
        have hr1 := Int.tmod_lt_of_pos i (show (0 : Int) < (l.length : Int) by omega)
        have hr2 := Int.lt_tmod_of_pos i (show (0 : Int) < (l.length : Int) by omega)
        obtain ⟨rm, hrm⟩ : ∃ rm, i.tmod (l.length : Int) = rm := ⟨_, rfl⟩
        rw [hrm] at hr1 hr2
        go_upto_if 126 with (fail)
        clear hrm
        go_cut [1] (fun v wx => (∃ k : Nat, v = .int .i64 k ∧ k < l.length) ∧ v2 = wx)
        case first =>
          by_cases hneg : rm < 0
          · obtain ⟨j, hj⟩ : ∃ j : Nat, rm + (l.length : Int) = j := ⟨(rm + l.length).toNat, by omega⟩
            have hw : IntKind.i64.wrap (rm + (l.length : Int)) = (j : Int) := by rw [hj]; exact IntWalk.i64_in _ ⟨by omega, by omega⟩
            go_wp2
            go_meet
            case rel => exact ⟨⟨j, rfl, by omega⟩, rfl⟩
          · obtain ⟨j, rfl⟩ : ∃ j : Nat, rm = j := ⟨rm.toNat, by omega⟩
            go_wp2
            go_meet
            case rel => exact ⟨⟨j, rfl, by omega⟩, rfl⟩
        case rest =>
        obtain ⟨⟨j, rfl, hjl⟩, rfl⟩ := hcut
        clear hr1 hr2
        have HST := Lib.hid (World.ownsRow.stored HGE.out j (.int .u8 by_)).1
        obtain ⟨g', hg', -, hcell, hfz⟩ := own_cells HGE.out (by omega)
        obtain rfl : g = g' := by injection hg' with h; injection h
        have x0 : v2.cell? ⟨g, j, none⟩ = some (.int .u8 l[j]) := hcell j _ (by rw [bys_get _ _ (by rw [List.length_append]; omega), List.getElem_append_left hjl])
        have f0 : v2.frozen? ⟨g, j, none⟩ = false := hfz j
        have hjj : (j : Int) < (l.length : Int) + 1 := by omega
        clear hg' hcell hfz
        go_wp2
        go_roundw
        case rel =>
          refine ⟨j, k + 1, l.set j by_, rfl, by go_num, by omega, (List.length_set ..).symm, fun x hx => ?_, ?_, ?_⟩
          · rcases List.mem_or_eq_of_mem_set hx with h | rfl
            · exact HBY.out x h
            · exact HVV.out
          · have h := HST.out
            rw [show (bys (l ++ [171])).set j (.int .u8 by_) = bys (l.set j by_ ++ [171]) by rw [bys_app, bys_app, List.set_append_left _ _ (by rw [bys_len]; exact hjl)]; simp [bys, List.map_set]] at h
            exact h
          · exact HKE.out.trans ((Kept.refl (fun k => k = g) v2).at j _ (.inl rfl)) fun k hk e => by have := (HGE.out.lt g rfl).1; omega
        case measure => simp [intOf]; omega
    · obtain rfl : k = 2 := by omega
      go_wp2_with (fail)
      refine (Known8_any wr).mono ?_
      rintro r k1 ⟨rfl, hk⟩
      have HK1 := Lib.hid (HK.out.trans hk fun _ _ e => e)
      clear hk
      go_wp2_with (fail)
      go_ret
      exact ⟨rfl, HK1.out⟩
end Go.Proofs.Ytnlklhlnnoihiaa
