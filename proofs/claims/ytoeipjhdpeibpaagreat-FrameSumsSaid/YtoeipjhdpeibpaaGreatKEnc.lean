/- frame.Encode walked at the example. Conditions: the one Dot lies in memory. -/
import Derived.Test.YtoeipjhdpeibpaaGreatKLit
import Derived.Test.YtoeipjhdpeibpaaGreatVPut
import Derived.Test.YtoeipjhdpeibpaaGreatSData
namespace Go.Proofs.YtoeipjhdpeibpaaGreat
open Go Go.RowKit

/-- The numbers ahead of a frame's vector. -/
def exNums : List Nat := [1, 1, 2, 3, 4, 5, 1]
def exBody : List Int := [1, 1, 2, 3, 4, 5, 1, 1, 1, 7, 0]
def exHead : List Int := [11, 0, 0, 0, 1, 1, 2, 3, 4, 5, 1, 1, 1, 7, 0]
def exB : List Int := [11, 0, 0, 0, 1, 1, 2, 3, 4, 5, 1, 1, 1, 7, 0, 7, 57, 207, 232]
theorem exHead_sum : sumC exHead = 3905894663 := by kernel_rfl
theorem exPuts : puts (exNums.flatMap enc) 0 (vnums (vec (says [⟨1, 7⟩]))) = [1, 1, 2, 3, 4, 5, 1, 1, 1, 7] := by kernel_rfl
theorem ex_num (k : Nat) (h : k < 7) : (#[Value.int .i64 1, .int .i64 1, .int .i64 2, .int .i64 3, .int .i64 4, .int .i64 5, .int .i64 1] : Array Value)[k]? = some (.int .i64 ((exNums[k] : Nat) : Int)) := by
  match k, h with
  | 0, _ | 1, _ | 2, _ | 3, _ | 4, _ | 5, _ | 6, _ => rfl
/-- In the middle of Encode: the frame's box, a Writer and what it holds. -/
structure En (w : World) (A : Option Addr) (c g gw base : Nat) (l : List Int) (W : World) : Prop where
  k : Kept (fun _ => False) w W
  f : Box W g 39 (exC A c)
  wr : ∃ sv, WriterAt W base gw sv l 0
  b : w.heap.size ≤ base
theorem En.fresh {w : World} {A : Option Addr} {c g gw base : Nat} {l : List Int} {W W' : World} (h : En w A c g gw base l W) (hk : Kept (fun _ => False) W W') : En w A c g gw base l W' := by
  obtain ⟨sv, hw⟩ := h.wr
  exact ⟨h.k.trans hk fun _ _ e => e, h.f.kept hk id, ⟨sv, hw.fresh hk⟩, h.b⟩
theorem En.post {w : World} {A : Option Addr} {c g gw base : Nat} {l l' : List Int} {W W' : World} {sv : Value} {r : Ending} (h : En w A c g gw base l W) (hw : WriterAt W base gw sv l 0) (hp : WPost W base gw sv l' 0 r W') : r = .returned (.tuple #[]) ∧ En w A c g gw base l' W' ∧ ∀ (B : Nat) (T : TypeId) (cs : Array Value), T ≠ 50 → T ≠ 5 → Box W B T cs → Box W' B T cs := by
  obtain ⟨rfl, sv', hw', hk, -⟩ := hp
  have key : ∀ (B : Nat) (T : TypeId) (cs : Array Value), T ≠ 50 → T ≠ 5 → Box W B T cs → Box W' B T cs := fun B T cs h1 h2 hb => hb.kept hk fun e => by
    rcases e with e | e
    · exact Box.ne hb hw.box h1 e
    · exact own_box_ne hw.row hb (Ne.symm h2) e
  exact ⟨rfl, ⟨h.k.trans hk fun k hk e => by have := (hw.own_lt k e).1; have := h.b; omega, key _ _ _ (by decide) (by decide) h.f, ⟨sv', hw'⟩, h.b⟩, key⟩

def z19 : Array Value := #[.int .u8 0, .int .u8 0, .int .u8 0, .int .u8 0, .int .u8 0, .int .u8 0, .int .u8 0, .int .u8 0, .int .u8 0, .int .u8 0, .int .u8 0, .int .u8 0, .int .u8 0, .int .u8 0, .int .u8 0, .int .u8 0, .int .u8 0, .int .u8 0, .int .u8 0]
theorem make19 (W : World) : (Instr.makeSlice 22 (.int .i64 0) (.int .i64 19)).run Tryz.prog W = .ok (.slice (some ⟨W.heap.size, 0, none⟩) 0 19) (W.alloc (.cells z19 5)) := by kernel_rfl
set_option maxRecDepth 100000 in
set_option maxHeartbeats 4000000 in
theorem Encode_ex (A : Option Addr) (c : Nat) (w : World) (hd : DotsAt w A [⟨1, 7⟩]) : Calls Tryz.prog 8 #[.agg (exC A c)] w (fun r w' => ∃ B k, r = .returned (.tuple #[.slice B 19 k, .int .i64 0]) ∧ w'.ownsRow w.heap.size 5 1 (.slice B 19 k) 19 (bys exB) ∧ Kept (fun _ => False) w w') := by
  obtain ⟨w1, h1⟩ : ∃ w1, w.alloc (.cells (exC A c) 39) = w1 := ⟨_, rfl⟩
  have hb := Box.new w 39 (exC A c)
  have hk := (Kept.refl (fun _ => False) w).alloc (.cells (exC A c) 39)
  rw [h1] at hb hk
  have HB := Lib.hid hb
  have HK := Lib.hid hk
  have HD := Lib.hid (hd.fresh hk)
  have HW := Lib.hid h1
  have HD0 := Lib.hid hd
  clear h1 hb hk hd
  go_enter Tryz.func8, Tryz.ntmps8
  go_upto_region 1 with (fail)
  rw [HW.out]
  clear HW
  go_wp2_with (refine wpList_load_fr rfl _ rfl w.heap.size rfl _ rfl HB.out ?_)
  refine (Check_ex A c w1 HD.out).mono ?_
  rintro r w2 ⟨rfl, hk2⟩
  have HB2 := Lib.hid (HB.out.kept hk2 id)
  have HK2 := Lib.hid (HK.out.trans hk2 fun _ _ e => e)
  have HD2 := Lib.hid (HD.out.fresh hk2)
  clear hk2 HB HK HD
  have x6 : w2.cell? ⟨w.heap.size, 6, none⟩ = some (.bool true) := (HB2.out.cell 6).trans rfl
  go_upto_region 8 with (fail)
  have HE3 := Lib.hid (show En w A c w.heap.size w2.heap.size w2.heap.size [] (w2.alloc (.cells #[.slice none 0 0, .int .i64 0] 50)) from ⟨HK2.out.alloc _, HB2.out.alloc _, ⟨_, Box.new w2 _ _, World.ownsRow_nil _ _ _ _, Nat.le_refl _⟩, HK2.out.size⟩)
  have HD3 := Lib.hid (HD2.out.fresh ((Kept.refl (fun _ => False) w2).alloc (.cells #[.slice none 0 0, .int .i64 0] 50)))
  generalize w2.alloc (.cells #[.slice none 0 0, .int .i64 0] 50) = w3 at HE3 HD3 ⊢
  generalize w2.heap.size = gw at HE3 ⊢
  clear x6 HB2 HK2 HD2
  have x0 : w3.cell? ⟨w.heap.size, 0, none⟩ = some (.int .i64 1) := (HE3.out.f.cell 0).trans rfl
  have x1 : w3.cell? ⟨w.heap.size, 1, none⟩ = some (.int .i64 1) := (HE3.out.f.cell 1).trans rfl
  have x2 : w3.cell? ⟨w.heap.size, 2, none⟩ = some (.int .i64 2) := (HE3.out.f.cell 2).trans rfl
  have x3 : w3.cell? ⟨w.heap.size, 3, none⟩ = some (.int .i64 3) := (HE3.out.f.cell 3).trans rfl
  have x4 : w3.cell? ⟨w.heap.size, 4, none⟩ = some (.int .i64 4) := (HE3.out.f.cell 4).trans rfl
  have x5 : w3.cell? ⟨w.heap.size, 5, none⟩ = some (.int .i64 5) := (HE3.out.f.cell 5).trans rfl
  go_upto_region 9 with (fail)
  have HE4 := Lib.hid (HE3.out.fresh ((Kept.refl _ w3).alloc (.cells #[.int .i64 1, .int .i64 1, .int .i64 2, .int .i64 3, .int .i64 4, .int .i64 5, .int .i64 1] 3)))
  have HD4 := Lib.hid (HD3.out.fresh ((Kept.refl (fun _ => False) w3).alloc (.cells #[.int .i64 1, .int .i64 1, .int .i64 2, .int .i64 3, .int .i64 4, .int .i64 5, .int .i64 1] 3)))
  have HR4 := Lib.hid (Box.new w3 3 #[.int .i64 1, .int .i64 1, .int .i64 2, .int .i64 3, .int .i64 4, .int .i64 5, .int .i64 1])
  generalize w3.alloc (.cells #[.int .i64 1, .int .i64 1, .int .i64 2, .int .i64 3, .int .i64 4, .int .i64 5, .int .i64 1] 3) = w4 at HE4 HD4 HR4 ⊢
  generalize w3.heap.size = rb at HR4 ⊢
  clear x0 x1 x2 x3 x4 x5 HE3 HD3
  have HKD := Lib.hid HE4.out.k
  go_loopw [37] (fun i wr => ∃ k : Nat, i = .int .i64 k ∧ k ≤ 7 ∧ En w A c w.heap.size gw gw ((exNums.take k).flatMap enc) wr ∧ Box wr rb 3 #[.int .i64 1, .int .i64 1, .int .i64 2, .int .i64 3, .int .i64 4, .int .i64 5, .int .i64 1]) (fun i _ => 7 - (intOf i).toNat)
  case atStart => exact ⟨0, rfl, by omega, HE4.out, HR4.out⟩
  case round =>
    obtain ⟨k, rfl, hk, he, hr⟩ := hrel
    obtain ⟨sv, hw⟩ := he.wr
    have HE := Lib.hid he
    have HR := Lib.hid hr
    have HWR := Lib.hid hw
    clear he hr hw
    by_cases hlt : k < 7
    · as_aux_lemma =>
      have q := (HR.out.cell k).trans (ex_num k hlt)
      have hle : ((exNums.take k).flatMap enc).length ≤ 1000000 := by
        match k, hlt with
        | 0, _ | 1, _ | 2, _ | 3, _ | 4, _ | 5, _ | 6, _ => exact Nat.le_of_ble_eq_true (by kernel_rfl)
      have hle2 : ((exNums[k]'hlt : Nat) : Int) ≤ 9223372036854775807 := by
        match k, hlt with
        | 0, _ | 1, _ | 2, _ | 3, _ | 4, _ | 5, _ | 6, _ => simp [exNums]
      have hst : (exNums.take (k + 1)).flatMap enc = (exNums.take k).flatMap enc ++ enc (exNums[k]'hlt) := by
        rw [List.take_succ_eq_append_getElem hlt, List.flatMap_append]
        simp
      have HST := Lib.hid hst
      generalize exNums[k]'hlt = v at q hle2 HST
      have HN := Lib.hid (Number_any gw gw sv _ 0 v wr HWR.out hle hle2)
      clear hle hle2 hst
      go_wp2_with (fail)
      refine HN.out.mono ?_
      rw [wr_ok.1, (wr_ok (l := [])).2, ← HST.out]
      rintro r w5 hp
      obtain ⟨rfl, he5, hbx⟩ := HE.out.post HWR.out hp
      have HE5 := Lib.hid he5
      have HR5 := Lib.hid (hbx _ _ _ (by decide) (by decide) HR.out)
      clear he5 hbx hp q
      go_wp2_with (fail)
      go_roundw
      case rel => exact ⟨k + 1, by go_num, by omega, HE5.out, HR5.out⟩
      case measure => simp [intOf]; omega
    · as_aux_lemma =>
      obtain rfl : k = 7 := by omega
      have hln : ((exNums.take 7).flatMap enc).length ≤ 900000 := Nat.le_of_ble_eq_true (by kernel_rfl)
      have HP := Lib.hid (Put_any gw gw sv _ 0 A [⟨1, 7⟩] c wr HWR.out (HD0.out.fresh HE.out.k) (by decide) hln)
      have x7 : wr.cell? ⟨w.heap.size, 7, none⟩ = some (.slice A 1 c) := (HE.out.f.cell 7).trans rfl
      clear hln HE4 HD4 HR4 HKD HR HD0
      go_wp2_with (fail)
      refine HP.out.mono ?_
      rw [show (exNums.take 7) = exNums from rfl, exPuts]
      rintro r w5 hp
      obtain ⟨rfl, he5, -⟩ := HE.out.post HWR.out hp
      obtain ⟨sv5, hw5⟩ := he5.wr
      have HE5 := Lib.hid he5
      have HW5 := Lib.hid hw5
      clear he5 hp hw5 x7 HP HE HWR
      have x0 : w5.cell? ⟨w.heap.size, 0, none⟩ = some (.int .i64 1) := (HE5.out.f.cell 0).trans rfl
      have x8 : w5.cell? ⟨w.heap.size, 8, none⟩ = some (.slice none 0 0) := (HE5.out.f.cell 8).trans rfl
      have HP := Lib.hid (Number_any gw gw sv5 _ 0 ((0 : Nat) : Int) w5 HW5.out (by decide) (by decide))
      go_wp2_with (fail)
      refine HP.out.mono ?_
      rw [wr_ok.1, (wr_ok (l := [])).2, show ([1, 1, 2, 3, 4, 5, 1, 1, 1, 7] : List Int) ++ enc 0 = exBody by kernel_rfl]
      rintro r w6 hp
      obtain ⟨rfl, he6, -⟩ := HE5.out.post HW5.out hp
      obtain ⟨sv6, hw6⟩ := he6.wr
      have HE6 := Lib.hid he6
      have HW6 := Lib.hid hw6
      clear he6 hp hw6 x0 x8 HP HE5 HW5
      have x8 : w6.cell? ⟨w.heap.size, 8, none⟩ = some (.slice none 0 0) := (HE6.out.f.cell 8).trans rfl
      go_wp2_with (fail)
      go_loopw [64] (fun i wr => i = .int .i64 0 ∧ wr = w6) (fun _ _ => 0)
      case atStart => exact ⟨rfl, rfl⟩
      case round =>
        obtain ⟨rfl, rfl⟩ := hrel
        have HDT := Lib.hid (Data_any gw gw sv6 _ 0 wr HW6.out (by decide))
        go_wp2_with (fail)
        refine HDT.out.mono ?_
        rintro r w7 ⟨Ad, cd, rfl, ho7, hk7⟩
        have HE7 := Lib.hid (HE6.out.k.trans hk7 fun _ _ e => e)
        have HO7 := Lib.hid ho7
        have HS7 := Lib.hid hk7.size
        clear hk7 ho7 HDT HE6 HW6 x8
        rw [show exBody.length = 11 from rfl] at *
        have hmk := make19 w7
        obtain ⟨gd, rfl, -, hcd, -⟩ := own_cells HO7.out (by decide)
        have HCD := Lib.hid hcd
        have ho8 := World.ownsRow_made (base := w.heap.size) (e := 5) (size := 1) w7 z19 19 HE7.out.size (by decide) rfl
        have HKZ := Lib.hid ((Kept.refl (fun _ => False) w7).alloc (.cells z19 5))
        have HLT := Lib.hid (show Calls Tryz.prog 19 #[.slice (some ⟨w7.heap.size, 0, none⟩) 0 19, .int .u32 11] (w7.alloc (.cells z19 5)) _ from little_any w.heap.size (some ⟨w7.heap.size, 0, none⟩) [] 19 11 _ ho8 (by have := HE7.out.size; simp; omega) (by decide) (by decide))
        clear hcd ho8
        go_wp2_with (fail)
        refine HLT.out.mono ?_
        rw [show ([] ++ lowB 11 : List Int) = [11, 0, 0, 0] by kernel_rfl]
        rintro r w9 ⟨A9, c9, rfl, ho9, hk9⟩
        have HO9 := Lib.hid ho9
        have HK9 := Lib.hid (HKZ.out.trans hk9 fun k hk e => by have e' : some w7.heap.size = some k := e; injection e' with e'; omega)
        have HE9 := Lib.hid (HE7.out.trans HK9.out fun _ _ e => e)
        have HC9 := Lib.hid (fun j u (hj : (bys exBody)[j]? = some u) => HK9.out.cellF (HCD.out j u hj))
        clear ho9 hk9 HLT HKZ HCD hmk HE7
        go_wp2_with (at_builtin; refine wpList_append_kit eltByt rfl _ _ rfl w.heap.size _ 4 _ rfl HO9.out (some ⟨gd, 0, none⟩) 11 cd (bys exBody) rfl (fun e => by cases e) rfl (fun j u hj => ⟨_, rfl, by rw [add_none]; exact HC9.out j u hj⟩) (bys_one _) (by decide) HE9.out.size ?_)
        intro A10 c10 w10 HO10 HK10 _HG10
        rw [← bys_app, show ([11, 0, 0, 0] ++ exBody : List Int) = exHead from rfl] at HO10
        have HE10 := Lib.hid (HE9.out.trans HK10.out fun k hk e => by have := (HO9.out.lt k e).1; omega)
        have HSM := Lib.hid (show Calls Tryz.prog 5 #[.slice A10 15 c10] w10 _ from Sum_any A10 exHead c10 w10 (BytesAt.of_own HO10.out) (by unfold isByte exHead; decide) (by decide))
        clear HO9 HK10 HC9 HE9 HK9
        go_wp2_with (fail)
        refine HSM.out.mono ?_
        unfold SumPost
        rw [exHead_sum]
        rintro r w11 ⟨rfl, hk11⟩
        have HO11 := Lib.hid (hk11.own HO10.out fun _ _ => id)
        have HE11 := Lib.hid (HE10.out.trans hk11 fun _ _ e => e)
        clear hk11 HSM HO10 HE10
        have HLT := Lib.hid (show Calls Tryz.prog 19 #[.slice A10 15 c10, .int .u32 3905894663] w11 _ from little_any w.heap.size A10 exHead c10 3905894663 _ HO11.out HE11.out.size (by decide) (by decide))
        go_wp2_with (fail)
        refine HLT.out.mono ?_
        rw [show (exHead ++ lowB 3905894663 : List Int) = exB by kernel_rfl]
        rintro r w12 ⟨A12, c12, rfl, ho12, hk12⟩
        have HO12 := Lib.hid ho12
        have HE12 := Lib.hid (HE11.out.trans hk12 fun k hk e => by have := (HO11.out.lt k e).1; omega)
        clear ho12 hk12 HLT HO11 HE11
        go_wp2_with (fail)
        go_ret2
        exact ⟨A12, c12, rfl, HO12.out, HE12.out⟩
end Go.Proofs.YtoeipjhdpeibpaaGreat
