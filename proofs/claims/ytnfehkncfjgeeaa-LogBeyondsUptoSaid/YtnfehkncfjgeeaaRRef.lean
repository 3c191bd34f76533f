/- The walks of hearsayref6.IsID, After, Compare, Check: of runs it tells what chkR says. Conditions: the numbers are those of Go's int. -/
import Derived.Test.YtnfehkncfjgeeaaRChk
namespace Go.Proofs.Ytnfehkncfjgeeaa
open Go Go.RowKit

set_option maxRecDepth 100000 in
set_option maxHeartbeats 1600000 in
theorem IsID_any (i : Idt) (w : World) : Calls Try.prog 73 #[idV i] w (BoolPost w (okId i)) := by
  obtain ⟨t, s⟩ := i
  have hk : Kept (fun _ => False) w (w.alloc (.cells #[.int .i64 t, .int .i64 s] 42)) := (Kept.refl _ _).alloc _
  have HK := Lib.hid hk
  have x0 : (w.alloc (.cells #[.int .i64 t, .int .i64 s] 42)).cell? ⟨w.heap.size, 0, none⟩ = some (.int .i64 t) := (Box.new w 42 #[.int .i64 t, .int .i64 s]).cell 0
  have x1 : (w.alloc (.cells #[.int .i64 t, .int .i64 s] 42)).cell? ⟨w.heap.size, 1, none⟩ = some (.int .i64 s) := (Box.new w 42 #[.int .i64 t, .int .i64 s]).cell 1
  clear hk
  unfold idV okId
  by_cases h1 : 1 ≤ t
  · by_cases h2 : t ≤ 2147483647
    · by_cases h3 : 1 ≤ s
      · by_cases h4 : s ≤ 16
        · have hd : decide (1 ≤ t ∧ t ≤ 2147483647 ∧ 1 ≤ s ∧ s ≤ 16) = true := by simp [h1, h2, h3, h4]
          rw [hd]
          clear hd
          go_enter Try.func73, Try.ntmps73
          go_wp2
          go_ret
          exact ⟨rfl, HK.out⟩
        · have hd : decide (1 ≤ t ∧ t ≤ 2147483647 ∧ 1 ≤ s ∧ s ≤ 16) = false := by simp [h4]
          have h4' : 16 < s := by omega
          rw [hd]
          clear hd
          go_enter Try.func73, Try.ntmps73
          go_wp2
          go_ret
          exact ⟨rfl, HK.out⟩
      · have hd : decide (1 ≤ t ∧ t ≤ 2147483647 ∧ 1 ≤ s ∧ s ≤ 16) = false := by simp [h3]
        have h3' : s < 1 := by omega
        rw [hd]
        clear hd
        go_enter Try.func73, Try.ntmps73
        go_wp2
        go_ret
        exact ⟨rfl, HK.out⟩
    · have hd : decide (1 ≤ t ∧ t ≤ 2147483647 ∧ 1 ≤ s ∧ s ≤ 16) = false := by simp [h2]
      have h2' : 2147483647 < t := by omega
      rw [hd]
      clear hd
      go_enter Try.func73, Try.ntmps73
      go_wp2
      go_ret
      exact ⟨rfl, HK.out⟩
  · have hd : decide (1 ≤ t ∧ t ≤ 2147483647 ∧ 1 ≤ s ∧ s ≤ 16) = false := by simp [h1]
    have h1' : t < 1 := by omega
    rw [hd]
    clear hd
    go_enter Try.func73, Try.ntmps73
    go_wp2
    go_ret
    exact ⟨rfl, HK.out⟩

set_option maxRecDepth 100000 in
set_option maxHeartbeats 1600000 in
theorem RAfter_any (i : Idt) (n : Int) (w : World) (hn : inI n) : Calls Try.prog 72 #[idV i, .int .i64 n] w (IdPost w (afterI i n)) := by
  obtain ⟨lo, hi⟩ := hn
  have hk1 : Kept (fun _ => False) w (w.alloc (.cells #[.int .i64 i.time, .int .i64 i.site] 42)) := (Kept.refl _ _).alloc _
  have HK2 := Lib.hid (hk1.trans ((Kept.refl (fun _ => False) _).alloc (.cells #[.int .i64 0, .int .i64 0] 42)) fun _ _ e => e)
  have HB1 := Lib.hid ((Box.new w 42 #[.int .i64 i.time, .int .i64 i.site]).alloc (.cells #[.int .i64 0, .int .i64 0] 42))
  have HB2 := Lib.hid ((Box.new (w.alloc (.cells #[.int .i64 i.time, .int .i64 i.site] 42)) 42 #[.int .i64 0, .int .i64 0]).at_eq (show _ = w.heap.size + 1 by simp))
  clear hk1
  obtain ⟨x, hx⟩ : ∃ x, afterI i n = x := ⟨_, rfl⟩
  obtain ⟨b, hb⟩ : ∃ b, okId i = b := ⟨_, rfl⟩
  have HX := Lib.hid hx
  have HB := Lib.hid hb
  rw [hx]
  have hcase : (b = false ∧ x = noId) ∨ (b = true ∧ n < 0 ∧ x = noId) ∨ (b = true ∧ 0 ≤ n ∧ 2147483647 - i.time < n ∧ x = noId) ∨ (b = true ∧ 0 ≤ n ∧ n ≤ 2147483647 - i.time ∧ x = ⟨i.time + n, i.site⟩) := by
    rw [← hx]
    unfold afterI
    cases b with
    | false => exact .inl ⟨rfl, if_neg fun e => by rw [hb] at e; cases e.1⟩
    | true =>
      by_cases h1 : n < 0
      · exact .inr (.inl ⟨rfl, h1, if_neg fun e => by omega⟩)
      · by_cases h2 : 2147483647 - i.time < n
        · exact .inr (.inr (.inl ⟨rfl, by omega, h2, if_neg fun e => by omega⟩))
        · exact .inr (.inr (.inr ⟨rfl, by omega, by omega, if_pos ⟨hb, by omega, by omega⟩⟩))
  have hbd : b = true → 1 ≤ i.time ∧ i.time ≤ 2147483647 := fun e => by
    rw [e, okId_iff] at hb
    exact ⟨hb.1, hb.2.1⟩
  obtain ⟨t, s⟩ := i
  clear hx hb
  unfold idV at *
  simp only at HB1 HB2 HK2 hcase hbd ⊢
  rcases hcase with ⟨rfl, rfl⟩ | ⟨rfl, h1, rfl⟩ | ⟨rfl, h1, h2, rfl⟩ | ⟨rfl, h1, h2, rfl⟩
  · clear hbd
    go_enter Try.func72, Try.ntmps72
    go_wp2_with (fail)
    refine (IsID_any ⟨t, s⟩ _).mono ?_
    unfold BoolPost
    rw [HB.out]
    rintro e w3 ⟨rfl, hk⟩
    have HB1' := Lib.hid (HB1.out.kept hk id)
    have HB2' := Lib.hid (HB2.out.kept hk id)
    have HK3 := Lib.hid (HK2.out.trans hk fun _ _ e => e)
    have x0 : w3.cell? ⟨w.heap.size, 0, none⟩ = some (.int .i64 t) := HB1'.out.cell 0
    have y0 : w3.cell? ⟨w.heap.size + 1, 0, none⟩ = some (.int .i64 0) := HB2'.out.cell 0
    have y1 : w3.cell? ⟨w.heap.size + 1, 1, none⟩ = some (.int .i64 0) := HB2'.out.cell 1
    have g0 : w3.frozen? ⟨w.heap.size + 1, 0, none⟩ = false := HB2'.out.frozen 0
    have g1 : w3.frozen? ⟨w.heap.size + 1, 1, none⟩ = false := HB2'.out.frozen 1
    clear hk
    go_wp2
    exact ret_id (i := noId) (g := w.heap.size + 1) (t := 4) rfl rfl rfl ((HB2'.out.set 0 _).set 1 _) rfl (HK3.out.trans (((Kept.refl (fun k => k = w.heap.size + 1) _).at 0 _ (.inl rfl)).at 1 _ (.inl rfl)) fun k hlt e => by omega)
  iterate 2
    · obtain ⟨hb1, hb2⟩ := hbd rfl
      clear hbd
      go_enter Try.func72, Try.ntmps72
      go_wp2_with (fail)
      refine (IsID_any ⟨t, s⟩ _).mono ?_
      unfold BoolPost
      rw [HB.out]
      rintro e w3 ⟨rfl, hk⟩
      have HB1' := Lib.hid (HB1.out.kept hk id)
      have HB2' := Lib.hid (HB2.out.kept hk id)
      have HK3 := Lib.hid (HK2.out.trans hk fun _ _ e => e)
      have x0 : w3.cell? ⟨w.heap.size, 0, none⟩ = some (.int .i64 t) := HB1'.out.cell 0
      have y0 : w3.cell? ⟨w.heap.size + 1, 0, none⟩ = some (.int .i64 0) := HB2'.out.cell 0
      have y1 : w3.cell? ⟨w.heap.size + 1, 1, none⟩ = some (.int .i64 0) := HB2'.out.cell 1
      have g0 : w3.frozen? ⟨w.heap.size + 1, 0, none⟩ = false := HB2'.out.frozen 0
      have g1 : w3.frozen? ⟨w.heap.size + 1, 1, none⟩ = false := HB2'.out.frozen 1
      clear hk
      go_wp2
      exact ret_id (i := noId) (g := w.heap.size + 1) (t := 4) rfl rfl rfl ((HB2'.out.set 0 _).set 1 _) rfl (HK3.out.trans (((Kept.refl (fun k => k = w.heap.size + 1) _).at 0 _ (.inl rfl)).at 1 _ (.inl rfl)) fun k hlt e => by omega)
  · obtain ⟨hb1, hb2⟩ := hbd rfl
    clear hbd
    go_enter Try.func72, Try.ntmps72
    go_wp2_with (fail)
    refine (IsID_any ⟨t, s⟩ _).mono ?_
    unfold BoolPost
    rw [HB.out]
    rintro e w3 ⟨rfl, hk⟩
    have HB1' := Lib.hid (HB1.out.kept hk id)
    have HB2' := Lib.hid (HB2.out.kept hk id)
    have HK3 := Lib.hid (HK2.out.trans hk fun _ _ e => e)
    have x0 : w3.cell? ⟨w.heap.size, 0, none⟩ = some (.int .i64 t) := HB1'.out.cell 0
    have x1 : w3.cell? ⟨w.heap.size, 1, none⟩ = some (.int .i64 s) := HB1'.out.cell 1
    have f0 : w3.frozen? ⟨w.heap.size, 0, none⟩ = false := HB1'.out.frozen 0
    have y0 : w3.cell? ⟨w.heap.size + 1, 0, none⟩ = some (.int .i64 0) := HB2'.out.cell 0
    have y1 : w3.cell? ⟨w.heap.size + 1, 1, none⟩ = some (.int .i64 0) := HB2'.out.cell 1
    have g0 : w3.frozen? ⟨w.heap.size + 1, 0, none⟩ = false := HB2'.out.frozen 0
    have g1 : w3.frozen? ⟨w.heap.size + 1, 1, none⟩ = false := HB2'.out.frozen 1
    clear hk
    go_wp2
    exact ret_id (i := ⟨t + n, s⟩) (g := w.heap.size + 1) (t := 4) rfl rfl rfl ((HB2'.out.set 0 _).set 1 _) rfl (HK3.out.trans (((Kept.refl (fun k => k = w.heap.size + 1) _).at 0 _ (.inl rfl)).at 1 _ (.inl rfl)) fun k hlt e => by omega)


def rcmpId (a b : Idt) : Int := if a.time = b.time ∧ a.site = b.site then 0 else if ltId a b then -1 else 1
theorem rcmpId_ge (a b : Idt) : 0 ≤ rcmpId a b ↔ ¬ ltId a b := by
  unfold rcmpId
  split
  · unfold ltId; omega
  · split <;> rename_i h <;> simp [h]
set_option maxRecDepth 100000 in
set_option maxHeartbeats 1600000 in
theorem RCompare_any (a b : Idt) (w : World) : Calls Try.prog 74 #[idV a, idV b] w (IntPost w (rcmpId a b)) := by
  have HK := Lib.hid (((Kept.refl (fun _ => False) w).alloc (.cells #[.int .i64 a.time, .int .i64 a.site] 42)).alloc (.cells #[.int .i64 b.time, .int .i64 b.site] 42))
  have hb1 := (Box.new w 42 #[.int .i64 a.time, .int .i64 a.site]).alloc (.cells #[.int .i64 b.time, .int .i64 b.site] 42)
  have hb2 := (Box.new (w.alloc (.cells #[.int .i64 a.time, .int .i64 a.site] 42)) 42 #[.int .i64 b.time, .int .i64 b.site]).at_eq (show _ = w.heap.size + 1 by simp)
  obtain ⟨x, hx⟩ : ∃ x, rcmpId a b = x := ⟨_, rfl⟩
  have hcase : (a.time = b.time ∧ a.site = b.site ∧ x = 0) ∨ (a.time < b.time ∧ x = -1) ∨ (a.time = b.time ∧ a.site < b.site ∧ x = -1) ∨ (b.time < a.time ∧ x = 1) ∨ (a.time = b.time ∧ b.site < a.site ∧ x = 1) := by
    rw [← hx]
    unfold rcmpId
    by_cases h1 : a.time = b.time ∧ a.site = b.site
    · exact .inl ⟨h1.1, h1.2, if_pos h1⟩
    · rw [if_neg h1]
      by_cases h2 : ltId a b
      · rw [if_pos h2]
        unfold ltId at h2
        omega
      · rw [if_neg h2]
        unfold ltId at h2
        omega
  rw [hx]
  clear hx
  obtain ⟨t, s⟩ := a
  obtain ⟨t', s'⟩ := b
  unfold idV
  simp only at HK hb1 hb2 hcase ⊢
  have x0 := hb1.cell 0
  have x1 := hb1.cell 1
  have y0 := hb2.cell 0
  have y1 := hb2.cell 1
  clear hb1 hb2
  have hx := fun W => eql_id t s t' s' W
  rcases hcase with ⟨h1, h2, rfl⟩ | ⟨h1, rfl⟩ | ⟨h1, h2, rfl⟩ | ⟨h1, rfl⟩ | ⟨h1, h2, rfl⟩
  · rw [decide_eq_true ⟨h1, h2⟩] at hx
    clear h1 h2
    go_enter Try.func74, Try.ntmps74
    go_wp2
    go_ret
    exact ⟨rfl, HK.out⟩
  · rw [decide_eq_false (by omega)] at hx
    go_enter Try.func74, Try.ntmps74
    go_wp2
    go_ret
    exact ⟨rfl, HK.out⟩
  · subst h1
    rw [decide_eq_false (by omega)] at hx
    go_enter Try.func74, Try.ntmps74
    go_wp2
    go_ret
    exact ⟨rfl, HK.out⟩
  · rw [decide_eq_false (by omega)] at hx
    go_enter Try.func74, Try.ntmps74
    go_wp2
    go_ret
    exact ⟨rfl, HK.out⟩
  · subst h1
    rw [decide_eq_false (by omega)] at hx
    go_enter Try.func74, Try.ntmps74
    go_wp2
    go_ret
    exact ⟨rfl, HK.out⟩

/-- All of these may be runs. -/
def OkAll (p : List Rn) : Prop := ∀ q ∈ p, okRn q = true
structure RChkAt (w : World) (A : Option Addr) (l : List Rn) (wr : World) : Prop where
  r : RunsAt wr A l
  k : Kept (fun _ => False) w wr
theorem RChkAt.fresh {w wr w' : World} {A : Option Addr} {l : List Rn} (h : RChkAt w A l wr) (hk : Kept (fun _ => False) wr w') : RChkAt w A l w' := ⟨h.r.fresh hk, h.k.trans hk fun _ _ e => e⟩
theorem meets_take (l : List Rn) (r : Rn) {j : Nat} (h : j < l.length) : meets (l.take (j + 1)) r = (meets (l.take j) r || decide (l[j].id.site = r.id.site ∧ r.id.time ≤ l[j].id.time + l[j].count)) := by
  unfold meets
  rw [List.take_succ_eq_append_getElem h, List.any_append]
  simp

set_option maxRecDepth 100000 in
set_option maxHeartbeats 3200000 in
theorem RRCheck_any (A : Option Addr) (l : List Rn) (c : Nat) (w : World) (hl : RunsAt w A l) (hc : ∀ r ∈ l, inI r.count) (hlen : l.length ≤ 1000000) :
    Calls Try.prog 69 #[.slice A l.length c] w (IntPost w (chkR [] l)) := by
  obtain ⟨x, hx⟩ : ∃ x, chkR [] l = x := ⟨_, rfl⟩
  have HX := Lib.hid (show chkR (l.take 0) (l.drop 0) = x from hx)
  have HL := Lib.hid hl
  have HC := Lib.hid hc
  rw [hx]
  clear hx hl hc
  go_enter Try.func69, Try.ntmps69
  go_wp2_with (fail)
  go_loopw [3] (fun i wr => ∃ (k : Nat), i = .int .i64 k ∧ k ≤ l.length ∧ chkR (l.take k) (l.drop k) = x ∧ OkAll (l.take k) ∧ RChkAt w A l wr) (fun i _ => l.length - (intOf i).toNat)
  case atStart => exact ⟨0, rfl, by omega, HX.out, fun q hq => absurd hq (by simp), HL.out, Kept.refl _ _⟩
  case round =>
    obtain ⟨k, rfl, hk, hchk, hoa, hz⟩ := hrel
    have HZ := Lib.hid hz
    have HOA := Lib.hid hoa
    clear HX hz hoa
    by_cases hlt : k < l.length
    · rw [chkR_step l hlt] at hchk
      obtain ⟨ad, rfl, x0, x1, x2⟩ := HZ.out.r k hlt
      have hci := HC.out l[k] (List.getElem_mem hlt)
      obtain ⟨r, hr⟩ : ∃ r, l[k] = r := ⟨_, rfl⟩
      rw [hr] at hchk x0 x1 x2 hci
      have HR := Lib.hid hr
      have HCH := Lib.hid hchk
      clear hr hchk
      have HST := Lib.hid (show stepR (l.take k) r = if okRn r = false then 1 else if notUp (l.take k) r = true then 9 else if meets (l.take k) r = true then 6 else 0 from rfl)
      have HOD := Lib.hid (show okRn r = (decide (1 ≤ r.count) && okId r.id && decide (r.count - 1 ≤ 2147483647 - r.id.time)) from rfl)
      obtain ⟨⟨t, s⟩, n⟩ := r
      obtain ⟨lo, hi⟩ := hci
      simp only at x0 x1 x2 lo hi
      have HB1 := Lib.hid (Box.new wr 87 #[.int .i64 t, .int .i64 s, .int .i64 n])
      have HZ1 := Lib.hid (HZ.out.fresh ((Kept.refl _ _).alloc (.cells #[.int .i64 t, .int .i64 s, .int .i64 n] 87)))
      go_upto_region 5 with (fail)
      generalize wr.alloc (.cells #[.int .i64 t, .int .i64 s, .int .i64 n] 87) = w1 at HB1 HZ1 ⊢
      clear HZ x0 x1 x2
      generalize wr.heap.size = g1 at HB1 ⊢
      have y0 : w1.cell? ⟨g1, 0, none⟩ = some (.int .i64 t) := HB1.out.cell 0
      have y1 : w1.cell? ⟨g1, 1, none⟩ = some (.int .i64 s) := HB1.out.cell 1
      have y2 : w1.cell? ⟨g1, 2, none⟩ = some (.int .i64 n) := HB1.out.cell 2
      go_cut [34] (fun v wx => v = .bool (!okRn ⟨⟨t, s⟩, n⟩) ∧ RChkAt w (some ad) l wx ∧ Box wx g1 87 #[.int .i64 t, .int .i64 s, .int .i64 n])
      case first =>
        by_cases h1 : n < 1
        · have hok : okRn ⟨⟨t, s⟩, n⟩ = false := by
            rw [HOD.out]
            simp only
            rw [decide_eq_false (show ¬ 1 ≤ n by omega)]
            rfl
          have HOK := Lib.hid hok
          clear hok
          go_wp2_with (fail)
          go_meet
          case rel => exact ⟨by rw [HOK.out]; rfl, HZ1.out, HB1.out⟩
        · have h1' : 1 ≤ n := by omega
          have HI := Lib.hid (IsID_any ⟨t, s⟩ w1)
          obtain ⟨b, hb⟩ : ∃ b, okId ⟨t, s⟩ = b := ⟨_, rfl⟩
          have HB := Lib.hid hb
          have hbt : b = true → 1 ≤ t ∧ t ≤ 2147483647 := fun e => by
            rw [e, okId_iff] at hb
            exact ⟨hb.1, hb.2.1⟩
          have HBT := Lib.hid hbt
          clear hb hbt h1
          go_wp2_with (fail)
          refine HI.out.mono ?_
          unfold BoolPost
          rw [HB.out]
          rintro e w2 ⟨rfl, hk2⟩
          have HZ2 := Lib.hid (HZ1.out.fresh hk2)
          have HB2 := Lib.hid (HB1.out.kept hk2 id)
          clear hk2 y0 y1 y2 HZ1 HB1 HI
          have y0 : w2.cell? ⟨g1, 0, none⟩ = some (.int .i64 t) := HB2.out.cell 0
          have y2 : w2.cell? ⟨g1, 2, none⟩ = some (.int .i64 n) := HB2.out.cell 2
          cases b with
          | false =>
            have HOK := Lib.hid (show okRn ⟨⟨t, s⟩, n⟩ = false by rw [HOD.out, HB.out]; simp)
            go_wp2_with (fail)
            go_meet
            case rel => exact ⟨congrArg Value.bool (by rw [HOK.out]; (first | rfl | (simp; omega))), HZ2.out, HB2.out⟩
          | true =>
            obtain ⟨hb1, hb2⟩ := HBT.out rfl
            by_cases h3 : n - 1 ≤ 2147483647 - t
            · have HOK := Lib.hid (show okRn ⟨⟨t, s⟩, n⟩ = true by rw [HOD.out, HB.out, decide_eq_true h1', decide_eq_true h3]; rfl)
              go_wp2_with (fail)
              go_meet
              case rel => exact ⟨congrArg Value.bool (by rw [HOK.out]; (first | rfl | (simp; omega))), HZ2.out, HB2.out⟩
            · have h3' : 2147483647 - t < n - 1 := by omega
              have HOK := Lib.hid (show okRn ⟨⟨t, s⟩, n⟩ = false by rw [HOD.out, HB.out, decide_eq_true h1', decide_eq_false h3]; rfl)
              clear h3
              go_wp2_with (fail)
              go_meet
              case rel => exact ⟨congrArg Value.bool (by rw [HOK.out]; (first | rfl | (simp; omega))), HZ2.out, HB2.out⟩
      case rest =>
        obtain ⟨rfl, hz2, hb2⟩ := hcut
        have HZ2 := Lib.hid hz2
        have HB2 := Lib.hid hb2
        clear hz2 hb2 y0 y1 y2 HZ1 HB1
        cases hok : okRn ⟨⟨t, s⟩, n⟩ with
        | false =>
          have h2 := HCH.out
          rw [HST.out, hok] at h2
          have HF := Lib.hid (show (1 : Int) = x from h2)
          clear hok h2
          go_wp2_with (fail)
          go_ret
          exact ⟨by rw [← HF.out]; rfl, HZ2.out.k⟩
        | true =>
          have HOK := Lib.hid hok
          have hob := hok
          rw [HOD.out] at hob
          simp only [Bool.and_eq_true, decide_eq_true_eq, okId_iff] at hob
          obtain ⟨⟨hn1, ht1, ht2, hs1, hs2⟩, hn2⟩ := hob
          clear hok HOD lo hi
          go_wp2_with (fail)
          generalize wc = w3 at HZ2 HB2 ⊢
          have y0 : w3.cell? ⟨g1, 0, none⟩ = some (.int .i64 t) := HB2.out.cell 0
          have y1 : w3.cell? ⟨g1, 1, none⟩ = some (.int .i64 s) := HB2.out.cell 1
          go_cut [48] (fun v wx => v = .bool (notUp (l.take k) ⟨⟨t, s⟩, n⟩) ∧ RChkAt w (some ad) l wx ∧ Box wx g1 87 #[.int .i64 t, .int .i64 s, .int .i64 n])
          case first =>
            rcases Nat.eq_zero_or_pos k with hk0 | hk0
            · subst hk0
              have hg : decide ((0 : Nat) < 0) = false := rfl
              go_quiet (fail)
              go_wp2
              go_meet
              case rel => exact ⟨rfl, HZ2.out.fresh (Kept.drewN_eq nq), HB2.out.drewN nq⟩
            · obtain ⟨j, rfl⟩ : ∃ j, k = j + 1 := ⟨k - 1, by omega⟩
              have hjl : j < l.length := by omega
              obtain ⟨ad', e, p0, p1, _⟩ := HZ2.out.r j hjl
              injection e with e
              subst e
              have HNU := Lib.hid (notUp_succ l hlt ⟨⟨t, s⟩, n⟩)
              obtain ⟨q, hq⟩ : ∃ q, l[j] = q := ⟨_, rfl⟩
              rw [hq] at p0 p1 HNU
              obtain ⟨⟨qt, qs⟩, qn⟩ := q
              simp only at p0 p1
              clear hq
              have hwj : IntKind.i64.wrap (j : Int) = (j : Int) := IntWalk.i64_in _ ⟨by omega, by omega⟩
              have hj0 : (0 : Int) ≤ (j : Int) := by omega
              have hj1 : (j : Int) < (l.length : Int) := by omega
              go_still_tail 11, (by kernel_rfl)
              change wpList _ _ _ _ _ w3.drew
              have HZ4 := Lib.hid (HZ2.out.fresh (Kept.refl (fun _ => False) w3).drew)
              have HB4 := Lib.hid HB2.out.drew
              clear HZ2 HB2 y0 y1 p0 p1
              generalize w3.drew = w4 at HZ4 HB4 ⊢
              go_wp2_with (fail)
              refine (RCompare_any ⟨qt, qs⟩ ⟨t, s⟩ _).mono ?_
              obtain ⟨y, hy⟩ : ∃ y, rcmpId ⟨qt, qs⟩ ⟨t, s⟩ = y := ⟨_, rfl⟩
              have hyl := rcmpId_ge ⟨qt, qs⟩ ⟨t, s⟩
              unfold IntPost
              rw [hy] at hyl ⊢
              have HYL := Lib.hid hyl
              clear hy hyl
              rintro e w5 ⟨rfl, hk5⟩
              have HZ5 := Lib.hid (HZ4.out.fresh hk5)
              have HB5 := Lib.hid (HB4.out.kept hk5 id)
              have HN2 := Lib.hid (show notUp (l.take (j + 1)) ⟨⟨t, s⟩, n⟩ = decide (0 ≤ y) by
                rw [HNU.out]
                by_cases h : ltId ⟨qt, qs⟩ ⟨t, s⟩
                · have h1 : ¬ 0 ≤ y := fun e => (HYL.out.1 e) h
                  simp [h, h1]
                · have h1 : 0 ≤ y := HYL.out.2 h
                  simp [h, h1])
              clear hk5 HZ4 HB4 hwj hj0 hj1
              go_wp2
              go_meet
              case rel => exact ⟨by rw [HN2.out], HZ5.out, HB5.out⟩
          case rest =>
            obtain ⟨rfl, hz3, hb3⟩ := hcut
            have HZ3 := Lib.hid hz3
            have HB3 := Lib.hid hb3
            clear hz3 hb3 y0 y1 HZ2 HB2
            cases hnu : notUp (l.take k) ⟨⟨t, s⟩, n⟩ with
            | true =>
              have h2 := HCH.out
              rw [HST.out, HOK.out, hnu] at h2
              have HF := Lib.hid (show (9 : Int) = x from h2)
              clear hnu h2
              go_wp2_with (fail)
              go_ret
              exact ⟨by rw [← HF.out]; rfl, HZ3.out.k⟩
            | false =>
              have HNU := Lib.hid hnu
              clear hnu
              go_wp2_with (fail)
              generalize wc = w6 at HZ3 HB3 ⊢
              go_loopw [5] (fun i wr => ∃ (j : Nat), i = .int .i64 j ∧ j ≤ k ∧ meets (l.take j) ⟨⟨t, s⟩, n⟩ = false ∧ RChkAt w (some ad) l wr ∧ Box wr g1 87 #[.int .i64 t, .int .i64 s, .int .i64 n]) (fun i _ => k - (intOf i).toNat)
              case atStart => exact ⟨0, rfl, by omega, rfl, HZ3.out, HB3.out⟩
              case round =>
                obtain ⟨j, rfl, hj, hme, hz, hb⟩ := hrel
                have HZ4 := Lib.hid hz
                have HB4 := Lib.hid hb
                have HME := Lib.hid hme
                clear hz hb hme HZ3 HB3
                by_cases hjk : j < k
                · have hjl : j < l.length := by omega
                  obtain ⟨ad', e, p0, p1, p2⟩ := HZ4.out.r j hjl
                  injection e with e
                  subst e
                  have HMT := Lib.hid (meets_take l ⟨⟨t, s⟩, n⟩ hjl)
                  have hoj := HOA.out l[j] (List.mem_of_getElem? (show (l.take k)[j]? = some l[j] by rw [List.getElem?_take, if_pos hjk, List.getElem?_eq_getElem hjl]))
                  obtain ⟨q, hq⟩ : ∃ q, l[j] = q := ⟨_, rfl⟩
                  rw [hq] at p0 p1 p2 hoj HMT
                  obtain ⟨⟨qt, qs⟩, qn⟩ := q
                  unfold okRn at hoj
                  simp only [Bool.and_eq_true, decide_eq_true_eq, okId_iff] at hoj
                  simp only at p0 p1 p2
                  obtain ⟨⟨hqn, hq1, hq2, hq3, hq4⟩, hq5⟩ := hoj
                  rw [HME.out] at HMT
                  clear hq
                  have y0 : wr.cell? ⟨g1, 0, none⟩ = some (.int .i64 t) := HB4.out.cell 0
                  have y1 : wr.cell? ⟨g1, 1, none⟩ = some (.int .i64 s) := HB4.out.cell 1
                  by_cases hqs : qs = s
                  · have hd : decide (qs = s) = true := decide_eq_true hqs
                    have hd' : (qs == s) = true := by simp [hqs]
                    by_cases hqt : t ≤ qt + qn
                    · have hme : meets (l.take (j + 1)) ⟨⟨t, s⟩, n⟩ = true := by rw [HMT.out]; simp [hqs, hqt]
                      have hmk : meets (l.take k) ⟨⟨t, s⟩, n⟩ = true := by
                        rw [meets_iff] at hme ⊢
                        obtain ⟨q, hq, h⟩ := hme
                        exact ⟨q, List.take_subset_take_left l (by omega) hq, h⟩
                      have h2 := HCH.out
                      rw [HST.out, HOK.out, HNU.out, hmk] at h2
                      have HF := Lib.hid (show (6 : Int) = x from h2)
                      have HQ := Lib.hid hqs
                      clear h2 hme hmk hqs
                      go_wp2_with (fail)
                      go_quiet (fail)
                      go_wp2
                      go_ret
                      exact ⟨by rw [← HF.out]; rfl, HZ4.out.k.trans (Kept.drewN_eq nq) fun _ _ e => e⟩
                    · have hme : meets (l.take (j + 1)) ⟨⟨t, s⟩, n⟩ = false := by rw [HMT.out]; simp [hqt]
                      have HME1 := Lib.hid hme
                      have hqt' : qt + qn < t := by omega
                      have HQ := Lib.hid hqs
                      clear hme hqt hqs
                      go_wp2_with (fail)
                      go_quiet (fail)
                      go_wp2
                      go_roundw
                      case rel => exact ⟨j + 1, by go_num, by omega, HME1.out, HZ4.out.fresh (Kept.drewN_eq nq), HB4.out.drewN nq⟩
                      case measure => simp [intOf]; omega
                  · have hd : decide (qs = s) = false := decide_eq_false hqs
                    have hd' : (qs == s) = false := by simp [hqs]
                    have hme : meets (l.take (j + 1)) ⟨⟨t, s⟩, n⟩ = false := by rw [HMT.out]; simp [hqs]
                    have HME1 := Lib.hid hme
                    clear hme
                    go_wp2_with (fail)
                    go_quiet (fail)
                    go_wp2
                    go_roundw
                    case rel => exact ⟨j + 1, by go_num, by omega, HME1.out, HZ4.out.fresh (Kept.drewN_eq nq), HB4.out.drewN nq⟩
                    case measure => simp [intOf]; omega
                · obtain rfl : j = k := by omega
                  have h2 := HCH.out
                  rw [HST.out, HOK.out, HNU.out, HME.out] at h2
                  have HF := Lib.hid h2
                  clear h2
                  go_wp2_with (fail)
                  go_roundw
                  case rel => exact ⟨j + 1, by go_num, by omega, HF.out, fun q hq => by
                    rw [List.take_succ_eq_append_getElem hlt, List.mem_append] at hq
                    rcases hq with hq | hq
                    · exact HOA.out q hq
                    · obtain rfl : q = l[j] := by simpa using hq
                      rw [HR.out]
                      exact HOK.out, HZ4.out⟩
                  case measure => simp [intOf]; omega
    · obtain rfl : k = l.length := by omega
      rw [chkR_end] at hchk
      have HF := Lib.hid hchk
      clear hchk
      go_wp2_with (fail)
      go_ret
      exact ⟨by rw [← HF.out]; rfl, HZ.out.k⟩
end Go.Proofs.Ytnfehkncfjgeeaa
