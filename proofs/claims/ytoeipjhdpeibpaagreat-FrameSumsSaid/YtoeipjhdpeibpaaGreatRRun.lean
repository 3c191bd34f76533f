/- The walks of stamp.is, After, last, Compare. Conditions: numbers are those of Go's int. -/
import Derived.Test.YtoeipjhdpeibpaaGreatRPlain
import Derived.Test.YtoeipjhdpeibpaaGreatVGet
import Derived.Test.YtoeipjhdpeibpaaGreatKit
namespace Go.Proofs.YtoeipjhdpeibpaaGreat
open Go Go.RowKit

def inI (x : Int) : Prop := -9223372036854775808 ≤ x ∧ x ≤ 9223372036854775807
def IdPost (w : World) (i : Idt) (e : Ending) (w' : World) : Prop := e = .returned (idV i) ∧ Kept (fun _ => False) w w'
theorem size_ID : (Tryz.prog.info? 57).map (·.size) = some 2 := by kernel_rfl
theorem ret_id {fn : Func} {w w' : World} {i : Idt} {g t : Nat} {a : Act} {x : Exit} (hx : x = .ret) (hr : fn.results = #[.cell t 57]) (ha : a.tmps.getD t undef = .pointer (some ⟨g, 0, none⟩)) (hb : Box w' g 57 #[.int .i64 i.time, .int .i64 i.site]) (hd : a.defers = []) (hk : Kept (fun _ => False) w w') :
    bodyPost Tryz.prog fn (IdPost w i) x a w' := by
  subst hx
  exact bodyPost_ret (results_cell_row hr _ _ g 57 #[.int .i64 i.time, .int .i64 i.site] (0, 0) _ ha hb Tryz.underlying57 rfl (size_ID.trans rfl)) hd ⟨rfl, hk⟩

set_option maxRecDepth 100000 in
set_option maxHeartbeats 1600000 in
theorem is_any (i : Idt) (w : World) : Calls Tryz.prog 91 #[idV i] w (BoolPost w (okId i)) := by
  obtain ⟨t, s⟩ := i
  have hk : Kept (fun _ => False) w (w.alloc (.cells #[.int .i64 t, .int .i64 s] 57)) := (Kept.refl _ _).alloc _
  have HK := Lib.hid hk
  have x0 : (w.alloc (.cells #[.int .i64 t, .int .i64 s] 57)).cell? ⟨w.heap.size, 0, none⟩ = some (.int .i64 t) := (Box.new w 57 #[.int .i64 t, .int .i64 s]).cell 0
  have x1 : (w.alloc (.cells #[.int .i64 t, .int .i64 s] 57)).cell? ⟨w.heap.size, 1, none⟩ = some (.int .i64 s) := (Box.new w 57 #[.int .i64 t, .int .i64 s]).cell 1
  clear hk
  unfold idV okId
  by_cases h1 : 1 ≤ t
  · by_cases h2 : t ≤ 2147483647
    · by_cases h3 : 1 ≤ s
      · by_cases h4 : s ≤ 16
        · have hd : decide (1 ≤ t ∧ t ≤ 2147483647 ∧ 1 ≤ s ∧ s ≤ 16) = true := by simp [h1, h2, h3, h4]
          rw [hd]
          clear hd
          go_enter Tryz.func91, Tryz.ntmps91
          go_wp2
          go_ret
          exact ⟨rfl, HK.out⟩
        · have hd : decide (1 ≤ t ∧ t ≤ 2147483647 ∧ 1 ≤ s ∧ s ≤ 16) = false := by simp [h4]
          have h4' : 16 < s := by omega
          rw [hd]
          clear hd
          go_enter Tryz.func91, Tryz.ntmps91
          go_wp2
          go_ret
          exact ⟨rfl, HK.out⟩
      · have hd : decide (1 ≤ t ∧ t ≤ 2147483647 ∧ 1 ≤ s ∧ s ≤ 16) = false := by simp [h3]
        have h3' : s < 1 := by omega
        rw [hd]
        clear hd
        go_enter Tryz.func91, Tryz.ntmps91
        go_wp2
        go_ret
        exact ⟨rfl, HK.out⟩
    · have hd : decide (1 ≤ t ∧ t ≤ 2147483647 ∧ 1 ≤ s ∧ s ≤ 16) = false := by simp [h2]
      have h2' : 2147483647 < t := by omega
      rw [hd]
      clear hd
      go_enter Tryz.func91, Tryz.ntmps91
      go_wp2
      go_ret
      exact ⟨rfl, HK.out⟩
  · have hd : decide (1 ≤ t ∧ t ≤ 2147483647 ∧ 1 ≤ s ∧ s ≤ 16) = false := by simp [h1]
    have h1' : t < 1 := by omega
    rw [hd]
    clear hd
    go_enter Tryz.func91, Tryz.ntmps91
    go_wp2
    go_ret
    exact ⟨rfl, HK.out⟩

set_option maxRecDepth 100000 in
set_option maxHeartbeats 1600000 in
theorem After_any (i : Idt) (n : Int) (w : World) (hn : inI n) : Calls Tryz.prog 87 #[idV i, .int .i64 n] w (IdPost w (afterI i n)) := by
  obtain ⟨lo, hi⟩ := hn
  have hk1 : Kept (fun _ => False) w (w.alloc (.cells #[.int .i64 i.time, .int .i64 i.site] 57)) := (Kept.refl _ _).alloc _
  have HK2 := Lib.hid (hk1.trans ((Kept.refl (fun _ => False) _).alloc (.cells #[.int .i64 0, .int .i64 0] 57)) fun _ _ e => e)
  have HB1 := Lib.hid ((Box.new w 57 #[.int .i64 i.time, .int .i64 i.site]).alloc (.cells #[.int .i64 0, .int .i64 0] 57))
  have HB2 := Lib.hid ((Box.new (w.alloc (.cells #[.int .i64 i.time, .int .i64 i.site] 57)) 57 #[.int .i64 0, .int .i64 0]).at_eq (show _ = w.heap.size + 1 by simp))
  clear hk1
  obtain ⟨x, hx⟩ : ∃ x, afterI i n = x := ⟨_, rfl⟩
  obtain ⟨b, hb⟩ : ∃ b, okId i = b := ⟨_, rfl⟩
  have HX := Lib.hid hx
  have HB := Lib.hid hb
  rw [hx]
  have hcase : (b = false ∧ x = noId) ∨ (b = true ∧ n < 0 ∧ x = noId) ∨ (b = true ∧ 0 ≤ n ∧ 2147483647 - i.time < n ∧ x = noId) ∨ (b = true ∧ 0 ≤ n ∧ n ≤ 2147483647 - i.time ∧ x = ⟨i.time + n, i.site⟩) := by
    rw [← hx]
    unfold afterI
    cases b with
    | false => exact .inl ⟨rfl, if_neg fun e => by rw [hb] at e; cases e.1⟩
    | true =>
      by_cases h1 : n < 0
      · exact .inr (.inl ⟨rfl, h1, if_neg fun e => by omega⟩)
      · by_cases h2 : 2147483647 - i.time < n
        · exact .inr (.inr (.inl ⟨rfl, by omega, h2, if_neg fun e => by omega⟩))
        · exact .inr (.inr (.inr ⟨rfl, by omega, by omega, if_pos ⟨hb, by omega, by omega⟩⟩))
  have hbd : b = true → 1 ≤ i.time ∧ i.time ≤ 2147483647 := fun e => by
    rw [e, okId_iff] at hb
    exact ⟨hb.1, hb.2.1⟩
  obtain ⟨t, s⟩ := i
  clear hx hb
  unfold idV at *
  simp only at HB1 HB2 HK2 hcase hbd ⊢
  rcases hcase with ⟨rfl, rfl⟩ | ⟨rfl, h1, rfl⟩ | ⟨rfl, h1, h2, rfl⟩ | ⟨rfl, h1, h2, rfl⟩
  · clear hbd
    go_enter Tryz.func87, Tryz.ntmps87
    go_wp2_with (fail)
    refine (is_any ⟨t, s⟩ _).mono ?_
    unfold BoolPost
    rw [HB.out]
    rintro e w3 ⟨rfl, hk⟩
    have HB1' := Lib.hid (HB1.out.kept hk id)
    have HB2' := Lib.hid (HB2.out.kept hk id)
    have HK3 := Lib.hid (HK2.out.trans hk fun _ _ e => e)
    have x0 : w3.cell? ⟨w.heap.size, 0, none⟩ = some (.int .i64 t) := HB1'.out.cell 0
    have y0 : w3.cell? ⟨w.heap.size + 1, 0, none⟩ = some (.int .i64 0) := HB2'.out.cell 0
    have y1 : w3.cell? ⟨w.heap.size + 1, 1, none⟩ = some (.int .i64 0) := HB2'.out.cell 1
    have g0 : w3.frozen? ⟨w.heap.size + 1, 0, none⟩ = false := HB2'.out.frozen 0
    have g1 : w3.frozen? ⟨w.heap.size + 1, 1, none⟩ = false := HB2'.out.frozen 1
    clear hk
    go_wp2
    exact ret_id (i := noId) (g := w.heap.size + 1) (t := 4) rfl rfl rfl ((HB2'.out.set 0 _).set 1 _) rfl (HK3.out.trans (((Kept.refl (fun k => k = w.heap.size + 1) _).at 0 _ (.inl rfl)).at 1 _ (.inl rfl)) fun k hlt e => by omega)
  iterate 2
    · obtain ⟨hb1, hb2⟩ := hbd rfl
      clear hbd
      go_enter Tryz.func87, Tryz.ntmps87
      go_wp2_with (fail)
      refine (is_any ⟨t, s⟩ _).mono ?_
      unfold BoolPost
      rw [HB.out]
      rintro e w3 ⟨rfl, hk⟩
      have HB1' := Lib.hid (HB1.out.kept hk id)
      have HB2' := Lib.hid (HB2.out.kept hk id)
      have HK3 := Lib.hid (HK2.out.trans hk fun _ _ e => e)
      have x0 : w3.cell? ⟨w.heap.size, 0, none⟩ = some (.int .i64 t) := HB1'.out.cell 0
      have y0 : w3.cell? ⟨w.heap.size + 1, 0, none⟩ = some (.int .i64 0) := HB2'.out.cell 0
      have y1 : w3.cell? ⟨w.heap.size + 1, 1, none⟩ = some (.int .i64 0) := HB2'.out.cell 1
      have g0 : w3.frozen? ⟨w.heap.size + 1, 0, none⟩ = false := HB2'.out.frozen 0
      have g1 : w3.frozen? ⟨w.heap.size + 1, 1, none⟩ = false := HB2'.out.frozen 1
      clear hk
      go_wp2
      exact ret_id (i := noId) (g := w.heap.size + 1) (t := 4) rfl rfl rfl ((HB2'.out.set 0 _).set 1 _) rfl (HK3.out.trans (((Kept.refl (fun k => k = w.heap.size + 1) _).at 0 _ (.inl rfl)).at 1 _ (.inl rfl)) fun k hlt e => by omega)
  · obtain ⟨hb1, hb2⟩ := hbd rfl
    clear hbd
    go_enter Tryz.func87, Tryz.ntmps87
    go_wp2_with (fail)
    refine (is_any ⟨t, s⟩ _).mono ?_
    unfold BoolPost
    rw [HB.out]
    rintro e w3 ⟨rfl, hk⟩
    have HB1' := Lib.hid (HB1.out.kept hk id)
    have HB2' := Lib.hid (HB2.out.kept hk id)
    have HK3 := Lib.hid (HK2.out.trans hk fun _ _ e => e)
    have x0 : w3.cell? ⟨w.heap.size, 0, none⟩ = some (.int .i64 t) := HB1'.out.cell 0
    have x1 : w3.cell? ⟨w.heap.size, 1, none⟩ = some (.int .i64 s) := HB1'.out.cell 1
    have f0 : w3.frozen? ⟨w.heap.size, 0, none⟩ = false := HB1'.out.frozen 0
    have y0 : w3.cell? ⟨w.heap.size + 1, 0, none⟩ = some (.int .i64 0) := HB2'.out.cell 0
    have y1 : w3.cell? ⟨w.heap.size + 1, 1, none⟩ = some (.int .i64 0) := HB2'.out.cell 1
    have g0 : w3.frozen? ⟨w.heap.size + 1, 0, none⟩ = false := HB2'.out.frozen 0
    have g1 : w3.frozen? ⟨w.heap.size + 1, 1, none⟩ = false := HB2'.out.frozen 1
    clear hk
    go_wp2
    exact ret_id (i := ⟨t + n, s⟩) (g := w.heap.size + 1) (t := 4) rfl rfl rfl (((HB2'.out.far (show w.heap.size + 1 ≠ w.heap.size by omega) _).set 0 _).set 1 _) rfl (HK3.out.trans ((((Kept.refl (fun k => k = w.heap.size ∨ k = w.heap.size + 1) _).at 0 _ (.inl (.inl rfl))).at 0 _ (.inl (.inr rfl))).at 1 _ (.inl (.inr rfl))) fun k hlt e => by omega)

set_option maxRecDepth 100000 in
set_option maxHeartbeats 1600000 in
theorem last_any (r : Rn) (w : World) (hc : inI r.count) : Calls Tryz.prog 125 #[rnV r] w (IdPost w (lastI r)) := by
  obtain ⟨lo, hi⟩ := hc
  have HK2 := Lib.hid (((Kept.refl (fun _ => False) w).alloc (.cells #[.int .i64 r.id.time, .int .i64 r.id.site, .int .i64 r.count] 112)).alloc (.cells #[.int .i64 0, .int .i64 0] 57))
  have hb1 := (Box.new w 112 #[.int .i64 r.id.time, .int .i64 r.id.site, .int .i64 r.count]).alloc (.cells #[.int .i64 0, .int .i64 0] 57)
  have hb2 := (Box.new (w.alloc (.cells #[.int .i64 r.id.time, .int .i64 r.id.site, .int .i64 r.count] 112)) 57 #[.int .i64 0, .int .i64 0]).at_eq (show _ = w.heap.size + 1 by simp)
  have HB2 := Lib.hid hb2
  obtain ⟨x, hx⟩ : ∃ x, lastI r = x := ⟨_, rfl⟩
  have hcase : (r.count < 1 ∧ x = noId) ∨ (1 ≤ r.count ∧ x = afterI r.id (r.count - 1)) := by
    rw [← hx]
    unfold lastI
    by_cases h : r.count < 1
    · exact .inl ⟨h, if_pos h⟩
    · exact .inr ⟨by omega, if_neg h⟩
  rw [hx]
  clear hx
  obtain ⟨⟨t, s⟩, c⟩ := r
  unfold rnV
  simp only at lo hi hb1 hb2 HB2 HK2 hcase ⊢
  rcases hcase with ⟨h1, rfl⟩ | ⟨h1, hx⟩
  · clear hb1 hb2
    go_enter Tryz.func125, Tryz.ntmps125
    go_wp2
    have e : (⟨w.heap.size + 1, 0, none⟩ : Addr) = ⟨w.heap.size + 1, 0, none⟩ := rfl
    exact ret_id (i := noId) (g := w.heap.size + 1) (t := 2) rfl rfl rfl HB2.out rfl HK2.out
  · have HX := Lib.hid hx
    have hb3 : Box ((w.alloc (.cells #[.int .i64 t, .int .i64 s, .int .i64 c] 112)).alloc (.cells #[.int .i64 0, .int .i64 0] 57)) w.heap.size 112 #[.int .i64 t, .int .i64 s, .int .i64 c] := hb1
    have HB1 := Lib.hid hb3
    clear hb1 hb2 hb3 hx
    go_enter Tryz.func125, Tryz.ntmps125
    go_wp2_with (fail)
    refine (After_any ⟨t, s⟩ (c - 1) _ ⟨by omega, by omega⟩).mono ?_
    unfold IdPost idV
    rw [← HX.out]
    rintro e w3 ⟨rfl, hk⟩
    have HB2' := Lib.hid (HB2.out.kept hk id)
    have HK3 := Lib.hid (HK2.out.trans hk fun _ _ e => e)
    have y0 : w3.cell? ⟨w.heap.size + 1, 0, none⟩ = some (.int .i64 0) := HB2'.out.cell 0
    have y1 : w3.cell? ⟨w.heap.size + 1, 1, none⟩ = some (.int .i64 0) := HB2'.out.cell 1
    have g0 : w3.frozen? ⟨w.heap.size + 1, 0, none⟩ = false := HB2'.out.frozen 0
    have g1 : w3.frozen? ⟨w.heap.size + 1, 1, none⟩ = false := HB2'.out.frozen 1
    clear hk
    go_wp2
    exact ret_id (i := x) (g := w.heap.size + 1) (t := 2) rfl rfl rfl ((HB2'.out.set 0 _).set 1 _) rfl (HK3.out.trans (((Kept.refl (fun k => k = w.heap.size + 1) _).at 0 _ (.inl rfl)).at 1 _ (.inl rfl)) fun k hlt e => by omega)
end Go.Proofs.YtoeipjhdpeibpaaGreat
