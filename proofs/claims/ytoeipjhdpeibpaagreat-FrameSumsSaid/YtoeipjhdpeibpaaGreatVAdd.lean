/- The walk of Add. Conditions: the Dots lie in memory as DotsAt says. -/
import Derived.Test.YtoeipjhdpeibpaaGreatVRCov
namespace Go.Proofs.YtoeipjhdpeibpaaGreat
open Go.RowKit

def AddPost (w : World) (l : List Dt) (n : Int) (e : Ending) (w' : World) : Prop :=
  ∃ A c, e = .returned (.tuple #[.slice A l.length c, .int .i64 n]) ∧ w'.ownsRow w.heap.size 55 2 (.slice A l.length c) l.length (dots l) ∧ Kept (fun _ => False) w w'

set_option maxRecDepth 100000 in
set_option maxHeartbeats 1600000 in
theorem Add_any (A : Option Addr) (l : List Dt) (c : Nat) (d : Dt) (w : World) (hl : DotsAt w A l) (hlen : l.length ≤ 4611686018427387904) :
    Calls Tryz.prog 76 #[.slice A l.length c, .agg #[.int .i64 d.site, .int .i64 d.seq]] w (AddPost w (addV l d) (addE l d)) := by
  obtain ⟨site, seq⟩ := d
  have HL := Lib.hid hl
  have HB := Lib.hid (Box.new w 55 #[.int .i64 site, .int .i64 seq])
  have HK := Lib.hid ((Kept.refl (fun _ => False) w).alloc (.cells #[.int .i64 site, .int .i64 seq] 55))
  clear hl
  have hno : addE l ⟨site, seq⟩ ≠ 0 → addV l ⟨site, seq⟩ = [] := fun h => if_neg h
  have hend : ∀ (n : Int) (w1 : World) (e : Ending), addE l ⟨site, seq⟩ = n → n ≠ 0 → Kept (fun _ => False) w w1 → e = .returned (.tuple #[.slice none 0 0, .int .i64 n]) → AddPost w (addV l ⟨site, seq⟩) (addE l ⟨site, seq⟩) e w1 := by
    intro n w1 e hn h0 hk he
    rw [hno (by rw [hn]; exact h0), hn]
    exact ⟨none, 0, he, World.ownsRow_nil _ _ _ _, hk⟩
  have HEND := Lib.hid hend
  clear hno hend
  cases hs : siteB site with
  | false =>
    have HV := Lib.hid (show addE l ⟨site, seq⟩ = 1 by simp [addE, hs])
    have HS := Lib.hid hs
    clear hs
    go_enter Tryz.func76, Tryz.ntmps76
    go_wp2_with (fail)
    generalize w.alloc (.cells #[.int .i64 site, .int .i64 seq] 55) = W at HB HK ⊢
    have x0 : W.cell? ⟨w.heap.size, 0, none⟩ = some (.int .i64 site) := by simpa using HB.out.cell 0
    have x1 : W.cell? ⟨w.heap.size, 1, none⟩ = some (.int .i64 seq) := by simpa using HB.out.cell 1
    go_wp2_with (fail)
    refine (isSite_is _ false _ HS.out).mono ?_
    rintro e w1 ⟨rfl, rfl⟩
    go_wp2
    go_ret2
    exact HEND.out 1 _ _ HV.out (by decide) HK.out rfl
  | true =>
    have h : 1 ≤ site ∧ site ≤ 16 := by simpa [siteB] using hs
    have HS := Lib.hid hs
    obtain ⟨x, hx⟩ : ∃ x, getV l site = x := ⟨_, rfl⟩
    obtain ⟨st, rfl⟩ : ∃ st : Nat, site = st := ⟨site.toNat, by omega⟩
    obtain ⟨p1, p2⟩ := h
    have hxb : 0 ≤ x ∧ x ≤ 2147483647 := by rw [← hx, getV_yes (by omega)]; exact (Row.says l).bd st
    obtain ⟨q1, q2⟩ := hxb
    have hwr : IntKind.i64.wrap (x + 1) = x + 1 := IntWalk.i64_in _ ⟨by omega, by omega⟩
    have HX := Lib.hid hx
    have HE1 := Lib.hid (show seq < 1 → addE l ⟨st, seq⟩ = 1 from fun h => by simp [addE, h])
    have HE2 := Lib.hid (show ¬ seq < 1 → 2147483647 < seq → addE l ⟨st, seq⟩ = 17 from fun h h' => by simp [addE, h', hs]; omega)
    have HE3 := Lib.hid (show ¬ seq < 1 → ¬ 2147483647 < seq → seq ≠ x + 1 → addE l ⟨st, seq⟩ = 9 from fun h h' h'' => by rw [addE, if_neg (by simp [hs]; omega), if_neg h', if_pos (by rw [hx]; exact h'')])
    have HE4 := Lib.hid (show ¬ seq < 1 → ¬ 2147483647 < seq → seq = x + 1 → addE l ⟨st, seq⟩ = 0 ∧ addV l ⟨st, seq⟩ = vec ((says l).set st seq) from fun h h' h'' => by
      have e : addE l ⟨st, seq⟩ = 0 := by rw [addE, if_neg (by simp [hs]; omega), if_neg h', if_neg (by rw [hx]; exact fun h => h h'')]
      exact ⟨e, if_pos e⟩)
    clear hs hx
    go_enter Tryz.func76, Tryz.ntmps76
    go_wp2_with (fail)
    generalize w.alloc (.cells #[.int .i64 (st : Int), .int .i64 seq] 55) = W at HB HK ⊢
    have x0 : W.cell? ⟨w.heap.size, 0, none⟩ = some (.int .i64 (st : Int)) := by simpa using HB.out.cell 0
    have x1 : W.cell? ⟨w.heap.size, 1, none⟩ = some (.int .i64 seq) := by simpa using HB.out.cell 1
    go_wp2_with (fail)
    refine (isSite_is _ true _ HS.out).mono ?_
    rintro e w1 ⟨rfl, rfl⟩
    by_cases h1 : seq < 1
    · go_wp2
      go_ret2
      exact HEND.out 1 _ _ (HE1.out h1) (by decide) HK.out rfl
    · by_cases h2 : 2147483647 < seq
      · go_wp2
        go_ret2
        exact HEND.out 17 _ _ (HE2.out (by omega) h2) (by decide) HK.out rfl
      · by_cases h3 : seq = x + 1
        · have HH := Lib.hid (HE4.out (by omega) (by omega) h3)
          have e3 : (seq != x + 1) = false := by simp [h3]
          clear h3
          go_wp2_with (fail)
          go_region_held3 (fun w' => w'.cell? ⟨w.heap.size, 0, none⟩ = some (.int .i64 (st : Int)) ∧ w'.cell? ⟨w.heap.size, 1, none⟩ = some (.int .i64 seq))
            (first | exact ⟨x0, x1⟩ | exact ⟨y0, y1⟩)
            ((go_at_call 59; refine (Get_any A l c st _ (HL.out.fresh ((HK.out).trans (Kept.drewN_eq 1) fun _ _ e => e)) hlen).mono ?_; rw [HX.out]; rintro e w1 ⟨rfl, hk⟩; have HK1 := Lib.hid ((HK.out.trans (Kept.drewN_eq 1) fun _ _ e => e).trans hk fun _ _ e => e); have HB1 := Lib.hid ((HB.out.drewN 1).kept hk (fun h => h)); have y0 : w1.cell? ⟨w.heap.size, 0, none⟩ = some (.int .i64 (st : Int)) := (by simpa using HB1.out.cell 0); have y1 : w1.cell? ⟨w.heap.size, 1, none⟩ = some (.int .i64 seq) := (by simpa using HB1.out.cell 1); clear hk))
          go_wp2_with (fail)
          refine (of_any A l c _ (HL.out.fresh HK1.out) hlen).mono ?_
          rintro e w2 ⟨rfl, hk2⟩
          have HK2 := Lib.hid (HK1.out.trans hk2 fun _ _ e => e)
          have HB2 := Lib.hid (HB1.out.kept hk2 fun h => h)
          have HR := Lib.hid (Row.says l)
          generalize says l = r at HR HH ⊢
          have hb0 := zero_row w2 85
          clear hk2 x0 x1 y0 y1
          go_wp2_with (first | (refine wpList_load_box rfl 85 _ rfl w2.heap.size rfl 85 (rowV (r.set st seq)) _ hb5 Tryz.underlying85 rfl (size_row.trans (by rw [rowV_size, List.length_set, HR.out.len])) ?_) | (refine wpList_store_box rfl 85 _ _ rfl w2.heap.size (rowV r) rfl rfl 85 (rowV row0) hb0 (size_row.trans (size_of_row HR.out)) (by rw [rowV_size, rowV_size, HR.out.len]; rfl) (rowV_one _) ?_; intro w3 HB3 hk3; have HK3 := Lib.hid (HK2.out.fresh_set hk3); have HB4 := Lib.hid ((HB2.out.alloc _).kept hk3 (by have := HB2.out.lt; omega)); have z0 : w3.cell? ⟨w.heap.size, 0, none⟩ = some (.int .i64 (st : Int)) := (by simpa using HB4.out.cell 0); have z1 : w3.cell? ⟨w.heap.size, 1, none⟩ = some (.int .i64 seq) := (by simpa using HB4.out.cell 1); have zf : w3.frozen? ⟨w2.heap.size, st, none⟩ = false := HB3.out.frozen st; have zc : w3.cell? ⟨w2.heap.size, st, none⟩ = some (.int .i64 (rg r st)) := (by rw [HB3.out.cell, rowV_get _ _ (by rw [HR.out.len]; omega)]); have hb5 : Box (w3.setCell ⟨w2.heap.size, st, none⟩ (.int .i64 seq)) w2.heap.size 85 (rowV (r.set st seq)) := (by have := HB3.out.set st (.int .i64 seq); rwa [rowV_set] at this); clear hk3 hb0))
          have hsz := HK2.out.size
          refine (vector_any _ _ (HR.out.set st (by omega) (by omega) seq (by omega) (by omega))).mono ?_
          rintro e w4 hf
          obtain ⟨A', c', rfl, ho, hk4⟩ := hf.since (HK3.out.at st (.int .i64 seq) (.inr hsz))
          have HF := Lib.hid (show AddPost w (addV l ⟨st, seq⟩) (addE l ⟨st, seq⟩) (.returned (.tuple #[.slice A' (vec (r.set st seq)).length c', .int .i64 0])) w4 by
            rw [HH.out.1, HH.out.2]
            exact ⟨A', c', rfl, ho, hk4⟩)
          clear ho hk4 hf hb5 zf zc z0 z1
          go_wp2
          go_ret2
          exact HF.out
        · have e3 : (seq != x + 1) = true := by simp [h3]
          have HH := Lib.hid (HE3.out (by omega) (by omega) h3)
          clear h3
          go_wp2_with (fail)
          go_region_held3 (fun w' => w'.cell? ⟨w.heap.size, 0, none⟩ = some (.int .i64 (st : Int)) ∧ w'.cell? ⟨w.heap.size, 1, none⟩ = some (.int .i64 seq))
            (first | exact ⟨x0, x1⟩ | exact ⟨y0, y1⟩)
            ((go_at_call 59; refine (Get_any A l c st _ (HL.out.fresh ((HK.out).trans (Kept.drewN_eq 1) fun _ _ e => e)) hlen).mono ?_; rw [HX.out]; rintro e w1 ⟨rfl, hk⟩; have HK1 := Lib.hid ((HK.out.trans (Kept.drewN_eq 1) fun _ _ e => e).trans hk fun _ _ e => e); have HB1 := Lib.hid ((HB.out.drewN 1).kept hk (fun h => h)); have y0 : w1.cell? ⟨w.heap.size, 0, none⟩ = some (.int .i64 (st : Int)) := (by simpa using HB1.out.cell 0); have y1 : w1.cell? ⟨w.heap.size, 1, none⟩ = some (.int .i64 seq) := (by simpa using HB1.out.cell 1); clear hk))
          go_wp2
          go_ret2
          exact HEND.out 9 _ _ HH.out (by decide) HK1.out rfl
end Go.Proofs.YtoeipjhdpeibpaaGreat
