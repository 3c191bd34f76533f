/- The walks of vector.of and of the reference's Says: what a list of Dots says. Conditions: the Dots lie in memory as DotsAt says. -/
import Derived.Test.YtoeipjhdpeibpaaGreatVAt
namespace Go.Proofs.YtoeipjhdpeibpaaGreat
open Go.RowKit

/-- What of answers: the row; new blocks alone. -/
def RowPost (w : World) (r : List Int) (e : Ending) (w' : World) : Prop := e = .returned (.agg (rowV r)) ∧ Kept (fun _ => False) w w'

/-- one Dot laid into a row in memory -/
theorem lay_yes (r : List Int) (d : Dt) (h : okDot d = true) (m : Int) (hm : m = max (rg r d.site.toNat) d.seq) : lay r d = r.set d.site.toNat m := by rw [lay, if_pos h, hm]
theorem lay_no (r : List Int) (d : Dt) (h : okDot d = false) : lay r d = r := by rw [lay, h]; rfl
theorem lay_same {r : List Int} (hr : Row r) (d : Dt) (h : okDot d = true) (hm : d.seq ≤ rg r d.site.toNat) : lay r d = r := by
  have hd : 1 ≤ d.site ∧ d.site ≤ 16 ∧ 1 ≤ d.seq ∧ d.seq ≤ 2147483647 := by simpa [okDot] using h
  have hl := hr.len
  rw [lay, if_pos h]
  refine row_ext (by simp [hl]) hl fun i hi => ?_
  rw [rg_set _ _ _ _ (by omega)]
  split
  · rename_i e; subst e; omega
  · rfl

theorem Box.at_eq {w : World} {g g' : Nat} {t : TypeId} {cs : Array Value} (h : Box w g t cs) (e : g = g') : Box w g' t cs := e ▸ h
/-- The two blocks that of makes first. -/
def OfAt (w : World) (T : TypeId) (r : List Int) (wr : World) : Prop := Box wr w.heap.size T (rowV row0) ∧ Box wr (w.heap.size + 1) T (rowV r) ∧ Kept (fun _ => False) w wr
theorem OfAt.start (w : World) (T : TypeId) : OfAt w T row0 ((w.alloc (.cells #[.int .i64 0, .int .i64 0, .int .i64 0, .int .i64 0, .int .i64 0, .int .i64 0, .int .i64 0, .int .i64 0, .int .i64 0, .int .i64 0, .int .i64 0, .int .i64 0, .int .i64 0, .int .i64 0, .int .i64 0, .int .i64 0, .int .i64 0] T)).alloc (.cells #[.int .i64 0, .int .i64 0, .int .i64 0, .int .i64 0, .int .i64 0, .int .i64 0, .int .i64 0, .int .i64 0, .int .i64 0, .int .i64 0, .int .i64 0, .int .i64 0, .int .i64 0, .int .i64 0, .int .i64 0, .int .i64 0, .int .i64 0] T)) := by
  refine ⟨(Box.new w T (rowV row0)).alloc _, ?_, ((Kept.refl _ _).alloc _).alloc _⟩
  exact (Box.new (w.alloc (.cells (rowV row0) T)) T (rowV row0)).at_eq (by simp)
theorem OfAt.more {w wr w1 : World} {T : TypeId} {r : List Int} (h : OfAt w T r wr) (hk : Kept (fun _ => False) wr w1) : OfAt w T r w1 := ⟨h.1.kept hk fun h => h, h.2.1.kept hk fun h => h, h.2.2.trans hk fun _ _ e => e⟩
theorem OfAt.set {w wr : World} {T : TypeId} {r : List Int} (h : OfAt w T r wr) (i : Nat) (m : Int) : OfAt w T (r.set i m) (wr.setCell ⟨w.heap.size + 1, i, none⟩ (.int .i64 m)) := by
  refine ⟨h.1.far (p := ⟨w.heap.size + 1, i, none⟩) (by show w.heap.size ≠ w.heap.size + 1; omega) _, ?_, h.2.2.at i _ (.inr (by omega))⟩
  have := h.2.1.set i (.int .i64 m)
  rwa [rowV_set] at this

set_option maxRecDepth 100000 in
set_option maxHeartbeats 1600000 in
theorem of_any (A : Option Addr) (l : List Dt) (c : Nat) (w : World) (hl : DotsAt w A l) (hlen : l.length ≤ 4611686018427387904) :
    Calls Tryz.prog 47 #[.slice A l.length c] w (RowPost w (says l)) := by
  have HA := Lib.hid (OfAt.start w 85)
  have HL := Lib.hid hl
  clear hl
  go_enter Tryz.func47, Tryz.ntmps47
  go_wp2_with (fail)
  generalize (w.alloc (.cells #[.int .i64 0, .int .i64 0, .int .i64 0, .int .i64 0, .int .i64 0, .int .i64 0, .int .i64 0, .int .i64 0, .int .i64 0, .int .i64 0, .int .i64 0, .int .i64 0, .int .i64 0, .int .i64 0, .int .i64 0, .int .i64 0, .int .i64 0] 85)).alloc (.cells #[.int .i64 0, .int .i64 0, .int .i64 0, .int .i64 0, .int .i64 0, .int .i64 0, .int .i64 0, .int .i64 0, .int .i64 0, .int .i64 0, .int .i64 0, .int .i64 0, .int .i64 0, .int .i64 0, .int .i64 0, .int .i64 0, .int .i64 0] 85) = W0 at HA ⊢
  go_loopw [8] (fun i wr => ∃ k : Nat, i = .int .i64 k ∧ k ≤ l.length ∧ OfAt w 85 (saysTo l k) wr) (fun i _ => l.length - (intOf i).toNat)
  case atStart => exact ⟨0, rfl, Nat.zero_le _, HA.out⟩
  case round =>
    obtain ⟨k, rfl, hk, hat⟩ := hrel
    have HO := Lib.hid hat
    by_cases hlt : k < l.length
    · obtain ⟨ad, rfl, x0, x1⟩ := HL.out.fresh hat.2.2 k hlt
      have hrow := Row.saysTo l k
      have HS := Lib.hid (saysTo_succ l k hlt)
      generalize hd : l[k] = d at x0 x1 HS
      clear hd
      have hb := hat.2.1
      have HB := Lib.hid hb
      have hkX : Kept (fun _ => False) wr (wr.alloc (.cells #[.int .i64 d.site, .int .i64 d.seq] 55)) := (Kept.refl _ _).alloc _
      have HX := Lib.hid (Box.new wr 55 #[.int .i64 d.site, .int .i64 d.seq])
      have HKX := Lib.hid hkX
      clear hat hb hkX
      obtain ⟨site, seq⟩ := d
      simp only at x0 x1 HX HKX
      cases hok : okDot ⟨site, seq⟩ with
      | true =>
        have hd : 1 ≤ site ∧ site ≤ 16 ∧ 1 ≤ seq ∧ seq ≤ 2147483647 := by simpa [okDot] using hok
        obtain ⟨h1, h2, h3, h4⟩ := hd
        obtain ⟨st, rfl⟩ : ∃ st : Nat, site = st := ⟨site.toNat, by omega⟩
        obtain ⟨q0, hq0⟩ : ∃ q, rg (saysTo l k) st = q := ⟨_, rfl⟩
        have HY := Lib.hid (show ∀ m, m = max q0 seq → lay (saysTo l k) ⟨st, seq⟩ = (saysTo l k).set st m from fun m hm => by rw [← hq0] at hm; exact lay_yes _ _ hok m hm)
        have HYS := Lib.hid (show seq ≤ q0 → lay (saysTo l k) ⟨st, seq⟩ = saysTo l k from fun hm => by rw [← hq0] at hm; exact lay_same hrow _ hok hm)
        have hqb := hrow.bd st
        rw [hq0] at hqb
        obtain ⟨hq1, hq2⟩ := hqb
        have hcell : ∀ w1, Kept (fun _ => False) wr w1 → w1.cell? ⟨w.heap.size + 1, st, none⟩ = some (.int .i64 q0) ∧ w1.frozen? ⟨w.heap.size + 1, st, none⟩ = false := fun w1 hk1 =>
          ⟨by rw [(HB.out.kept hk1 fun h => h).cell st, rowV_get _ _ (by rw [hrow.len]; omega), hq0], (HB.out.kept hk1 fun h => h).frozen st⟩
        have hsite : siteB (st : Int) = true := by simp [siteB]; omega
        have HSI := Lib.hid hsite
        have HC := Lib.hid hcell
        clear hok hrow hcell hq0 hsite
        have em : ∃ m, (if q0 < seq then seq else q0) = m ∧ m = max q0 seq := ⟨_, rfl, by split <;> omega⟩
        obtain ⟨m, em, hm⟩ := em
        have HM := Lib.hid hm
        clear hm
        go_wp2_with (fail)
        generalize wr.alloc (.cells #[.int .i64 (st : Int), .int .i64 seq] 55) = W at HX HKX ⊢
        have y0 : W.cell? ⟨wr.heap.size, 0, none⟩ = some (.int .i64 (st : Int)) := by simpa using HX.out.cell 0
        have y1 : W.cell? ⟨wr.heap.size, 1, none⟩ = some (.int .i64 seq) := by simpa using HX.out.cell 1
        obtain ⟨c0, f0⟩ := HC.out W HKX.out
        clear x0 x1
        refine (isSite_is _ true _ HSI.out).mono ?_
        rintro e w1 ⟨rfl, rfl⟩
        go_wp2_with (fail)
        go_region
        all_goals
          go_wp2
          go_roundw
          case rel => exact ⟨k + 1, by go_num, by omega, by rw [HS.out, HY.out m HM.out]; exact ((HO.out.more HKX.out).more (Kept.drewN_eq 1)).set st m⟩
          case measure => simp [intOf]; omega
      | false =>
        have HF := Lib.hid (lay_no (saysTo l k) ⟨site, seq⟩ hok)
        clear hrow
        go_wp2_with (fail)
        generalize wr.alloc (.cells #[.int .i64 site, .int .i64 seq] 55) = W at HX HKX ⊢
        have y0 : W.cell? ⟨wr.heap.size, 0, none⟩ = some (.int .i64 site) := by simpa using HX.out.cell 0
        have y1 : W.cell? ⟨wr.heap.size, 1, none⟩ = some (.int .i64 seq) := by simpa using HX.out.cell 1
        clear x0 x1
        cases hsi : siteB site with
        | false =>
          refine (isSite_is _ false _ hsi).mono ?_
          rintro e w1 ⟨rfl, rfl⟩
          clear hok hsi
          go_wp2
          go_roundw
          case rel => exact ⟨k + 1, by go_num, by omega, by rw [HS.out, HF.out]; exact HO.out.more HKX.out⟩
          case measure => simp [intOf]; omega
        | true =>
          have hq : seq < 1 ∨ (1 ≤ seq ∧ 2147483647 < seq) := by simp [siteB] at hsi; simp [okDot] at hok; omega
          refine (isSite_is _ true _ hsi).mono ?_
          rintro e w1 ⟨rfl, rfl⟩
          clear hok hsi
          rcases hq with hq | ⟨hq, hq'⟩
          all_goals
            go_wp2
            go_roundw
            case rel => exact ⟨k + 1, by go_num, by omega, by rw [HS.out, HF.out]; exact HO.out.more HKX.out⟩
            case measure => simp [intOf]; omega
    · obtain rfl : k = l.length := by omega
      have hb0 := hat.1
      have hb1 := hat.2.1
      rw [saysTo_all] at hb1
      have HK := Lib.hid hat.2.2
      have HR := Lib.hid (Row.says l)
      have hsz : w.heap.size ≤ w.heap.size := Nat.le_refl _
      clear hat
      go_wp2_with (first
        | (refine wpList_load_box rfl 85 (.tmp 3) rfl (w.heap.size + 1) rfl 85 (rowV (says l)) _ hb1 Tryz.underlying85 rfl (size_row.trans (size_of_row HR.out)) ?_)
        | (refine wpList_store_box rfl 85 (.tmp 2) (.tmp 36) rfl w.heap.size (rowV (says l)) rfl rfl 85 (rowV row0) hb0 (size_row.trans (size_of_row HR.out)) (by rw [rowV_size, rowV_size, HR.out.len]; rfl) (rowV_one _) ?_; intro w2 HB2 hk2))
      exact bodyPost_ret (results_cell_row rfl _ _ w.heap.size 85 (rowV (says l)) (0, 0) _ rfl HB2.out Tryz.underlying85 rfl (size_row.trans (size_of_row HR.out))) rfl ⟨rfl, HK.out.trans hk2 fun j hj e => by omega⟩

end Go.Proofs.YtoeipjhdpeibpaaGreat
