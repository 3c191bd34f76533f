/- The law's example: what it is, what it is laid as; the walks of example and long. -/
import Derived.Test.YtnlklhlnnoihiaaMO35
namespace Go.Proofs.Ytnlklhlnnoihiaa
open Go Go.RowKit

def exO : Opr := ⟨⟨1, 2⟩, [⟨1, 1⟩], 1, ⟨5, 1⟩, ⟨4, 3⟩, ⟨#[104, 195, 169]⟩, [], 0⟩
theorem exO_ok : okOp exO = true := by kernel_rfl
theorem exO_enc : encOp exO = [1, 1, 2, 1, 1, 1, 5, 4, 3, 3, 104, 195, 169] := by kernel_rfl
theorem exO_last : lastO exO = 6 := by kernel_rfl
theorem zeroO_no : okOp zeroO = false := by kernel_rfl
theorem exO_small : exO.Small := ⟨fun r hr => absurd hr (by simp [exO]), by decide, by decide, by decide⟩
theorem results_one_cell {fn : Func} {p : Tmp} {ty : TypeId} (h : fn.results = #[.cell p ty]) (tmps : Array Value) (w : World) (v : Value) (g : Nat)
    (hp : tmps.getD p undef = .pointer (some ⟨g, 0, none⟩)) (hl : (loadVar ty ⟨g, 0, none⟩).run Try.prog w = .ok v w) : (results fn tmps).run Try.prog w = .ok v w := by
  have hp' : tmps[p]?.getD undef = .pointer (some ⟨g, 0, none⟩) := by simpa using hp
  simp [results, h, hp', asAddr, hl]
theorem dots_one_box {w : World} {g : Nat} {a b : Int} {T : TypeId} (h : Box w g T #[.int .i64 a, .int .i64 b]) : DotsAt w (some ⟨g, 0, none⟩) [⟨a, b⟩] := by
  intro k hk
  obtain rfl : k = 0 := by simp at hk; omega
  exact ⟨_, rfl, (h.cell 0).trans rfl, (h.cell 1).trans rfl⟩
def ExPost (w : World) (r : Ending) (w' : World) : Prop := ∃ x : Lop, r = .returned (.agg x.c) ∧ x.o = exO ∧ x.At w' ∧ Kept (fun _ => False) w w'
set_option maxRecDepth 100000 in
set_option maxHeartbeats 1600000 in
theorem Ex_any (w : World) : Calls Try.prog 44 #[] w (ExPost w) := by
  have hk0 : Kept (fun _ => False) w (w.alloc (.cells zeroC 30)) := (Kept.refl _ _).alloc _
  have HB := Lib.hid ((Box.new w 30 zeroC).alloc (.cells #[.int .i64 1, .int .i64 1] 23))
  have HD := Lib.hid (Box.new (w.alloc (.cells zeroC 30)) 23 #[.int .i64 1, .int .i64 1])
  have HK := Lib.hid (hk0.trans ((Kept.refl _ _).alloc (.cells #[.int .i64 1, .int .i64 1] 23)) fun _ _ e => e)
  have hsz : (w.alloc (.cells zeroC 30)).heap.size = w.heap.size + 1 := by simp
  rw [hsz] at HD
  clear hk0 hsz
  go_enter Try.func44, Try.ntmps44
  go_upto_region 1 with (fail)
  have hzz : (w.alloc (.cells #[.int .i64 0, .int .i64 0, .slice none 0 0, .int .i64 0, .int .i64 0, .int .i64 0, .int .i64 0, .int .i64 0, .string ⟨#[]⟩, .slice none 0 0, .int .i64 0] 30)) = w.alloc (.cells zeroC 30) := rfl
  rw [hzz]
  clear hzz
  go_wp2_with (refine wpList_store_box rfl 30 _ _ rfl w.heap.size (exO.cells (some ⟨w.heap.size + 1, 0, none⟩) 1 none 0) rfl rfl 30 zeroC HB.out (size_op.trans rfl) rfl (Opr.cells_one _ _ _ _ _) ?_; intro w2 HB2 hk2; refine Hid.out ?_)
  refine Lib.hid ?_
  have HD2 := Lib.hid (HD.out.kept hk2 (by omega))
  have HK2 := Lib.hid (HK.out.trans hk2 fun k hk e => by omega)
  clear hk2
  go_wp2_with (fail)
  refine bodyPost_ret (results_one_cell (show Try.f44.results = #[.cell 0 30] by kernel_rfl) _ _ (.agg (exO.cells (some ⟨w.heap.size + 1, 0, none⟩) 1 none 0)) w.heap.size rfl (load_OP HB2.out rfl)) rfl ?_
  exact ⟨⟨exO, some ⟨w.heap.size + 1, 0, none⟩, 1, none, 0⟩, rfl, rfl, ⟨dots_one_box HD2.out, RunsAt.nil⟩, HK2.out⟩
def isLong (o : Opr) : Bool := decide (3000 < o.deps.length ∨ 3000 < o.gone.length ∨ 60000 < o.text.size)
set_option maxRecDepth 100000 in
set_option maxHeartbeats 1600000 in
theorem Long_any (x : Lop) (w : World) : Calls Try.prog 12 #[.agg x.c] w (fun r w' => r = .returned (.bool (isLong x.o)) ∧ Kept (fun _ => False) w w') := by
  have HK := Lib.hid ((Kept.refl (fun _ => False) w).alloc (.cells x.c 30))
  have HB := Lib.hid (Box.new w 30 x.c)
  obtain ⟨b, hb⟩ : ∃ b, isLong x.o = b := ⟨_, rfl⟩
  rw [hb]
  have HL := Lib.hid hb
  clear hb
  have c2 : (w.alloc (.cells x.c 30)).cell? ⟨w.heap.size, 2, none⟩ = some (.slice x.dA x.o.deps.length x.dc) := (HB.out.cell 2).trans rfl
  have c8 : (w.alloc (.cells x.c 30)).cell? ⟨w.heap.size, 8, none⟩ = some (.string x.o.text) := (HB.out.cell 8).trans rfl
  have c9 : (w.alloc (.cells x.c 30)).cell? ⟨w.heap.size, 9, none⟩ = some (.slice x.gA x.o.gone.length x.gc) := (HB.out.cell 9).trans rfl
  unfold isLong at HL
  by_cases h1 : 3000 < x.o.deps.length
  · obtain rfl : b = true := by rw [← HL.out]; exact decide_eq_true (.inl h1)
    have h1' : (3000 : Int) < (x.o.deps.length : Int) := by omega
    go_enter Try.func12, Try.ntmps12
    go_wp2_with (fail)
    go_ret
    exact ⟨rfl, HK.out⟩
  · have h1' : ¬ (3000 : Int) < (x.o.deps.length : Int) := by omega
    by_cases h2 : 3000 < x.o.gone.length
    · obtain rfl : b = true := by rw [← HL.out]; exact decide_eq_true (.inr (.inl h2))
      have h2' : (3000 : Int) < (x.o.gone.length : Int) := by omega
      go_enter Try.func12, Try.ntmps12
      go_wp2_with (fail)
      go_ret
      exact ⟨rfl, HK.out⟩
    · have h2' : ¬ (3000 : Int) < (x.o.gone.length : Int) := by omega
      by_cases h3 : 60000 < x.o.text.size
      · obtain rfl : b = true := by rw [← HL.out]; exact decide_eq_true (.inr (.inr h3))
        have h3' : (60000 : Int) < (x.o.text.size : Int) := by omega
        go_enter Try.func12, Try.ntmps12
        go_wp2_with (fail)
        go_ret
        exact ⟨rfl, HK.out⟩
      · obtain rfl : b = false := by rw [← HL.out]; exact decide_eq_false (by omega)
        have h3' : ¬ (60000 : Int) < (x.o.text.size : Int) := by omega
        go_enter Try.func12, Try.ntmps12
        go_wp2_with (fail)
        go_ret
        exact ⟨rfl, HK.out⟩
end Go.Proofs.Ytnlklhlnnoihiaa
