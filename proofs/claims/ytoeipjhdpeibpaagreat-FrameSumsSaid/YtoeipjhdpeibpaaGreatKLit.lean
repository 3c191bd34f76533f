/- The example frame made; frame.little walked. -/
import Derived.Test.YtoeipjhdpeibpaaGreatKChk
import Derived.Test.YtoeipjhdpeibpaaGreatSNum
namespace Go.Proofs.YtoeipjhdpeibpaaGreat
open Go Go.RowKit

theorem size_fr : (Tryz.prog.info? 39).map (·.size) = some 17 := by kernel_rfl
theorem und_fr : Tryz.prog.underlying 39 = some (.struct (Tryz.prog.fieldsOf 39)) := by kernel_rfl
theorem wpList_load_fr {ops : Array Oper} {rest : List Oper} {o : Oper} {a : Act} {w : World} {Q : Exit → Act → World → Prop} {t : TypeId} (hgd : o.guard = none) (x : Operand) (ho : o.op = .load 39 x) (g : Nat) (hx : a.eval x = .pointer (some ⟨g, 0, none⟩)) (cs : Array Value) (hs : cs.size = 17) (hg : Box w g t cs)
    (h : wpList Tryz.prog ops Q rest (a.put o.dst (.agg cs)) w) : wpList Tryz.prog ops Q (o :: rest) a w :=
  wpList_load_box hgd _ x ho g hx t cs _ hg und_fr rfl (by rw [hs]; exact size_fr) h
theorem dots_one_box {w : World} {g : Nat} {a b : Int} {T : TypeId} (h : Box w g T #[.int .i64 a, .int .i64 b]) : DotsAt w (some ⟨g, 0, none⟩) [⟨a, b⟩] := by
  intro k hk
  obtain rfl : k = 0 := by simp at hk; omega
  exact ⟨_, rfl, (h.cell 0).trans rfl, (h.cell 1).trans rfl⟩
/-- A word's bytes, the lowest first. -/
def lowB (v : Nat) : List Int := [(v : Int) % 256, (v : Int) / 256 % 256, (v : Int) / 65536 % 256, (v : Int) / 16777216]
def LittlePost (w : World) (base : Nat) (l : List Int) (v : Value) (e : Ending) (w' : World) : Prop := ∃ A c, e = .returned (.slice A l.length c) ∧ w'.ownsRow base 5 1 (.slice A l.length c) l.length (bys l) ∧ Kept (fun k => v.ownBlock = some k) w w'
theorem eltByt : Elt Tryz.prog 22 5 1 1 := .of Tryz.underlying22 info_byte rfl (by decide) (by decide)
set_option maxRecDepth 100000 in
set_option maxHeartbeats 1600000 in
theorem little_any (base : Nat) (A : Option Addr) (l : List Int) (c v : Nat) (w : World) (h : w.ownsRow base 5 1 (.slice A l.length c) l.length (bys l)) (hbase : base ≤ w.heap.size) (hl : l.length ≤ 1000000) (hv : v < 4294967296) :
    Calls Tryz.prog 19 #[.slice A l.length c, .int .u32 v] w (LittlePost w base (l ++ lowB v) (.slice A l.length c)) := by
  have H := Lib.hid h
  clear h
  go_enter Tryz.func19, Tryz.ntmps19
  go_wp2_with (at_builtin; refine wpList_append_new eltByt rfl _ _ rfl base _ l.length (bys l) rfl H.out 4 4 rfl rfl rfl (by omega) hbase ?_)
  intro A1 c1 w1 HO HK _HG
  go_wp2_with (fail)
  go_ret
  have e1 : (l ++ lowB v).length = l.length + 4 := by simp [lowB]
  refine ⟨A1, c1, by rw [e1]; rfl, ?_, HK.out⟩
  rw [e1, bys_app]
  exact HO.out
set_option maxRecDepth 100000 in
set_option maxHeartbeats 1600000 in
theorem Ex_any (w : World) : Calls Tryz.prog 9 #[] w (fun r w' => ∃ g, r = .returned (.agg (exC (some ⟨g, 0, none⟩) 1)) ∧ DotsAt w' (some ⟨g, 0, none⟩) [⟨1, 7⟩] ∧ Kept (fun _ => False) w w') := by
  go_enter Tryz.func9, Tryz.ntmps9
  go_wp2_with (fail)
  have hb := (Box.new w 39 (exC (some ⟨w.heap.size + 1, 0, none⟩) 1)).alloc (.cells #[.int .i64 1, .int .i64 7] 55)
  have hd := Box.new (w.alloc (.cells (exC (some ⟨w.heap.size + 1, 0, none⟩) 1) 39)) 55 #[.int .i64 1, .int .i64 7]
  rw [World.size_alloc] at hd
  refine bodyPost_ret (results_cell_row rfl _ _ w.heap.size 39 (exC (some ⟨w.heap.size + 1, 0, none⟩) 1) (0, 0) _ rfl hb und_fr rfl (size_fr.trans rfl)) rfl ?_
  exact ⟨_, rfl, dots_one_box hd, ((Kept.refl _ _).alloc _).alloc _⟩
end Go.Proofs.YtoeipjhdpeibpaaGreat
