/- hearsaylaw9.known walked: it answers true. No condition. · hearsaylaw9.ImageChecks walked: it answers true. Conditions: the image lies in memory; its numbers are Go's ints. · Opening an argument that is an image. No condition. -/
import Derived.Test.YtnajbkccaclkcaaGreatIM34
import Derived.Test.YtnajbkccaclkcaaGreatIM23
import Derived.Lib.SlBytesConst
import Derived.Test.YtnajbkccaclkcaaGreatIM7
namespace Go.Proofs.YtnajbkccaclkcaaGreat
open Go Go.RowKit

def kN : List Nd := [⟨⟨1, 1⟩, ⟨0, 0⟩, 104, 1⟩, ⟨⟨2, 1⟩, ⟨1, 1⟩, 233, 1⟩]
/-- The image of known, its lists at these places. -/
def kI (a b c d : Nat) (clock : Int) : Im := ⟨[⟨1, 2⟩], some ⟨a, 0, none⟩, 1, [⟨1, 2⟩], some ⟨b, 0, none⟩, 1, clock, [], none, 0, kN, some ⟨c, 0, none⟩, 2, [1], some ⟨d, 0, none⟩, 1, [], none, 0, 1⟩
def zI : Im := ⟨[], none, 0, [], none, 0, 0, [], none, 0, [], none, 0, [], none, 0, [], none, 0, 0⟩
def kB : List Int := [1, 1, 2, 1, 1, 2, 2, 0, 2, 1, 1, 0, 0, 104, 1, 2, 1, 1, 1, 233, 1, 1, 1, 1, 0, 1]
theorem kI_check (a b c d : Nat) : checkI (kI a b c d 2) = 0 := by
  have h1 : vecE [⟨1, 2⟩] [⟨1, 2⟩] 2 = 0 := by decide +kernel
  have h2 : logFrom 2 [⟨1, 2⟩] [⟨1, 2⟩] [] = 0 := by
    rw [logFrom_nil]
    decide +kernel
  have h3 : nodesE 2 kN = 0 := by decide +kernel
  have h4 : sitesE [1] [] 1 = 0 := by decide +kernel
  unfold checkI kI
  simp only
  rw [h1, h2, h3, h4]
  rfl
theorem kI_bad (a b c d : Nat) : checkI (kI a b c d 1) = 9 := by
  have h1 : vecE [⟨1, 2⟩] [⟨1, 2⟩] 1 = 0 := by decide +kernel
  have h2 : logFrom 1 [⟨1, 2⟩] [⟨1, 2⟩] [] = 0 := by
    rw [logFrom_nil]
    decide +kernel
  have h3 : nodesE 1 kN = 9 := by decide +kernel
  unfold checkI kI
  simp only
  rw [h1, h2, h3]
  rfl
theorem zI_check : checkI zI = 0 := by
  have h1 : vecE [] [] 0 = 0 := by decide +kernel
  have h2 : logFrom 0 [] [] [] = 0 := by
    rw [logFrom_nil]
    decide +kernel
  have h3 : nodesE 0 [] = 0 := by decide +kernel
  have h4 : sitesE [] [] 0 = 0 := by decide +kernel
  unfold checkI zI
  simp only
  rw [h1, h2, h3, h4]
  rfl
theorem kI_enc (a b c d : Nat) : encI (kI a b c d 2) = kB := by
  have h1 : encs (vnums [⟨1, 2⟩]) = [1, 1, 2] := by decide +kernel
  have h2 : encZ [2, ((List.length (α := Lop) [] : Nat) : Int)] = [2, 0] := by decide +kernel
  have h3 : encZ [((kN.length : Nat) : Int)] = [2] := by decide +kernel
  have h4 : encN9 kN = [1, 1, 0, 0, 104, 1, 2, 1, 1, 1, 233, 1, 1] := by decide +kernel
  have h5 : encZ [(([1] : List Int).length : Int)] = [1] := by decide +kernel
  have h6 : encZ [1] = [1] := by decide +kernel
  have h7 : encZ [(([] : List Int).length : Int)] = [0] := by decide +kernel
  have h8 : encZ [] = [] := rfl
  unfold encI kI
  simp only
  rw [h1, h2, h3, h4, h5, h6, h7, h8]
  rfl
theorem fit_small {n : Int} (h : -1000 ≤ n ∧ n ≤ 1000) : fitI n := by
  unfold fitI Lit.wf
  simp [IntKind.min, IntKind.max, IntKind.signed, IntKind.bits]
  omega
theorem kI_small (a b c d : Nat) (clk : Int) : (kI a b c d clk).Small := ⟨by simp [kI], by simp [kI], by simp [kI], fun x hx => (by simp [kI] at hx), by simp [kI, kN], by simp [kI], by simp [kI]⟩
theorem kI_fit (a b c d : Nat) (clk : Int) : (kI a b c d clk).Fit := by
  refine ⟨fun n hn => ?_, fun n hn => ?_, fun n hn => ?_, by simp [kI]⟩
  · simp only [kI, kN, List.mem_cons, List.not_mem_nil, or_false] at hn
    rcases hn with rfl | rfl
    · exact ⟨fit_small (by simp), fit_small (by simp), fit_small (by simp), fit_small (by simp)⟩
    · exact ⟨fit_small (by simp), fit_small (by simp), fit_small (by simp), fit_small (by simp)⟩
  · simp only [kI, List.mem_cons, List.not_mem_nil, or_false] at hn
    subst hn
    exact fit_small (by simp)
  · simp [kI] at hn
theorem zI_small : zI.Small := ⟨by simp [zI], by simp [zI], by simp [zI], fun x hx => (by simp [zI] at hx), by simp [zI], by simp [zI], by simp [zI]⟩
theorem zI_fit : zI.Fit := ⟨fun n hn => (by simp [zI] at hn), fun n hn => (by simp [zI] at hn), fun n hn => (by simp [zI] at hn), by simp [zI]⟩
theorem zI_at (w : World) : zI.At w := ⟨fun j h => absurd h (by simp [zI]), fun j h => absurd h (by simp [zI]), CellsAt.nil _ _, fun x hx => (by simp [zI] at hx), CellsAt.nil _ _, CellsAt.nil _ _, CellsAt.nil _ _⟩
theorem kI_at {w : World} {a b c d : Nat} {clk : Int} {T1 T2 T3 T4 : TypeId} (h1 : Box w a T1 #[.int .i64 1, .int .i64 2]) (h2 : Box w b T2 #[.int .i64 1, .int .i64 2]) (h3 : Box w c T3 #[.int .i64 1, .int .i64 1, .int .i64 0, .int .i64 0, .int .i32 104, .int .i64 1, .int .i64 2, .int .i64 1, .int .i64 1, .int .i64 1, .int .i32 233, .int .i64 1]) (h4 : Box w d T4 #[.int .i64 1]) : (kI a b c d clk).At w :=
  ⟨dots_one_box h1, dots_one_box h2, CellsAt.nil _ _, fun x hx => (by simp [kI] at hx), CellsAt.of_box h3 rfl, CellsAt.of_box h4 rfl, CellsAt.nil _ _⟩
theorem kB_len : kB.length ≤ 100000000 := by decide
theorem kB_byte : isByte kB := by intro b hb; simp [kB] at hb; omega
/-- The block of the literal's bytes. -/
def KBy (w : World) (g : Nat) : Prop := w.heap[g]? = some (.cells #[.int .u8 1, .int .u8 1, .int .u8 2, .int .u8 1, .int .u8 1, .int .u8 2, .int .u8 2, .int .u8 0, .int .u8 2, .int .u8 1, .int .u8 1, .int .u8 0, .int .u8 0, .int .u8 104, .int .u8 1, .int .u8 2, .int .u8 1, .int .u8 1, .int .u8 1, .int .u8 233, .int .u8 1, .int .u8 1, .int .u8 1, .int .u8 1, .int .u8 0, .int .u8 1] 5 (26, 27))
theorem KBy.lt {w : World} {g : Nat} (h : KBy w g) : g < w.heap.size := (Array.getElem?_eq_some_iff.1 h).1
theorem KBy.kept {S : Nat → Prop} {w w' : World} {g : Nat} (h : KBy w g) (hk : Kept S w w') (hg : ¬ S g) : KBy w' g := (hk.block g h.lt hg).trans h
theorem kB_at {w : World} {g : Nat} (h : KBy w g) : BytesAt w (some ⟨g, 0, none⟩) kB := by
  intro k hk
  refine ⟨_, rfl, ?_⟩
  have e : (#[Value.int .u8 1, .int .u8 1, .int .u8 2, .int .u8 1, .int .u8 1, .int .u8 2, .int .u8 2, .int .u8 0, .int .u8 2, .int .u8 1, .int .u8 1, .int .u8 0, .int .u8 0, .int .u8 104, .int .u8 1, .int .u8 2, .int .u8 1, .int .u8 1, .int .u8 1, .int .u8 233, .int .u8 1, .int .u8 1, .int .u8 1, .int .u8 1, .int .u8 0, .int .u8 1] : Array Value).toList = bys kB := rfl
  rw [add_none, cell_of_row w g k _ _ _ h, ← Array.getElem?_toList, e]
  simp [bys, hk]

theorem small_same {x y : Im} (h : SameIm x y) (hs : x.Small) : y.Small := by
  have hl : y.log.length = x.log.length := by have := congrArg List.length h.log; simpa using this
  refine ⟨by rw [h.v]; exact hs.v, by rw [h.b]; exact hs.b, by rw [hl]; exact hs.log, fun z hz => ?_, by rw [h.nodes]; exact hs.nodes, by rw [h.joined]; exact hs.joined, by rw [h.left]; exact hs.left⟩
  have : z.o ∈ y.log.map (·.o) := List.mem_map.2 ⟨z, hz, rfl⟩
  rw [h.log] at this
  obtain ⟨u, hu, e⟩ := List.mem_map.1 this
  rw [← e]
  exact hs.ops u hu

set_option maxRecDepth 100000 in
set_option maxHeartbeats 8000000 in
theorem Known9_any (w : World) : Calls Tryz.prog 7 #[] w (SamePost w true) := by
  go_enter Tryz.func7, Tryz.ntmps7
  have hb1 := ((((Box.new w 59 #[.int .i64 1, .int .i64 2]).alloc (.cells #[.int .i64 1, .int .i64 2] 59)).alloc (.cells #[.int .i64 1, .int .i64 1, .int .i64 0, .int .i64 0, .int .i32 104, .int .i64 1, .int .i64 2, .int .i64 1, .int .i64 1, .int .i64 1, .int .i32 233, .int .i64 1] 66)).alloc (.cells #[.int .i64 1] 3)).alloc (.cells #[.slice (some ⟨w.heap.size, 0, none⟩) 1 1, .slice (some ⟨w.heap.size + 1, 0, none⟩) 1 1, .int .i64 2, .slice none 0 0, .slice (some ⟨w.heap.size + 1 + 1, 0, none⟩) 2 2, .slice (some ⟨w.heap.size + 1 + 1 + 1, 0, none⟩) 1 1, .slice none 0 0, .int .i64 1] 28)
  have hb2 := (((Box.new (w.alloc (.cells #[.int .i64 1, .int .i64 2] 59)) 59 #[.int .i64 1, .int .i64 2]).alloc (.cells #[.int .i64 1, .int .i64 1, .int .i64 0, .int .i64 0, .int .i32 104, .int .i64 1, .int .i64 2, .int .i64 1, .int .i64 1, .int .i64 1, .int .i32 233, .int .i64 1] 66)).alloc (.cells #[.int .i64 1] 3)).alloc (.cells #[.slice (some ⟨w.heap.size, 0, none⟩) 1 1, .slice (some ⟨w.heap.size + 1, 0, none⟩) 1 1, .int .i64 2, .slice none 0 0, .slice (some ⟨w.heap.size + 1 + 1, 0, none⟩) 2 2, .slice (some ⟨w.heap.size + 1 + 1 + 1, 0, none⟩) 1 1, .slice none 0 0, .int .i64 1] 28)
  have hb3 := ((Box.new ((w.alloc (.cells #[.int .i64 1, .int .i64 2] 59)).alloc (.cells #[.int .i64 1, .int .i64 2] 59)) 66 #[.int .i64 1, .int .i64 1, .int .i64 0, .int .i64 0, .int .i32 104, .int .i64 1, .int .i64 2, .int .i64 1, .int .i64 1, .int .i64 1, .int .i32 233, .int .i64 1]).alloc (.cells #[.int .i64 1] 3)).alloc (.cells #[.slice (some ⟨w.heap.size, 0, none⟩) 1 1, .slice (some ⟨w.heap.size + 1, 0, none⟩) 1 1, .int .i64 2, .slice none 0 0, .slice (some ⟨w.heap.size + 1 + 1, 0, none⟩) 2 2, .slice (some ⟨w.heap.size + 1 + 1 + 1, 0, none⟩) 1 1, .slice none 0 0, .int .i64 1] 28)
  have hb4 := (Box.new (((w.alloc (.cells #[.int .i64 1, .int .i64 2] 59)).alloc (.cells #[.int .i64 1, .int .i64 2] 59)).alloc (.cells #[.int .i64 1, .int .i64 1, .int .i64 0, .int .i64 0, .int .i32 104, .int .i64 1, .int .i64 2, .int .i64 1, .int .i64 1, .int .i64 1, .int .i32 233, .int .i64 1] 66)) 3 #[.int .i64 1]).alloc (.cells #[.slice (some ⟨w.heap.size, 0, none⟩) 1 1, .slice (some ⟨w.heap.size + 1, 0, none⟩) 1 1, .int .i64 2, .slice none 0 0, .slice (some ⟨w.heap.size + 1 + 1, 0, none⟩) 2 2, .slice (some ⟨w.heap.size + 1 + 1 + 1, 0, none⟩) 1 1, .slice none 0 0, .int .i64 1] 28)
  have hb5 := Box.new ((((w.alloc (.cells #[.int .i64 1, .int .i64 2] 59)).alloc (.cells #[.int .i64 1, .int .i64 2] 59)).alloc (.cells #[.int .i64 1, .int .i64 1, .int .i64 0, .int .i64 0, .int .i32 104, .int .i64 1, .int .i64 2, .int .i64 1, .int .i64 1, .int .i64 1, .int .i32 233, .int .i64 1] 66)).alloc (.cells #[.int .i64 1] 3)) 28 #[.slice (some ⟨w.heap.size, 0, none⟩) 1 1, .slice (some ⟨w.heap.size + 1, 0, none⟩) 1 1, .int .i64 2, .slice none 0 0, .slice (some ⟨w.heap.size + 1 + 1, 0, none⟩) 2 2, .slice (some ⟨w.heap.size + 1 + 1 + 1, 0, none⟩) 1 1, .slice none 0 0, .int .i64 1]
  have hk5 : Kept (fun _ => False) w (((((w.alloc (.cells #[.int .i64 1, .int .i64 2] 59)).alloc (.cells #[.int .i64 1, .int .i64 2] 59)).alloc (.cells #[.int .i64 1, .int .i64 1, .int .i64 0, .int .i64 0, .int .i32 104, .int .i64 1, .int .i64 2, .int .i64 1, .int .i64 1, .int .i64 1, .int .i32 233, .int .i64 1] 66)).alloc (.cells #[.int .i64 1] 3)).alloc (.cells #[.slice (some ⟨w.heap.size, 0, none⟩) 1 1, .slice (some ⟨w.heap.size + 1, 0, none⟩) 1 1, .int .i64 2, .slice none 0 0, .slice (some ⟨w.heap.size + 1 + 1, 0, none⟩) 2 2, .slice (some ⟨w.heap.size + 1 + 1 + 1, 0, none⟩) 1 1, .slice none 0 0, .int .i64 1] 28)) := (((((Kept.refl _ _).alloc _).alloc _).alloc _).alloc _).alloc _
  simp only [World.size_alloc] at hb2 hb3 hb4 hb5
  go_upto_region 2 with (fail)
  generalize ((((w.alloc (.cells #[.int .i64 1, .int .i64 2] 59)).alloc (.cells #[.int .i64 1, .int .i64 2] 59)).alloc (.cells #[.int .i64 1, .int .i64 1, .int .i64 0, .int .i64 0, .int .i32 104, .int .i64 1, .int .i64 2, .int .i64 1, .int .i64 1, .int .i64 1, .int .i32 233, .int .i64 1] 66)).alloc (.cells #[.int .i64 1] 3)).alloc (.cells #[.slice (some ⟨w.heap.size, 0, none⟩) 1 1, .slice (some ⟨w.heap.size + 1, 0, none⟩) 1 1, .int .i64 2, .slice none 0 0, .slice (some ⟨w.heap.size + 1 + 1, 0, none⟩) 2 2, .slice (some ⟨w.heap.size + 1 + 1 + 1, 0, none⟩) 1 1, .slice none 0 0, .int .i64 1] 28) = w5 at hb1 hb2 hb3 hb4 hb5 hk5 ⊢
  obtain ⟨a, ha⟩ : ∃ a, w.heap.size = a := ⟨_, rfl⟩
  rw [ha] at hb1 hb2 hb3 hb4 hb5 ⊢
  have HAT := Lib.hid (show ∀ (clk : Int) W, Kept (fun _ => False) w5 W → (kI a (a + 1) (a + 1 + 1) (a + 1 + 1 + 1) clk).At W from fun clk W hW => kI_at (hb1.kept hW id) (hb2.kept hW id) (hb3.kept hW id) (hb4.kept hW id))
  have HM := Lib.hid hb5
  have HK5 := Lib.hid hk5
  clear hb1 hb2 hb3 hb4 hb5 hk5 ha
  -- the Writer
  have HWR := Lib.hid (WrIn.new w5)
  go_upto_region 3 with (fail)
  have hkw := (Kept.refl (fun _ => False) w5).alloc (.cells #[.slice none 0 0, .int .i64 0] 39)
  have HM6 := Lib.hid (HM.out.kept hkw id)
  generalize w5.alloc (.cells #[.slice none 0 0, .int .i64 0] 39) = w6 at HWR HM6 hkw ⊢
  obtain ⟨gw, hgw⟩ : ∃ gw, w5.heap.size = gw := ⟨_, rfl⟩
  have hgw5 : w5.heap.size ≤ gw := by omega
  rw [hgw] at HWR ⊢
  clear hgw hkw
  have HPUT := Lib.hid (PutI_yes (wm := w5) (g := gw) (Src := fun W => Box W (a + 1 + 1 + 1 + 1) 28 #[.slice (some ⟨a, 0, none⟩) 1 1, .slice (some ⟨a + 1, 0, none⟩) 1 1, .int .i64 2, .slice none 0 0, .slice (some ⟨a + 1 + 1, 0, none⟩) 2 2, .slice (some ⟨a + 1 + 1 + 1, 0, none⟩) 1 1, .slice none 0 0, .int .i64 1]) (Stays.box (by decide) (by decide)) (fun W W' hk h => h.kept hk id) (kI a (a + 1) (a + 1 + 1) (a + 1 + 1 + 1) 2) [] w6 HWR.out HM6.out (HAT.out 2 _ (Kept.refl _ _)) (kI_small ..) (kI_fit ..) (kI_check ..) (by rw [kI_enc]; decide))
  rw [kI_enc, List.nil_append] at HPUT
  simp only [Im.c, kI, List.length_cons, List.length_nil, kN] at HPUT
  go_wp2_with (refine wpList_load_im rfl _ rfl (a + 1 + 1 + 1 + 1) rfl _ rfl HM6.out ?_)
  refine HPUT.out.mono ?_
  unfold WrPost
  rintro r w7 ⟨rfl, hw7, hm7⟩
  have HW7 := Lib.hid hw7
  have HM7 := Lib.hid hm7
  clear hw7 hm7 HPUT HWR HM6 HM
  have hcv := fun (W : World) (C : Array Value) (n c : Nat) => Lib.run_convert_bytes_const (P := Tryz.prog) W 37 5 C n c Tryz.underlying37 Tryz.underlying5
  go_upto_region 5 with (fail)
  have hkb := (Kept.refl (fun _ => False) w7).alloc (.cells #[.int .u8 1, .int .u8 1, .int .u8 2, .int .u8 1, .int .u8 1, .int .u8 2, .int .u8 2, .int .u8 0, .int .u8 2, .int .u8 1, .int .u8 1, .int .u8 0, .int .u8 0, .int .u8 104, .int .u8 1, .int .u8 2, .int .u8 1, .int .u8 1, .int .u8 1, .int .u8 233, .int .u8 1, .int .u8 1, .int .u8 1, .int .u8 1, .int .u8 0, .int .u8 1] 5 (26, 27))
  have hbb : KBy (w7.alloc (.cells #[.int .u8 1, .int .u8 1, .int .u8 2, .int .u8 1, .int .u8 1, .int .u8 2, .int .u8 2, .int .u8 0, .int .u8 2, .int .u8 1, .int .u8 1, .int .u8 0, .int .u8 0, .int .u8 104, .int .u8 1, .int .u8 2, .int .u8 1, .int .u8 1, .int .u8 1, .int .u8 233, .int .u8 1, .int .u8 1, .int .u8 1, .int .u8 1, .int .u8 0, .int .u8 1] 5 (26, 27))) w7.heap.size := heap_alloc_new w7 _
  have HW8 := Lib.hid (HW7.out.fresh hkb)
  have HM8 := Lib.hid (HM7.out.kept hkb id)
  generalize w7.alloc (.cells #[.int .u8 1, .int .u8 1, .int .u8 2, .int .u8 1, .int .u8 1, .int .u8 2, .int .u8 2, .int .u8 0, .int .u8 2, .int .u8 1, .int .u8 1, .int .u8 0, .int .u8 0, .int .u8 104, .int .u8 1, .int .u8 2, .int .u8 1, .int .u8 1, .int .u8 1, .int .u8 233, .int .u8 1, .int .u8 1, .int .u8 1, .int .u8 1, .int .u8 0, .int .u8 1] 5 (26, 27)) = w8 at hkb hbb HW8 HM8 ⊢
  obtain ⟨gb, hgb⟩ : ∃ gb, w7.heap.size = gb := ⟨_, rfl⟩
  rw [hgb] at hbb ⊢
  have HBB := Lib.hid hbb
  clear hkb hbb hgb HW7 HM7 hcv
  go_wp2_with (fail)
  refine (Read_any (some ⟨gb, 0, none⟩) kB 26 w8 (kB_at HBB.out) (fun e => by cases e) kB_len).mono ?_
  unfold ReadPost
  rintro r w9 ⟨d, g, rfl, hr9, ⟨hd9, hg9⟩, hk9⟩
  have HR9 := Lib.hid (show RdAt w9 d g ⟨encI (kI a (a + 1) (a + 1 + 1) (a + 1 + 1 + 1) 2) ++ [], 0⟩ from ⟨by rw [List.append_nil, kI_enc]; exact hr9, by rw [List.append_nil, kI_enc]; exact kB_byte⟩)
  have HW9 := Lib.hid (HW8.out.fresh hk9)
  have HM9 := Lib.hid (HM8.out.kept hk9 id)
  have HB9 := Lib.hid (HBB.out.kept hk9 id)
  have hlt : ∀ k, k < w8.heap.size → k ≠ g := fun k h => by omega
  have hlm := hlt _ HM8.out.lt
  have hlb := hlt _ HBB.out.lt
  have HTK := Lib.hid (Take9_short d g _ [] w9 HR9.out (kI_small ..) (kI_fit ..) (kI_check ..) rfl)
  have HNG := Lib.hid (show w8.heap.size ≤ g from hg9)
  have HWC := Lib.hid (show ∃ sv, WriterAt w9 w5.heap.size gw sv kB 0 ∧ (∀ k, sv.ownBlock = some k → k < w8.heap.size) ∧ gw < w8.heap.size from by
    obtain ⟨sv, hw⟩ := HW8.out.w
    exact ⟨sv, hw.fresh hk9, fun k e => (hw.row.lt k e).2, hw.box.lt⟩)
  have HS58 := Lib.hid (show w5.heap.size ≤ w8.heap.size from HW8.out.k.size)
  clear hr9 hd9 hk9 hg9
  go_wp2_with (fail)
  refine HTK.out.mono ?_
  unfold TakeI9
  rintro r w10 ⟨y, rfl, hys, hyo, hk10, -⟩
  have HY := Lib.hid hys
  have HYO := Lib.hid hyo
  have HM10 := Lib.hid (HM9.out.kept hk10 (by omega))
  have HB10 := Lib.hid (HB9.out.kept hk10 (by omega))
  have HW10 := Lib.hid (show WrIn w5 gw kB w10 from by
    obtain ⟨sv, hw, hb, hg⟩ := HWC.out
    have h1 := HNG.out
    have h2 := HS58.out
    exact ⟨HW9.out.k.trans hk10 fun k hk e => (by omega), sv, hw.box.kept hk10 (by omega), hk10.own hw.row fun k e1 e2 => (by have := hb k e1; omega), hw.base_le⟩)
  have HK10 := Lib.hid (HW10.out.k)
  have hyz : y.c.size = 8 := rfl
  have hyone := im_one y
  have HYAT := Lib.hid hyo.at
  obtain ⟨yc, hyc⟩ : ∃ yc, y.c = yc := ⟨_, rfl⟩
  have HYC := Lib.hid hyc
  rw [hyc] at hyz hyone ⊢
  have HYZ := Lib.hid hyz
  have HYN := Lib.hid hyone
  clear hys hyo hk10 hyz hyone hyc hlm hlb hlt HW8 HM8 HBB HR9 HW9 HM9 HB9 HTK HWC HNG HS58
  go_upto_region 6 with (refine wpList_store_newbox size_im rfl _ _ rfl w10 yc rfl rfl imZ rfl HYZ.out rfl HYN.out ?_; refine Hid.out ?_)
  refine Lib.hid ?_
  have hk11 := (Kept.refl (fun _ => False) w10).alloc (.cells yc 28)
  have HX11 := Lib.hid (Box.new w10 28 yc)
  generalize w10.alloc (.cells yc 28) = w11 at hk11 HX11 ⊢
  obtain ⟨gx, hgx⟩ : ∃ gx, w10.heap.size = gx := ⟨_, rfl⟩
  rw [hgx] at HX11 ⊢
  have HM11 := Lib.hid (HM10.out.kept hk11 id)
  have HK11 := Lib.hid hk11
  clear hk11 hgx HM10
  go_upto_region 6 with (fail)
  go_upto_region 7 with (refine wpList_load_im rfl _ rfl (a + 1 + 1 + 1 + 1) rfl _ rfl HM11.out ?_)
  have hk12 := (Kept.refl (fun _ => False) w11).alloc (.cells #[.slice (some ⟨a, 0, none⟩) 1 1, .slice (some ⟨a + 1, 0, none⟩) 1 1, .int .i64 2, .slice none 0 0, .slice (some ⟨a + 1 + 1, 0, none⟩) 2 2, .slice (some ⟨a + 1 + 1 + 1, 0, none⟩) 1 1, .slice none 0 0, .int .i64 1] 28)
  have hbd := Box.new w11 28 #[.slice (some ⟨a, 0, none⟩) 1 1, .slice (some ⟨a + 1, 0, none⟩) 1 1, .int .i64 2, .slice none 0 0, .slice (some ⟨a + 1 + 1, 0, none⟩) 2 2, .slice (some ⟨a + 1 + 1 + 1, 0, none⟩) 1 1, .slice none 0 0, .int .i64 1]
  generalize w11.alloc (.cells #[.slice (some ⟨a, 0, none⟩) 1 1, .slice (some ⟨a + 1, 0, none⟩) 1 1, .int .i64 2, .slice none 0 0, .slice (some ⟨a + 1 + 1, 0, none⟩) 2 2, .slice (some ⟨a + 1 + 1 + 1, 0, none⟩) 1 1, .slice none 0 0, .int .i64 1] 28) = w12 at hk12 hbd ⊢
  obtain ⟨gd, hgd⟩ : ∃ gd, w11.heap.size = gd := ⟨_, rfl⟩
  have hdm : gd ≠ (a + 1 + 1 + 1 + 1) := fun e => by have := HM11.out.lt; omega
  have hdx : gd ≠ gx := fun e => by have := HX11.out.lt; omega
  have hs10 : w10.heap.size ≤ gd := by rw [← hgd]; exact HK11.out.size
  rw [hgd] at hbd ⊢
  have c2 := (hbd.cell 2).trans rfl
  have f2 := hbd.frozen 2
  have hbd2 := hbd.set 2 (.int .i64 1)
  have hkd : Kept (fun k => k = gd) w12 (w12.setCell ⟨gd, 2, none⟩ (.int .i64 1)) := (Kept.refl _ _).at 2 _ (.inl rfl)
  have hk13 : Kept (fun _ => False) w10 (w12.setCell ⟨gd, 2, none⟩ (.int .i64 1)) := ((HK11.out.trans hk12 fun _ _ e => e).trans hkd fun k hk e => by omega)
  have HMF := Lib.hid ((HM11.out.kept hk12 id).kept hkd (fun e => hdm e.symm))
  have HXF := Lib.hid ((HX11.out.kept hk12 id).kept hkd (fun e => hdx e.symm))
  simp only [List.setIfInBounds_toArray, List.set_cons_zero, List.set_cons_succ] at hbd2
  have HDF := Lib.hid hbd2
  have HK13 := Lib.hid hk13
  clear hk12 hbd hbd2 hkd hk13 hgd hdm hdx hs10 HM11 HX11 HK11
  go_upto_region 8 with (fail)
  obtain ⟨w13, hw13⟩ : ∃ w13, w12.setCell ⟨gd, 2, none⟩ (.int .i64 1) = w13 := ⟨_, rfl⟩
  rw [hw13] at HMF HXF HDF HK13 ⊢
  have HW13 := Lib.hid (HW10.out.fresh HK13.out)
  have HB13 := Lib.hid ((kB_at HB10.out).fresh HK13.out)
  have HY13 := Lib.hid (HYAT.out.fresh HK13.out)
  have HK513 := Lib.hid HW13.out.k
  clear hw13 c2 f2 HW10 HB10 HYAT HK10
  have HC1 := Lib.hid (Check9_any zI w13 (zI_at _) zI_small zI_fit)
  rw [zI_check] at HC1
  simp only [Im.c, zI, List.length_nil] at HC1
  have HC2 := Lib.hid (fun W (hW : Kept (fun _ => False) w13 W) => Check9_any (kI a (a + 1) (a + 1 + 1) (a + 1 + 1 + 1) 2) W (HAT.out 2 W (HK513.out.trans hW fun _ _ e => e)) (kI_small ..) (kI_fit ..))
  simp only [kI_check] at HC2
  simp only [Im.c, kI, List.length_cons, List.length_nil, kN] at HC2
  have HC3 := Lib.hid (fun W (hW : Kept (fun _ => False) w13 W) => Check9_any (kI a (a + 1) (a + 1 + 1) (a + 1 + 1 + 1) 1) W (HAT.out 1 W (HK513.out.trans hW fun _ _ e => e)) (kI_small ..) (kI_fit ..))
  simp only [kI_bad] at HC3
  simp only [Im.c, kI, List.length_cons, List.length_nil, kN] at HC3
  have HSA := Lib.hid (fun W (hW : Kept (fun _ => False) w13 W) => same9_true y (kI a (a + 1) (a + 1 + 1) (a + 1 + 1 + 1) 2) W (HY13.out.fresh hW) (HAT.out 2 W (HK513.out.trans hW fun _ _ e => e)) ⟨HY.out.v.symm, HY.out.b.symm, HY.out.clock.symm, HY.out.log.symm, HY.out.nodes.symm, HY.out.joined.symm, HY.out.left.symm, HY.out.epoch.symm⟩ (small_same HY.out (kI_small ..)))
  simp only [HYC.out] at HSA
  simp only [Im.c, kI, List.length_cons, List.length_nil, kN] at HSA
  go_wp2_with (fail)
  refine HC1.out.mono ?_
  unfold IntPost
  rintro r w14 ⟨rfl, hk14⟩
  have HK14 := Lib.hid hk14
  have HM14 := Lib.hid (HMF.out.kept hk14 id)
  clear hk14
  go_wp2_with (refine wpList_unguard rfl ?_; refine wpList_load_im rfl _ rfl (a + 1 + 1 + 1 + 1) rfl _ rfl HM14.out ?_)
  refine (HC2.out _ HK14.out).mono ?_
  unfold IntPost
  rintro r w15 ⟨rfl, hk15⟩
  have HK15 := Lib.hid (HK14.out.trans hk15 fun _ _ e => e)
  have HD15 := Lib.hid (HDF.out.kept HK15.out id)
  clear hk15
  go_wp2_with (refine wpList_unguard rfl ?_; refine wpList_load_im rfl _ rfl gd rfl _ rfl HD15.out ?_)
  refine (HC3.out _ HK15.out).mono ?_
  unfold IntPost
  rintro r w16 ⟨rfl, hk16⟩
  have HK16 := Lib.hid (HK15.out.trans hk16 fun _ _ e => e)
  clear hk16
  go_wp2_with (fail)
  refine ((fun (h : WrIn w5 gw kB w16) => by
    obtain ⟨sv, hw⟩ := h.w
    exact Data_any _ gw sv kB 0 w16 hw kB_len) (HW13.out.fresh HK16.out) : Calls Tryz.prog 15 #[.pointer (some ⟨gw, 0, none⟩)] w16 (FreshBytes w16 kB)).mono ?_
  rintro r w17 hfb
  obtain ⟨A, c, rfl, hba, hk17⟩ := hfb.at
  have HK17 := Lib.hid (HK16.out.trans hk17 fun _ _ e => e)
  have HBA := Lib.hid hba
  clear hfb hba hk17
  have HBY := Lib.hid (Bytes9_any A (some ⟨gb, 0, none⟩) kB kB c 26 w17 HBA.out (HB13.out.fresh HK17.out) (by decide))
  rw [decide_eq_true rfl] at HBY
  go_wp2_with (fail)
  refine HBY.out.mono ?_
  unfold SamePost
  rintro r w18 ⟨rfl, hk18⟩
  have HK18 := Lib.hid (HK17.out.trans hk18 fun _ _ e => e)
  have HX18 := Lib.hid (HXF.out.kept HK18.out id)
  have HM18 := Lib.hid (HMF.out.kept HK18.out id)
  clear hk18
  go_wp2_with (first | (refine wpList_unguard rfl ?_; refine wpList_load_im rfl _ rfl gx rfl _ HYZ.out HX18.out ?_) | (refine wpList_unguard rfl ?_; refine wpList_load_im rfl _ rfl (a + 1 + 1 + 1 + 1) rfl _ rfl HM18.out ?_))
  refine (HSA.out _ HK18.out).mono ?_
  unfold SamePost
  rintro r w19 ⟨rfl, hk19⟩
  have HKF := Lib.hid (HK5.out.trans (HK513.out.trans (HK18.out.trans hk19 fun _ _ e => e) fun _ _ e => e) fun _ _ e => e)
  clear hk19
  go_wp2_with (fail)
  go_ret
  exact ⟨rfl, HKF.out⟩
end Go.Proofs.YtnajbkccaclkcaaGreat

namespace Go.Proofs.YtnajbkccaclkcaaGreat
open Go Go.RowKit

theorem run_load_im {a : Act} {w : World} (op : Oper) (x : Operand) (ho : op.op = .load 28 x) (g : Nat) (hx : a.eval x = .pointer (some ⟨g, 0, none⟩)) (t : TypeId) (cs : Array Value) (hs : cs.size = 8) (hg : Box w g t cs) :
    (execOp a.eval op).run Tryz.prog w = .ok (.value (.agg cs)) w := by
  obtain ⟨d, hu, hd⟩ := und_im
  have hc : w.rangeAt g 0 cs.toList := fun j v hj => by rw [Nat.zero_add, hg.cell j]; simpa using hj
  have := run_loadVar_mid (P := Tryz.prog) w g 0 28 cs.toList d hc hu hd (by rw [Array.length_toList, hs]; exact size_im)
  rw [Array.toArray_toList] at this
  unfold execOp
  simp only [ho, hx, Instr.loadAt, Instr.sureAddr, Sem.run_bind, Sem.run_pure, Result.andThen_ok, this]
theorem Im.Fine.small {m : Im} (h : m.Fine) (hc : ∀ x ∈ m.log, ∀ r ∈ x.o.gone, inI r.count) : m.Small := ⟨by have := h.v; omega, by have := h.b; omega, by have := h.log; omega, fun x hx => ⟨hc x hx, by have := (h.ops x hx).1; omega, by have := (h.ops x hx).2.1; omega, by have := (h.ops x hx).2.2; omega⟩, by have := h.nodes; omega, by have := h.joined; omega, by have := h.left; omega⟩

set_option maxRecDepth 100000 in
set_option maxHeartbeats 8000000 in
theorem ImageChecks_any (m : Im) (w : World) (h : m.At w) (hn : m.Nil) (hf : m.Fit) (hcap : m.nodes.length ≤ m.nc) (hct : ∀ x ∈ m.log, ∀ r ∈ x.o.gone, inI r.count) : Calls Tryz.prog 3 #[.agg m.c] w (SamePost w true) := by
  have HGR := Lib.hid (fun W (hW : Kept (fun _ => False) w W) => great_any m W (h.fresh hW))
  have HLE := Lib.hid (fun (hs : m.Small) W (hW : Kept (fun _ => False) w W) => lent_any m W (h.fresh hW) hn hs)
  have HRC := Lib.hid (fun (hs : m.Small) W (hW : Kept (fun _ => False) w W) => RCheck9_any m W (h.fresh hW) hs hf.ep hcap)
  have HCK := Lib.hid (fun (hs : m.Small) (x : Im) (b : Nat) W (hx : LentAt W b m x) => Check9_any x W hx.at (hx.small hs) (hx.fit hf))
  have HBA := Lib.hid (fun (hs : m.Small) (x : Im) (b : Nat) W (hx : LentAt W b m x) (hW : Kept (fun _ => False) w W) => back9_true m x b W hx (h.fresh hW) hs)
  have HSM := Lib.hid (fun (hfi : m.Fine) => hfi.small hct)
  have HKN := Lib.hid Known9_any
  have hb := Box.new w 28 m.c
  have hk := (Kept.refl (fun _ => False) w).alloc (.cells m.c 28)
  have HMS := Lib.hid (show m.c.size = 8 from rfl)
  have HCE := Lib.hid (show ∀ (x : Im) (b : Nat) W, LentAt W b m x → checkI x = checkI m from fun x b W hx => checkI_same (x := m) (y := x) ⟨hx.ev, hx.eb, hx.ecl, hx.elog, hx.en, hx.ej, hx.ee, hx.eep⟩)
  obtain ⟨ci, hci⟩ : ∃ ci, checkI m = ci := ⟨_, rfl⟩
  rw [hci] at HRC HCE
  obtain ⟨ms, hms⟩ : ∃ ms, m.c = ms := ⟨_, rfl⟩
  rw [hms] at HGR HLE HRC HBA HMS hb hk ⊢
  have HB := Lib.hid hb
  have HK := Lib.hid hk
  clear h hn hf hcap hct hb hk hms hci
  go_enter Tryz.func3, Tryz.ntmps3
  go_upto_region 1 with (fail)
  generalize w.alloc (.cells ms 28) = w1 at HB HK ⊢
  obtain ⟨g, hg⟩ : ∃ g, w.heap.size = g := ⟨_, rfl⟩
  rw [hg] at HB ⊢
  clear hg
  go_wp2_with (refine wpList_load_im rfl _ rfl g rfl _ HMS.out HB.out ?_)
  refine (HGR.out _ HK.out).mono ?_
  unfold GrtPost
  rintro r w2 ⟨bg, rfl, hfine, hk2⟩
  have HK2 := Lib.hid (HK.out.trans hk2 fun _ _ e => e)
  have HB2 := Lib.hid (HB.out.kept hk2 id)
  have HFI := Lib.hid hfine
  clear hk2 hfine HB HK HGR
  cases bg with
  | true =>
    as_aux_lemma =>
    go_wp2_with (fail)
    refine (HKN.out _).mono ?_
    unfold SamePost
    rintro r w3 ⟨rfl, hk3⟩
    have HK3 := Lib.hid (HK2.out.trans hk3 fun _ _ e => e)
    clear hk3
    go_wp2_with (fail)
    go_ret
    exact ⟨rfl, HK3.out⟩
  | false =>
    have HS := Lib.hid (HSM.out (HFI.out rfl))
    go_wp2_with (refine wpList_load_im rfl _ rfl g rfl _ HMS.out HB2.out ?_)
    refine (HLE.out HS.out _ HK2.out).mono ?_
    unfold LentPost
    rintro r w3 ⟨x, rfl, hx, hk3⟩
    have HX := Lib.hid hx
    have HK3 := Lib.hid (HK2.out.trans hk3 fun _ _ e => e)
    have HB3 := Lib.hid (HB2.out.kept hk3 id)
    obtain ⟨xb, hxb⟩ : ∃ xb, w2.heap.size = xb := ⟨_, rfl⟩
    rw [hxb] at HX
    have HCX := Lib.hid (HCE.out x xb w3 HX.out)
    have HXS := Lib.hid (show x.c.size = 8 from rfl)
    have HXO := Lib.hid (im_one x)
    have HCKX := Lib.hid (fun W (hW : Kept (fun _ => False) w3 W) => HCK.out HS.out x xb W (HX.out.fresh hW))
    have HBAX := Lib.hid (fun W (hW : Kept (fun _ => False) w3 W) => HBA.out HS.out x xb W (HX.out.fresh hW) (HK3.out.trans hW fun _ _ e => e))
    rw [HCX.out] at HCKX
    obtain ⟨xs, hxs⟩ : ∃ xs, x.c = xs := ⟨_, rfl⟩
    rw [hxs] at HCKX HBAX HXS HXO ⊢
    clear hk3 hx hxb hxs HK2 HB2 HX HCX
    go_upto_region 4 with (refine wpList_store_newbox size_im rfl _ _ rfl w3 xs rfl rfl imZ rfl HXS.out rfl HXO.out ?_; refine Hid.out ?_)
    refine Lib.hid ?_
    have hk4 := (Kept.refl (fun _ => False) w3).alloc (.cells xs 28)
    have HBX := Lib.hid (Box.new w3 28 xs)
    generalize w3.alloc (.cells xs 28) = w4 at hk4 HBX ⊢
    obtain ⟨gx, hgx⟩ : ∃ gx, w3.heap.size = gx := ⟨_, rfl⟩
    rw [hgx] at HBX ⊢
    have HB4 := Lib.hid (HB3.out.kept hk4 id)
    have HK34 := Lib.hid hk4
    have HK4 := Lib.hid (HK3.out.trans hk4 fun _ _ e => e)
    clear hk4 hgx HB3
    go_upto_region 4 with (fail)
    refine wp_region_class (C := fun w' => Kept (fun _ => False) w4 w') (by kernel_rfl) (by kernel_rfl) (Kept.refl _ _).drew ?_
    iterate 14
      first | go_big_quiet_skip | (go_big_quiet_want; first | (go_big_quiet_op; go_big_quiet_on) | (apply Exists.intro; refine ⟨fun w' hS => ?_, ?_⟩; (first | (unfold Oper.quietAt; rw [run_load_im _ _ rfl gx rfl 28 xs HXS.out (HBX.out.kept hS id)]; exact ⟨rfl, rfl⟩) | (unfold Oper.quietAt; rw [run_load_im _ _ rfl g rfl 28 ms HMS.out (HB4.out.kept hS id)]; exact ⟨rfl, rfl⟩) | (go_simp; first | rfl | exact ⟨rfl, rfl⟩ | ((with_reducible refine (HCKX.out _ (HK34.out.trans hS fun _ _ e => e)).mono ?_); unfold IntPost; rintro e w2 ⟨rfl, hk⟩; exact ⟨rfl, hS.trans hk fun _ _ e => e⟩) | ((with_reducible refine (HRC.out HS.out _ (HK4.out.trans hS fun _ _ e => e)).mono ?_); unfold IntPost; rintro e w2 ⟨rfl, hk⟩; exact ⟨rfl, hS.trans hk fun _ _ e => e⟩) | ((with_reducible refine (HBAX.out _ (HK34.out.trans hS fun _ _ e => e)).mono ?_); unfold SamePost; rintro e w2 ⟨rfl, hk⟩; exact ⟨rfl, hS.trans hk fun _ _ e => e⟩) | ((with_reducible refine (HKN.out _).mono ?_); unfold SamePost; rintro e w2 ⟨rfl, hk⟩; exact ⟨rfl, hS.trans hk fun _ _ e => e⟩))); (try simp only [Act.put, List.setIfInBounds_toArray, List.set_cons_zero, List.set_cons_succ]); go_big_quiet_on))
    refine wpQuiet_nil ?_
    intro w5 hS
    have HK5 := Lib.hid (HK4.out.trans hS fun _ _ e => e)
    clear hS
    go_wp2_with (fail)
    go_ret
    exact ⟨rfl, HK5.out⟩
end Go.Proofs.YtnajbkccaclkcaaGreat

namespace Go.Proofs.YtnajbkccaclkcaaGreat
open Go.ChangeShapes Go.WideShapes Go.ChangeAt Go.RowKit Go.Deep

theorem flat_get {α : Type} (f : α → List Value) (s : Nat) (hs : ∀ x, (f x).length = s) : ∀ (l : List α) (j : Nat) (u : Value), (l.flatMap f)[j]? = some u → ∃ (i r : Nat) (hi : i < l.length), j = i * s + r ∧ r < s ∧ (f l[i])[r]? = some u := by
  intro l
  induction l with
  | nil => intro j u h; simp at h
  | cons x t ih =>
    intro j u h
    rw [List.flatMap_cons] at h
    by_cases hj : j < s
    · rw [List.getElem?_append_left (by rw [hs]; exact hj)] at h
      exact ⟨0, j, by simp, by omega, hj, h⟩
    · rw [List.getElem?_append_right (by rw [hs]; omega), hs] at h
      obtain ⟨i, r, hi, e, hr, hu⟩ := ih _ _ h
      refine ⟨i + 1, r, by simpa using hi, ?_, hr, by simpa using hu⟩
      rw [Nat.succ_mul]
      omega
theorem cells_flat {α : Type} {w : World} (f : α → List Value) (s : Nat) (hs : ∀ x, (f x).length = s) (l : List α) (a : Addr) (h : ∀ i (hi : i < l.length) r u, r < s → (f l[i])[r]? = some u → w.cell? ((a.add (i * s)).add r) = some u) : CellsAt w (some a) (l.flatMap f) := fun j u hj => by
  obtain ⟨i, r, hi, rfl, hr, hu⟩ := flat_get f s hs l j u hj
  refine ⟨a, rfl, ?_⟩
  have := h i hi r u hr hu
  rwa [Go.Deep.add_add] at this
section
variable {H : Type} {enc : TypeId × Value → H} {w : World} {base : Nat} {spare : Nat → Bool} {held : Bool}
theorem trod_intf {fuel : Nat} {cs : List Value} {y : DataW H × List MemPlace} (h : DataW.trod enc Tryz.prog w base spare held fuel 3 cs = some y) : ∃ n : Int, cs = [.int .i64 n] ∧ fitI n := by
  obtain ⟨n, h1, _, h3⟩ := DataW.trod_int Tryz.underlying3 h
  exact ⟨n, h1, h3⟩
set_option maxRecDepth 100000 in
theorem trod_idf {fuel : Nat} {cs : List Value} {y : DataW H × List MemPlace} (h : DataW.trod enc Tryz.prog w base spare held fuel 61 cs = some y) : ∃ d : Idt, cs = [.int .i64 d.time, .int .i64 d.site] ∧ fitI d.time ∧ fitI d.site := by
  obtain ⟨hl, n, hf⟩ := trod_field Tryz.underlying61 h
  obtain ⟨a, b, rfl⟩ := list2 (hl.trans (by kernel_rfl))
  obtain ⟨z0, h0⟩ := hf 0 _ rfl
  obtain ⟨z1, h1⟩ := hf 1 _ rfl
  obtain ⟨x0, e0, f0⟩ := trod_intf h0
  obtain ⟨x1, e1, f1⟩ := trod_intf h1
  have e0' : [a] = [Value.int .i64 x0] := e0
  have e1' : [b] = [Value.int .i64 x1] := e1
  injection e0' with e0'
  injection e1' with e1'
  exact ⟨⟨x0, x1⟩, by rw [e0', e1'], f0, f1⟩
set_option maxRecDepth 100000 in
theorem trod_nd {fuel : Nat} {cs : List Value} {y : DataW H × List MemPlace} (h : DataW.trod enc Tryz.prog w base spare held fuel 66 cs = some y) : ∃ x : Nd, cs = x.c.toList ∧ x.Fit := by
  obtain ⟨hl, n, hf⟩ := trod_field Tryz.underlying66 h
  have hl' : cs.length = 6 := hl.trans (by kernel_rfl)
  match cs, hl' with
  | [a0, a1, a2, a3, a4, a5], _ =>
  obtain ⟨z0, h0⟩ := hf 0 _ rfl
  obtain ⟨z1, h1⟩ := hf 1 _ rfl
  obtain ⟨z2, h2⟩ := hf 2 _ rfl
  obtain ⟨z3, h3⟩ := hf 3 _ rfl
  obtain ⟨id, e0, i1, i2⟩ := trod_idf h0
  obtain ⟨ref, e1, i3, i4⟩ := trod_idf h1
  obtain ⟨ru, e2, _, _⟩ := DataW.trod_int Tryz.underlying21 h2
  obtain ⟨st, e3, _⟩ := trod_intf h3
  have f0 : [a0, a1] = [Value.int .i64 id.time, .int .i64 id.site] := e0
  have f1 : [a2, a3] = [Value.int .i64 ref.time, .int .i64 ref.site] := e1
  have f2 : [a4] = [Value.int .i32 ru] := e2
  have f3 : [a5] = [Value.int .i64 st] := e3
  simp only [List.cons.injEq, and_true] at f0 f1 f2 f3
  obtain ⟨rfl, rfl⟩ := f0
  obtain ⟨rfl, rfl⟩ := f1
  subst f2 f3
  exact ⟨⟨id, ref, ru, st⟩, rfl, i1, i2, i3, i4⟩
set_option maxRecDepth 100000 in
theorem trod_nds {fuel : Nat} {cs : List Value} {y : DataW H × List MemPlace} (h : DataW.trod enc Tryz.prog w base spare held fuel 25 cs = some y) :
    ∃ (A : Option Addr) (c : Nat) (l : List Nd), cs = [.slice A l.length c] ∧ CellsAt w A (nds l) ∧ (∀ x ∈ l, x.Fit) ∧ (A = none → c = 0) ∧ l.length ≤ c := by
  rcases open_slice Tryz.underlying25 h with ⟨hc, _⟩ | ⟨a, len, cap, m, n, D, Pl, hc, hb, hl, hm, hmm, hx, hi⟩
  · exact ⟨none, 0, [], hc, CellsAt.nil _ _, fun x hx => absurd hx (by simp), fun _ => rfl, Nat.le_refl _⟩
  · have hlm : len ≤ m := by rw [hmm]; split <;> omega
    obtain ⟨l, hll, hp⟩ := list_of (fun i (x : Nd) => (∀ r u, r < 6 → x.c.toList[r]? = some u → w.cell? ((a.add (i * 6)).add r) = some u) ∧ x.Fit) len fun i hil => by
      obtain ⟨cs', hcs, ht⟩ := hi i (by omega)
      have hC : Tryz.prog.cellsOf 66 = 6 := by kernel_rfl
      rw [hC] at hcs
      obtain ⟨_, hcl, hat⟩ := World.cells?_some hcs
      obtain ⟨x, rfl, hx⟩ := trod_nd ht
      exact ⟨x, fun r u hr hu => (hat r (by omega)).trans hu, hx⟩
    refine ⟨some a, cap, l, by rw [hc, hll], cells_flat _ 6 (fun x => rfl) l a (fun i hi' r u hr hu => (hp i hi').1 r u hr hu), fun x hx => ?_, (fun e => by cases e), by rw [hll]; exact hl⟩
    obtain ⟨k, hk, rfl⟩ := List.getElem_of_mem hx
    exact (hp k hk).2
set_option maxRecDepth 100000 in
theorem trod_ints {fuel : Nat} {cs : List Value} {y : DataW H × List MemPlace} (h : DataW.trod enc Tryz.prog w base spare held fuel 26 cs = some y) :
    ∃ (A : Option Addr) (c : Nat) (l : List Int), cs = [.slice A l.length c] ∧ CellsAt w A (ints l) ∧ (∀ x ∈ l, fitI x) ∧ (A = none → c = 0) := by
  rcases open_slice Tryz.underlying26 h with ⟨hc, _⟩ | ⟨a, len, cap, m, n, D, Pl, hc, hb, hl, hm, hmm, hx, hi⟩
  · exact ⟨none, 0, [], hc, CellsAt.nil _ _, fun x hx => absurd hx (by simp), fun _ => rfl⟩
  · have hlm : len ≤ m := by rw [hmm]; split <;> omega
    obtain ⟨l, hll, hp⟩ := list_of (fun i (x : Int) => w.cell? (a.add (i * 1)) = some (.int .i64 x) ∧ fitI x) len fun i hil => by
      obtain ⟨cs', hcs, ht⟩ := hi i (by omega)
      have hC : Tryz.prog.cellsOf 3 = 1 := by kernel_rfl
      rw [hC] at hcs
      obtain ⟨_, hcl, hat⟩ := World.cells?_some hcs
      obtain ⟨x, rfl, hx⟩ := trod_intf ht
      have c0 := hat 0 (by omega)
      rw [Go.Deep.add_add] at c0
      exact ⟨x, c0, hx⟩
    refine ⟨some a, cap, l, by rw [hc, hll], fun j u hj => ⟨a, rfl, ?_⟩, fun x hx => ?_, fun e => by cases e⟩
    · have hjl : j < l.length := by
        have := (List.getElem?_eq_some_iff.1 hj).1
        rwa [ints_len] at this
      rw [ints_get l j hjl] at hj
      have := (hp j hjl).1
      rw [Nat.mul_one] at this
      rw [this]
      exact hj
    · obtain ⟨k, hk, rfl⟩ := List.getElem_of_mem hx
      exact (hp k hk).2
set_option maxRecDepth 100000 in
theorem trod_ops9 {fuel : Nat} {cs : List Value} {y : DataW H × List MemPlace} (h : DataW.trod enc Tryz.prog w base spare held fuel 24 cs = some y) :
    ∃ (A : Option Addr) (c : Nat) (l : List Lop), cs = [.slice A l.length c] ∧ CellsAt w A (lops l) ∧ (∀ x ∈ l, x.Arg w) := by
  rcases open_slice Tryz.underlying24 h with ⟨hc, _⟩ | ⟨a, len, cap, m, n, D, Pl, hc, hb, hl, hm, hmm, hx, hi⟩
  · exact ⟨none, 0, [], hc, CellsAt.nil _ _, fun x hx => absurd hx (by simp)⟩
  · have hlm : len ≤ m := by rw [hmm]; split <;> omega
    obtain ⟨l, hll, hp⟩ := list_of (fun i (x : Lop) => (∀ r u, r < 11 → x.c.toList[r]? = some u → w.cell? ((a.add (i * 11)).add r) = some u) ∧ x.Arg w) len fun i hil => by
      obtain ⟨cs', hcs, ht⟩ := hi i (by omega)
      have hC : Tryz.prog.cellsOf 64 = 11 := by kernel_rfl
      rw [hC] at hcs
      obtain ⟨_, hcl, hat⟩ := World.cells?_some hcs
      obtain ⟨x, rfl, hx⟩ := trod_op ht
      exact ⟨x, fun r u hr hu => (hat r (by omega)).trans hu, hx⟩
    refine ⟨some a, cap, l, by rw [hc, hll], cells_flat _ 11 (fun x => by rw [Array.length_toList, Lop.c_size]) l a (fun i hi' r u hr hu => (hp i hi').1 r u hr hu), fun x hx => ?_⟩
    obtain ⟨k, hk, rfl⟩ := List.getElem_of_mem hx
    exact (hp k hk).2
/-- An image as it is handed in. -/
structure Im.Arg (w : World) (m : Im) : Prop where
  at_ : m.At w
  nil : m.Nil
  fit : m.Fit
  cap : m.nodes.length ≤ m.nc
  counts : ∀ x ∈ m.log, ∀ r ∈ x.o.gone, inI r.count
set_option maxRecDepth 100000 in
theorem open_image {b0 : Nat} {r : Reach} {v : Value} {d : DataW H} {p : List MemPlace}
    (hv : Value.okWide Tryz.prog w r b0 28 v) (h : DataW.Trod enc Tryz.prog w base spare held 28 v d p) : ∃ m : Im, v = .agg m.c ∧ m.Arg w := by
  obtain ⟨cs, rfl, hsz⟩ := okWide_struct Tryz.underlying28 hv
  obtain ⟨fuel, hf⟩ := h
  obtain ⟨hl, n, hf⟩ := trod_field Tryz.underlying28 hf
  have hl' : (Value.agg cs).cells.toList.length = 8 := hl.trans (by kernel_rfl)
  obtain ⟨ls⟩ := cs
  have hl2 : ls.length = 8 := hl'
  match ls, hl2 with
  | [a0, a1, a2, a3, a4, a5, a6, a7], _ =>
  obtain ⟨z0, h0⟩ := hf 0 _ rfl
  obtain ⟨z1, h1⟩ := hf 1 _ rfl
  obtain ⟨z2, h2⟩ := hf 2 _ rfl
  obtain ⟨z3, h3⟩ := hf 3 _ rfl
  obtain ⟨z4, h4⟩ := hf 4 _ rfl
  obtain ⟨z5, h5⟩ := hf 5 _ rfl
  obtain ⟨z6, h6⟩ := hf 6 _ rfl
  obtain ⟨z7, h7⟩ := hf 7 _ rfl
  obtain ⟨vA, vc, vl, e0, k0, n0, _⟩ := trod_dots h0
  obtain ⟨bA, bc, bl, e1, k1, n1, _⟩ := trod_dots h1
  obtain ⟨clk, e2, _⟩ := trod_int' h2
  obtain ⟨lA, lc, ll, e3, k3, m3⟩ := trod_ops9 h3
  obtain ⟨nA, nc, nl, e4, k4, m4, n4, q4⟩ := trod_nds h4
  obtain ⟨jA, jc, jl, e5, k5, m5, n5⟩ := trod_ints h5
  obtain ⟨eA, ec, el, e6, k6, m6, n6⟩ := trod_ints h6
  obtain ⟨ep, e7, i7⟩ := trod_int' h7
  have f0 : [a0] = [Value.slice vA vl.length vc] := e0
  have f1 : [a1] = [Value.slice bA bl.length bc] := e1
  have f2 : [a2] = [Value.int .i64 clk] := e2
  have f3 : [a3] = [Value.slice lA ll.length lc] := e3
  have f4 : [a4] = [Value.slice nA nl.length nc] := e4
  have f5 : [a5] = [Value.slice jA jl.length jc] := e5
  have f6 : [a6] = [Value.slice eA el.length ec] := e6
  have f7 : [a7] = [Value.int .i64 ep] := e7
  simp only [List.cons.injEq, and_true] at f0 f1 f2 f3 f4 f5 f6 f7
  subst f0 f1 f2 f3 f4 f5 f6 f7
  exact ⟨⟨vl, vA, vc, bl, bA, bc, clk, ll, lA, lc, nl, nA, nc, jl, jA, jc, el, eA, ec, ep⟩, rfl, ⟨k0, k1, k3, fun x hx => (m3 x hx).at_, k4, k5, k6⟩, ⟨n0, n1, fun x hx => ⟨(m3 x hx).nd, (m3 x hx).ng⟩, n4, n5, n6⟩, ⟨m4, m5, m6, i7.2⟩, q4, fun x hx => (m3 x hx).counts⟩
end
end Go.Proofs.YtnajbkccaclkcaaGreat
