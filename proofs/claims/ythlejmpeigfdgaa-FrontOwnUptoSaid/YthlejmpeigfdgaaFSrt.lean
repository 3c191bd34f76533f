/- slices.Sorted(maps.Keys(m)) at a Front's map: the shelf's contracts laid (in plain words, as lay-plain.mjs prints them), and what they say here. Conditions: the map is the caller's. -/
import Derived.Test.YthlejmpeigfdgaaFHearW
import Derived.Shelf.SlIterI.Nil
import Derived.Shelf.SortM.Plain
import Derived.Shelf.SortM.SortNone
import Derived.Ground.GgzProg
import Derived.Ground.SlgmProg
namespace Go.Proofs.Ythlejmpeigfdgaa
open Go Go.RowKit Go.Maps Go.Sort Go.Shelf Go.Proofs

def keysA_ren : Go.Shelf.Ren := ⟨fun | 7 => 32 | 10 => 49 | n => n, fun | 23 => 66 | 26 => 3 | 3 => 68 | 28 => 64 | 0 => 0 | 27 => 63 | 33 => 81 | 4 => 4 | n => n, fun | n => n⟩
theorem keysA : Go.Proofs.SlLaysZI.n7 Try.prog keysA_ren := {
  mixed := by kernel_rfl
  f7 := ⟨Try.f32.name, by decide, Try.func32.trans (congrArg some (by kernel_rfl))⟩
  f10 := ⟨Try.f49.name, by decide, Try.func49.trans (congrArg some (by kernel_rfl))⟩
  t0 := Try.underlying0
  a0 := Try.isAgg0
  z0 := Try.sizeOf0
  v0 := Try.zeroValue0
  t4 := Try.underlying4
  a4 := Try.isAgg4
  z4 := Try.sizeOf4
  v4 := Try.zeroValue4
  t23 := Try.underlying66
  a23 := Try.isAgg66
  z23 := Try.sizeOf66
  v23 := Try.zeroValue66
  t26 := Try.underlying3
  a26 := Try.isAgg3
  z26 := Try.sizeOf3
  v26 := Try.zeroValue3
  t27 := Try.underlying63
  a27 := Try.isAgg63
  z27 := Try.sizeOf63
  v27 := Try.zeroValue63
  t28 := Try.underlying64
  a28 := Try.isAgg64
  z28 := Try.sizeOf64
  v28 := Try.zeroValue64
  t33 := Try.underlying81
  a33 := Try.isAgg81
  z33 := Try.sizeOf81
  v33 := Try.zeroValue81 }
def sortedA_ren : Go.Shelf.Ren := ⟨fun | 6 => 31 | 8 => 47 | 9 => 48 | 11 => 57 | 13 => 59 | 12 => 58 | 23 => 69 | 24 => 70 | 14 => 60 | 15 => 61 | 16 => 62 | 17 => 63 | 18 => 64 | 19 => 65 | 20 => 66 | 21 => 67 | 22 => 68 | 25 => 71 | 26 => 72 | 27 => 73 | 28 => 74 | 29 => 75 | 30 => 76 | 31 => 77 | n => n, fun | 26 => 3 | 28 => 64 | 24 => 32 | 0 => 0 | 3 => 3 | 37 => 92 | 48 => 103 | 50 => 105 | 4 => 4 | 40 => 95 | 39 => 94 | 45 => 100 | 5 => 5 | 9 => 9 | 51 => 106 | 55 => 110 | 57 => 112 | 58 => 113 | 33 => 81 | n => n, fun | n => n⟩
theorem sortedA : Go.Proofs.SlLaysZI.n6 Try.prog sortedA_ren := {
  mixed := by kernel_rfl
  f6 := ⟨Try.f31.name, by decide, Try.func31.trans (congrArg some (by kernel_rfl))⟩
  f8 := ⟨Try.f47.name, by decide, Try.func47.trans (congrArg some (by kernel_rfl))⟩
  f11 := ⟨Try.f57.name, by decide, Try.func57.trans (congrArg some (by kernel_rfl))⟩
  t0 := Try.underlying0
  a0 := Try.isAgg0
  z0 := Try.sizeOf0
  v0 := Try.zeroValue0
  t24 := Try.underlying32
  a24 := Try.isAgg32
  z24 := Try.sizeOf32
  v24 := Try.zeroValue32
  t26 := Try.underlying3
  a26 := Try.isAgg3
  z26 := Try.sizeOf3
  v26 := Try.zeroValue3
  t28 := Try.underlying64
  a28 := Try.isAgg64
  z28 := Try.sizeOf64
  v28 := Try.zeroValue64
  i26 := by kernel_rfl }
def sortA_ren : Go.Shelf.Ren := ⟨fun | 5 => 48 | 8 => 59 | 7 => 58 | 19 => 69 | 20 => 70 | 10 => 60 | 11 => 61 | 12 => 62 | 13 => 63 | 14 => 64 | 15 => 65 | 16 => 66 | 17 => 67 | 18 => 68 | 30 => 71 | 31 => 72 | 32 => 73 | 33 => 74 | 34 => 75 | 35 => 76 | 40 => 77 | n => n, fun | 23 => 32 | 25 => 3 | 3 => 3 | 32 => 92 | 22 => 32 | 0 => 0 | 44 => 103 | 46 => 105 | 4 => 4 | 36 => 95 | 35 => 94 | 41 => 100 | 5 => 5 | 9 => 9 | 53 => 106 | 57 => 110 | 63 => 112 | 64 => 113 | n => n, fun | n => n⟩
theorem sortA : Go.Proofs.SlLaysM.n5 Try.prog sortA_ren := {
  mixed := by kernel_rfl
  f5 := ⟨Try.f48.name, by decide, Try.func48.trans (congrArg some (by kernel_rfl))⟩
  f7 := ⟨Try.f58.name, by decide, Try.func58.trans (congrArg some (by kernel_rfl))⟩
  f8 := Try.func59.trans (congrArg some (by kernel_rfl))
  f10 := ⟨Try.f60.name, by decide, Try.func60.trans (congrArg some (by kernel_rfl))⟩
  f11 := ⟨Try.f61.name, by decide, Try.func61.trans (congrArg some (by kernel_rfl))⟩
  f12 := ⟨Try.f62.name, by decide, Try.func62.trans (congrArg some (by kernel_rfl))⟩
  f13 := ⟨Try.f63.name, by decide, Try.func63.trans (congrArg some (by kernel_rfl))⟩
  f14 := ⟨Try.f64.name, by decide, Try.func64.trans (congrArg some (by kernel_rfl))⟩
  f15 := ⟨Try.f65.name, by decide, Try.func65.trans (congrArg some (by kernel_rfl))⟩
  f16 := ⟨Try.f66.name, by decide, Try.func66.trans (congrArg some (by kernel_rfl))⟩
  f17 := ⟨Try.f67.name, by decide, Try.func67.trans (congrArg some (by kernel_rfl))⟩
  f18 := ⟨Try.f68.name, by decide, Try.func68.trans (congrArg some (by kernel_rfl))⟩
  f19 := Try.func69.trans (congrArg some (by kernel_rfl))
  f20 := Try.func70.trans (congrArg some (by kernel_rfl))
  f30 := ⟨Try.f71.name, by decide, Try.func71.trans (congrArg some (by kernel_rfl))⟩
  f31 := Try.func72.trans (congrArg some (by kernel_rfl))
  f32 := Try.func73.trans (congrArg some (by kernel_rfl))
  f33 := ⟨Try.f74.name, by decide, Try.func74.trans (congrArg some (by kernel_rfl))⟩
  f34 := ⟨Try.f75.name, by decide, Try.func75.trans (congrArg some (by kernel_rfl))⟩
  f35 := ⟨Try.f76.name, by decide, Try.func76.trans (congrArg some (by kernel_rfl))⟩
  f40 := ⟨Try.f77.name, by decide, Try.func77.trans (congrArg some (by kernel_rfl))⟩
  t0 := Try.underlying0
  a0 := Try.isAgg0
  z0 := Try.sizeOf0
  v0 := Try.zeroValue0
  t3 := Try.underlying3
  a3 := Try.isAgg3
  z3 := Try.sizeOf3
  v3 := Try.zeroValue3
  t4 := Try.underlying4
  a4 := Try.isAgg4
  z4 := Try.sizeOf4
  v4 := Try.zeroValue4
  t5 := Try.underlying5
  a5 := Try.isAgg5
  z5 := Try.sizeOf5
  v5 := Try.zeroValue5
  t9 := Try.underlying9
  a9 := Try.isAgg9
  z9 := Try.sizeOf9
  v9 := Try.zeroValue9
  t22 := Try.underlying32
  a22 := Try.isAgg32
  z22 := Try.sizeOf32
  v22 := Try.zeroValue32
  t23 := Try.underlying32
  a23 := Try.isAgg32
  z23 := Try.sizeOf32
  v23 := Try.zeroValue32
  t25 := Try.underlying3
  a25 := Try.isAgg3
  z25 := Try.sizeOf3
  v25 := Try.zeroValue3
  t32 := Try.underlying92
  a32 := Try.isAgg92
  z32 := Try.sizeOf92
  v32 := Try.zeroValue92
  t35 := Try.underlying94
  a35 := Try.isAgg94
  z35 := Try.sizeOf94
  v35 := Try.zeroValue94
  t36 := Try.underlying95
  a36 := Try.isAgg95
  z36 := Try.sizeOf95
  v36 := Try.zeroValue95
  t41 := Try.underlying100
  a41 := Try.isAgg100
  z41 := Try.sizeOf100
  v41 := Try.zeroValue100
  t44 := Try.underlying103
  a44 := Try.isAgg103
  z44 := Try.sizeOf103
  v44 := Try.zeroValue103
  t46 := Try.underlying105
  a46 := Try.isAgg105
  z46 := Try.sizeOf105
  v46 := Try.zeroValue105
  t53 := Try.underlying106
  a53 := Try.isAgg106
  z53 := Try.sizeOf106
  v53 := Try.zeroValue106
  t57 := Try.underlying110
  a57 := Try.isAgg110
  z57 := Try.sizeOf110
  v57 := Try.zeroValue110
  t63 := Try.underlying112
  a63 := Try.isAgg112
  z63 := Try.sizeOf112
  v63 := Try.zeroValue112
  t64 := Try.underlying113
  a64 := Try.isAgg113
  z64 := Try.sizeOf113
  v64 := Try.zeroValue113 }
theorem sortsA (m : Nat) : AnyZI.SortsIn Try.prog sortedA_ren Fence.wide m :=
  ⟨fun blk off cap ss W hH hblk hsz => callsIn_wide.2 (AnyM.slices_Sort_int sortA blk off cap ss W hH hblk hsz),
   fun p cap W => callsIn_wide.2 (AnyM.slices_Sort_int_none sortA p cap W)⟩
theorem Keys_any (mb : Option Nat) (W : World) : Calls Try.prog 32 #[.map mb] W fun e w' => e = .returned (.func (.func 49) #[] #[.pointer (some ⟨W.heap.size, 0, none⟩)]) ∧ w' = W.alloc (.cells #[.map mb] 66) :=
  (callsIn_wide (n := 5)).1 (AnyZI.keys_in keysA Fence.wide 5 trivial rfl mb W)
set_option maxHeartbeats 1000000 in
theorem Sorted_any (b nn : Nat) (D0 : DataW Value) (R : Value → Option (DataW Value × List MemPlace)) (w : World) (hown : w.ownsMap Try.prog 3 R b nn D0) (hmax : Maps.size D0 ≤ maxLen) (hbytes : Maps.size D0 * 8 ≤ 140737488355328) :
    Calls Try.prog 31 #[.func (.func 49) #[] #[.pointer (some ⟨w.heap.size, 0, none⟩)]] (w.alloc (.cells #[.map (some b)] 66)) fun e w' => ∃ (v : Value) (ss : List Int), e = .returned v ∧ ss.Perm (intKeys D0) ∧
      w'.ownsRow (w.alloc (.cells #[.map (some b)] 66)).heap.size 3 1 v ss.length ((ss.mergeSort (fun x y => decide (x ≤ y))).map encZ) ∧ (v = .slice none 0 0 ↔ ss = []) ∧ Below (w.alloc (.cells #[.map (some b)] 66)).heap.size (w.alloc (.cells #[.map (some b)] 66)) w' := by
  have hbl := hown.lt
  have hseq : SeqGives Fence.wide 2 Try.prog 49 #[.pointer (some ⟨w.heap.size, 0, none⟩)] encZ (fun ss => ss.Perm (intKeys D0)) (Maps.size D0) (w.alloc (.cells #[.map (some b)] 66)) :=
    AnyZI.keys_gives (ρ := keysA_ren) { keysA with } Fence.wide _ trivial rfl (by omega) w.heap.size b nn D0 _ (by simp) (by simp) (by
      obtain ⟨es, clock, hb, Ft, hs, hD⟩ := hown
      exact ⟨es, clock, (Below.heap_alloc _ _ b hbl).trans hb, Ft, hs, hD⟩)
  have cS := AnyZI.sorted_in sortedA Fence.wide 5 trivial trivial trivial trivial rfl (by omega) (sortsA _) (enters_of Try.func48 (by kernel_rfl) rfl) 49 #[.pointer (some ⟨w.heap.size, 0, none⟩)] trivial (enters_of Try.func49 (by kernel_rfl) rfl) _ _ hmax hbytes _ hseq
  exact (callsIn_wide (n := 5)).1 cS
end Go.Proofs.Ythlejmpeigfdgaa
