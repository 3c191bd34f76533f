/- The shelf's contracts of slices laid at this program, in plain words (as lay-plain.mjs prints them). No condition. -/
import Derived.Test.YtkekhnohehhljaaRows
import Derived.Shelf.SlLaysF0
import Derived.Shelf.SlicesG.CompactI
import Derived.Shelf.SlicesG.SearchI
import Derived.Shelf.SlicesG.Clone
import Derived.Shelf.SlicesE.Clone
import Derived.Shelf.SortM.Plain
import Derived.Shelf.SortM.SortNone
import Derived.Ground.SlsfProg
import Derived.Ground.SlgnProg
import Derived.Ground.SlgmProg
namespace Go.Proofs.Ytkekhnohehhljaa
open Go Go.RowKit Go.Shelf Go.Sort Go.Proofs

def insE_ren : Go.Shelf.Ren := ⟨fun | 20 => 41 | n => n, fun | 24 => 35 | 22 => 25 | 3 => 3 | 25 => 44 | 4 => 4 | 0 => 0 | n => n, fun | n => n⟩
theorem insE : Go.Proofs.SlLaysF0.n20 Try.prog insE_ren := {
  mixed := by kernel_rfl
  f20 := ⟨Try.f41.name, by decide, Try.func41.trans (congrArg some (by kernel_rfl))⟩
  t0 := Try.underlying0
  a0 := Try.isAgg0
  z0 := Try.sizeOf0
  v0 := Try.zeroValue0
  t3 := Try.underlying3
  a3 := Try.isAgg3
  z3 := Try.sizeOf3
  v3 := Try.zeroValue3
  t4 := Try.underlying4
  a4 := Try.isAgg4
  z4 := Try.sizeOf4
  v4 := Try.zeroValue4
  t22 := Try.underlying25
  a22 := Try.isAgg25
  z22 := Try.sizeOf25
  v22 := Try.zeroValue25
  t25 := Try.underlying44
  a25 := Try.isAgg44
  z25 := Try.sizeOf44
  v25 := Try.zeroValue44 }
def sortI_ren : Go.Shelf.Ren := ⟨fun | 5 => 15 | 8 => 24 | 7 => 23 | 19 => 39 | 20 => 40 | 10 => 30 | 11 => 31 | 12 => 32 | 13 => 33 | 14 => 34 | 15 => 35 | 16 => 36 | 17 => 37 | 18 => 38 | 30 => 44 | 31 => 45 | 32 => 46 | 33 => 47 | 34 => 48 | 35 => 26 | 40 => 50 | n => n, fun | 23 => 26 | 25 => 3 | 3 => 3 | 32 => 50 | 22 => 26 | 0 => 0 | 44 => 70 | 46 => 58 | 4 => 4 | 36 => 63 | 35 => 62 | 41 => 55 | 5 => 5 | 9 => 9 | 53 => 74 | 57 => 78 | 63 => 80 | 64 => 81 | n => n, fun | n => n⟩
theorem sortI : Go.Proofs.SlLaysM.n5 Try.prog sortI_ren := {
  mixed := by kernel_rfl
  f5 := ⟨Try.f15.name, by decide, Try.func15.trans (congrArg some (by kernel_rfl))⟩
  f7 := ⟨Try.f23.name, by decide, Try.func23.trans (congrArg some (by kernel_rfl))⟩
  f8 := Try.func24.trans (congrArg some (by kernel_rfl))
  f10 := ⟨Try.f30.name, by decide, Try.func30.trans (congrArg some (by kernel_rfl))⟩
  f11 := ⟨Try.f31.name, by decide, Try.func31.trans (congrArg some (by kernel_rfl))⟩
  f12 := ⟨Try.f32.name, by decide, Try.func32.trans (congrArg some (by kernel_rfl))⟩
  f13 := ⟨Try.f33.name, by decide, Try.func33.trans (congrArg some (by kernel_rfl))⟩
  f14 := ⟨Try.f34.name, by decide, Try.func34.trans (congrArg some (by kernel_rfl))⟩
  f15 := ⟨Try.f35.name, by decide, Try.func35.trans (congrArg some (by kernel_rfl))⟩
  f16 := ⟨Try.f36.name, by decide, Try.func36.trans (congrArg some (by kernel_rfl))⟩
  f17 := ⟨Try.f37.name, by decide, Try.func37.trans (congrArg some (by kernel_rfl))⟩
  f18 := ⟨Try.f38.name, by decide, Try.func38.trans (congrArg some (by kernel_rfl))⟩
  f19 := Try.func39.trans (congrArg some (by kernel_rfl))
  f20 := Try.func40.trans (congrArg some (by kernel_rfl))
  f30 := ⟨Try.f44.name, by decide, Try.func44.trans (congrArg some (by kernel_rfl))⟩
  f31 := Try.func45.trans (congrArg some (by kernel_rfl))
  f32 := Try.func46.trans (congrArg some (by kernel_rfl))
  f33 := ⟨Try.f47.name, by decide, Try.func47.trans (congrArg some (by kernel_rfl))⟩
  f34 := ⟨Try.f48.name, by decide, Try.func48.trans (congrArg some (by kernel_rfl))⟩
  f35 := ⟨Try.f26.name, by decide, Try.func26.trans (congrArg some (by kernel_rfl))⟩
  f40 := ⟨Try.f50.name, by decide, Try.func50.trans (congrArg some (by kernel_rfl))⟩
  t0 := Try.underlying0
  a0 := Try.isAgg0
  z0 := Try.sizeOf0
  v0 := Try.zeroValue0
  t3 := Try.underlying3
  a3 := Try.isAgg3
  z3 := Try.sizeOf3
  v3 := Try.zeroValue3
  t4 := Try.underlying4
  a4 := Try.isAgg4
  z4 := Try.sizeOf4
  v4 := Try.zeroValue4
  t5 := Try.underlying5
  a5 := Try.isAgg5
  z5 := Try.sizeOf5
  v5 := Try.zeroValue5
  t9 := Try.underlying9
  a9 := Try.isAgg9
  z9 := Try.sizeOf9
  v9 := Try.zeroValue9
  t22 := Try.underlying26
  a22 := Try.isAgg26
  z22 := Try.sizeOf26
  v22 := Try.zeroValue26
  t23 := Try.underlying26
  a23 := Try.isAgg26
  z23 := Try.sizeOf26
  v23 := Try.zeroValue26
  t25 := Try.underlying3
  a25 := Try.isAgg3
  z25 := Try.sizeOf3
  v25 := Try.zeroValue3
  t32 := Try.underlying50
  a32 := Try.isAgg50
  z32 := Try.sizeOf50
  v32 := Try.zeroValue50
  t35 := Try.underlying62
  a35 := Try.isAgg62
  z35 := Try.sizeOf62
  v35 := Try.zeroValue62
  t36 := Try.underlying63
  a36 := Try.isAgg63
  z36 := Try.sizeOf63
  v36 := Try.zeroValue63
  t41 := Try.underlying55
  a41 := Try.isAgg55
  z41 := Try.sizeOf55
  v41 := Try.zeroValue55
  t44 := Try.underlying70
  a44 := Try.isAgg70
  z44 := Try.sizeOf70
  v44 := Try.zeroValue70
  t46 := Try.underlying58
  a46 := Try.isAgg58
  z46 := Try.sizeOf58
  v46 := Try.zeroValue58
  t53 := Try.underlying74
  a53 := Try.isAgg74
  z53 := Try.sizeOf74
  v53 := Try.zeroValue74
  t57 := Try.underlying78
  a57 := Try.isAgg78
  z57 := Try.sizeOf78
  v57 := Try.zeroValue78
  t63 := Try.underlying80
  a63 := Try.isAgg80
  z63 := Try.sizeOf80
  v63 := Try.zeroValue80
  t64 := Try.underlying81
  a64 := Try.isAgg81
  z64 := Try.sizeOf81
  v64 := Try.zeroValue81 }
def compactI_ren : Go.Shelf.Ren := ⟨fun | 43 => 16 | n => n, fun | 22 => 26 | 23 => 3 | 3 => 3 | 4 => 4 | 0 => 0 | n => n, fun | n => n⟩
theorem compactI : Go.Proofs.SlLaysN.n43 Try.prog compactI_ren := {
  mixed := by kernel_rfl
  f43 := ⟨Try.f16.name, by decide, Try.func16.trans (congrArg some (by kernel_rfl))⟩
  t0 := Try.underlying0
  a0 := Try.isAgg0
  z0 := Try.sizeOf0
  v0 := Try.zeroValue0
  t3 := Try.underlying3
  a3 := Try.isAgg3
  z3 := Try.sizeOf3
  v3 := Try.zeroValue3
  t4 := Try.underlying4
  a4 := Try.isAgg4
  z4 := Try.sizeOf4
  v4 := Try.zeroValue4
  t22 := Try.underlying26
  a22 := Try.isAgg26
  z22 := Try.sizeOf26
  v22 := Try.zeroValue26
  t23 := Try.underlying3
  a23 := Try.isAgg3
  z23 := Try.sizeOf3
  v23 := Try.zeroValue3
  i23 := by kernel_rfl }
def searchI_ren : Go.Shelf.Ren := ⟨fun | 49 => 28 | 59 => 36 | 60 => 43 | 68 => 26 | n => n, fun | 22 => 26 | 23 => 3 | 3 => 3 | 4 => 4 | 51 => 50 | 0 => 0 | n => n, fun | n => n⟩
theorem searchI : Go.Proofs.SlLaysN.n49 Try.prog searchI_ren := {
  mixed := by kernel_rfl
  f49 := ⟨Try.f28.name, by decide, Try.func28.trans (congrArg some (by kernel_rfl))⟩
  f59 := ⟨Try.f36.name, by decide, Try.func36.trans (congrArg some (by kernel_rfl))⟩
  f60 := ⟨Try.f43.name, by decide, Try.func43.trans (congrArg some (by kernel_rfl))⟩
  f68 := ⟨Try.f26.name, by decide, Try.func26.trans (congrArg some (by kernel_rfl))⟩
  t0 := Try.underlying0
  a0 := Try.isAgg0
  z0 := Try.sizeOf0
  v0 := Try.zeroValue0
  t3 := Try.underlying3
  a3 := Try.isAgg3
  z3 := Try.sizeOf3
  v3 := Try.zeroValue3
  t4 := Try.underlying4
  a4 := Try.isAgg4
  z4 := Try.sizeOf4
  v4 := Try.zeroValue4
  t22 := Try.underlying26
  a22 := Try.isAgg26
  z22 := Try.sizeOf26
  v22 := Try.zeroValue26
  t23 := Try.underlying3
  a23 := Try.isAgg3
  z23 := Try.sizeOf3
  v23 := Try.zeroValue3
  t51 := Try.underlying50
  a51 := Try.isAgg50
  z51 := Try.sizeOf50
  v51 := Try.zeroValue50 }
def cloneI_ren : Go.Shelf.Ren := ⟨fun | 41 => 14 | n => n, fun | 22 => 26 | 23 => 3 | 4 => 4 | n => n, fun | n => n⟩
theorem cloneI : Go.Proofs.SlLaysN.n41 Try.prog cloneI_ren := {
  mixed := by kernel_rfl
  f41 := ⟨Try.f14.name, by decide, Try.func14.trans (congrArg some (by kernel_rfl))⟩
  t4 := Try.underlying4
  a4 := Try.isAgg4
  z4 := Try.sizeOf4
  v4 := Try.zeroValue4
  t22 := Try.underlying26
  a22 := Try.isAgg26
  z22 := Try.sizeOf26
  v22 := Try.zeroValue26
  t23 := Try.underlying3
  a23 := Try.isAgg3
  z23 := Try.sizeOf3
  v23 := Try.zeroValue3
  i23 := by kernel_rfl }
def cloneE_ren : Go.Shelf.Ren := ⟨fun | 41 => 17 | n => n, fun | 22 => 25 | 23 => 35 | 4 => 4 | n => n, fun | n => n⟩
theorem cloneE : Go.Proofs.SlLaysE0.n41 Try.prog cloneE_ren := {
  mixed := by kernel_rfl
  f41 := ⟨Try.f17.name, by decide, Try.func17.trans (congrArg some (by kernel_rfl))⟩
  t4 := Try.underlying4
  a4 := Try.isAgg4
  z4 := Try.sizeOf4
  v4 := Try.zeroValue4
  t22 := Try.underlying25
  a22 := Try.isAgg25
  z22 := Try.sizeOf25
  v22 := Try.zeroValue25 }
end Go.Proofs.Ytkekhnohehhljaa
