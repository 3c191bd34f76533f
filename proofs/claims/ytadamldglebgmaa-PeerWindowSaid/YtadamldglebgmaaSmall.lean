/- The walks of the small methods of both Peers: Got, Credit, Clear, Flight, New. Conditions: the Peer lies in memory as PeerAt says. -/
import Derived.Test.YtadamldglebgmaaSlice
import Derived.Test.YtadamldglebgmaaAt
import Derived.Deep.AppendLies
namespace Go.Proofs.Ytadamldglebgmaa
open Go.RowKit

section
variable (base b : Nat) (fv : Value) (s : St) (w : World)
theorem Got_any (h : PeerAt w base 39 b fv s) : Calls Try.prog 17 #[.pointer (some ⟨b, 0, none⟩)] w fun e w' => e = .returned (.int .i64 s.got) ∧ w = w' := by
  have c4 : w.cell? ⟨b, 4, none⟩ = some (.int .i64 s.got) := by simpa [St.cells] using h.box.cell 4
  go_enter Try.func17, Try.ntmps17
  go_wp2
  go_ret
  exact ⟨rfl, rfl⟩
theorem Credit_any (h : PeerAt w base 39 b fv s) : Calls Try.prog 18 #[.pointer (some ⟨b, 0, none⟩)] w fun e w' => e = .returned (.int .i64 s.credit) ∧ w = w' := by
  have c4 : w.cell? ⟨b, 5, none⟩ = some (.int .i64 s.credit) := by simpa [St.cells] using h.box.cell 5
  go_enter Try.func18, Try.ntmps18
  go_wp2
  go_ret
  exact ⟨rfl, rfl⟩
theorem RGot_any (h : PeerAt w base 41 b fv s) : Calls Try.prog 25 #[.pointer (some ⟨b, 0, none⟩)] w fun e w' => e = .returned (.int .i64 s.got) ∧ w = w' := by
  have c4 : w.cell? ⟨b, 4, none⟩ = some (.int .i64 s.got) := by simpa [St.cells] using h.box.cell 4
  go_enter Try.func25, Try.ntmps25
  go_wp2
  go_ret
  exact ⟨rfl, rfl⟩
theorem RCredit_any (h : PeerAt w base 41 b fv s) : Calls Try.prog 26 #[.pointer (some ⟨b, 0, none⟩)] w fun e w' => e = .returned (.int .i64 s.credit) ∧ w = w' := by
  have c4 : w.cell? ⟨b, 5, none⟩ = some (.int .i64 s.credit) := by simpa [St.cells] using h.box.cell 5
  go_enter Try.func26, Try.ntmps26
  go_wp2
  go_ret
  exact ⟨rfl, rfl⟩

def ClearPost (w : World) (base : Nat) (T : TypeId) (b : Nat) (s : St) (e : Ending) (w' : World) : Prop :=
  e = .returned (.tuple #[]) ∧ PeerAt w' base T b (.slice none 0 0) s.clear ∧ Kept (fun k => k = b) w w'
variable {base b fv s w} in
theorem ClearPost.mk' {T : TypeId} (h : PeerAt w base T b fv s) : ClearPost w base T b s (.returned (.tuple #[])) (w.setCell ⟨b, 3, none⟩ (.slice none 0 0)) :=
  ⟨rfl, ⟨h.box.set 3 _, World.ownsRow_nil _ _ _ _, h.base_le⟩, (Kept.refl _ _).at 3 _ (.inl rfl)⟩
theorem Clear_any (h : PeerAt w base 39 b fv s) : Calls Try.prog 13 #[.pointer (some ⟨b, 0, none⟩)] w (ClearPost w base 39 b s) := by
  have c4 : w.cell? ⟨b, 3, none⟩ = some fv := by simpa [St.cells] using h.box.cell 3
  have f4 := h.box.frozen 3
  go_enter Try.func13, Try.ntmps13
  go_wp2
  go_end0
  exact ClearPost.mk' h
theorem RClear_any (h : PeerAt w base 41 b fv s) : Calls Try.prog 23 #[.pointer (some ⟨b, 0, none⟩)] w (ClearPost w base 41 b s) := by
  have c4 : w.cell? ⟨b, 3, none⟩ = some fv := by simpa [St.cells] using h.box.cell 3
  have f4 := h.box.frozen 3
  go_enter Try.func23, Try.ntmps23
  go_wp2
  go_end0
  exact ClearPost.mk' h

/-- What New leaves: nil, or a Peer in a new block. -/
def okNew (window push : Int) : Bool := decide (1 ≤ window ∧ window ≤ 64 ∧ 1 ≤ push ∧ push ≤ 256)
def St.new (window push : Int) : St := ⟨window, push, 0, [], 0, push⟩
theorem Good.new {window push : Int} (h : okNew window push = true) : Good (St.new window push) := by
  have h' : 1 ≤ window ∧ window ≤ 64 ∧ 1 ≤ push ∧ push ≤ 256 := by simpa [okNew] using h
  unfold St.new
  constructor <;> simp <;> omega
theorem PeerAt.new (w : World) (base : Nat) (hb : base ≤ w.heap.size) (T : TypeId) (s : St) (hs : s.fl = []) : PeerAt (w.alloc (.cells (s.cells (.slice none 0 0)) T)) base T w.heap.size (.slice none 0 0) s :=
  ⟨Box.new w T _, by rw [hs]; exact World.ownsRow_nil _ _ _ _, hb⟩

end

section
variable (window push : Int) (w : World)
theorem New_no (hn : okNew window push = false) : Calls Try.prog 9 #[.int .i64 window, .int .i64 push] w fun e w' => e = .returned (.tuple #[.pointer none, .int .i64 1]) ∧ w = w' := by
  have h' : window < 1 ∨ 64 < window ∨ push < 1 ∨ 256 < push := by simp [okNew] at hn; omega
  clear hn
  rcases (show window < 1 ∨ (1 ≤ window ∧ 64 < window) ∨ (1 ≤ window ∧ window ≤ 64 ∧ push < 1) ∨ (1 ≤ window ∧ window ≤ 64 ∧ 1 ≤ push ∧ 256 < push) by omega) with h | ⟨h, h2⟩ | ⟨h, h2, h3⟩ | ⟨h, h2, h3, h4⟩
  all_goals
    clear h'
    go_enter Try.func9, Try.ntmps9
    go_wp2
    go_ret2
    exact ⟨rfl, rfl⟩
theorem New_yes (hn : okNew window push = true) : Calls Try.prog 9 #[.int .i64 window, .int .i64 push] w fun e w' => e = .returned (.tuple #[.pointer (some ⟨w.heap.size, 0, none⟩), .int .i64 0]) ∧ w' = w.alloc (.cells ((St.new window push).cells (.slice none 0 0)) 39) := by
  have h' : 1 ≤ window ∧ window ≤ 64 ∧ 1 ≤ push ∧ push ≤ 256 := by simpa [okNew] using hn
  clear hn
  obtain ⟨h1, h2, h3, h4⟩ := h'
  go_enter Try.func9, Try.ntmps9
  go_wp2
  go_ret2
  exact ⟨rfl, rfl⟩
theorem RNew_no (hn : okNew window push = false) : Calls Try.prog 10 #[.int .i64 window, .int .i64 push] w fun e w' => e = .returned (.tuple #[.pointer none, .int .i64 1]) ∧ w = w' := by
  have h' : window < 1 ∨ 64 < window ∨ push < 1 ∨ 256 < push := by simp [okNew] at hn; omega
  clear hn
  rcases (show window < 1 ∨ (1 ≤ window ∧ 64 < window) ∨ (1 ≤ window ∧ window ≤ 64 ∧ push < 1) ∨ (1 ≤ window ∧ window ≤ 64 ∧ 1 ≤ push ∧ 256 < push) by omega) with h | ⟨h, h2⟩ | ⟨h, h2, h3⟩ | ⟨h, h2, h3, h4⟩
  all_goals
    clear h'
    go_enter Try.func10, Try.ntmps10
    go_wp2
    go_ret2
    exact ⟨rfl, rfl⟩
theorem RNew_yes (hn : okNew window push = true) : Calls Try.prog 10 #[.int .i64 window, .int .i64 push] w fun e w' => e = .returned (.tuple #[.pointer (some ⟨w.heap.size, 0, none⟩), .int .i64 0]) ∧ w' = w.alloc (.cells ((St.new window push).cells (.slice none 0 0)) 41) := by
  have h' : 1 ≤ window ∧ window ≤ 64 ∧ 1 ≤ push ∧ push ≤ 256 := by simpa [okNew] using hn
  clear hn
  obtain ⟨h1, h2, h3, h4⟩ := h'
  go_enter Try.func10, Try.ntmps10
  go_wp2
  go_ret2
  exact ⟨rfl, rfl⟩
end
end Go.Proofs.Ytadamldglebgmaa
