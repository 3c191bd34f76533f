/- The walks of front's methods where there is no Front. No condition. -/
import Derived.Test.YthlejmpeigfdgaaFOpn
namespace Go.Proofs.Ythlejmpeigfdgaa
open Go Go.RowKit

/-- A guarded operation that reads, where its guard is met. -/
theorem held_takeG {P : Program} {ops : Array Oper} {md : Region.Mode} {Q : Exit → Act → World → Prop} {S : World → Prop} {i : Nat} {oi : Oper} {v : Value} {fuel : Nat} {listed : Array Bool} {a : Act} {w : World} (t : Tmp) (hi : ops[i]? = some oi) (hd : oi.dst = some t)
    (hs : Region.noSelect ops = true) (hf : Region.free md ops listed i = true) (hr : (Region.ready md ops listed).contains i = true)
    (hQ : ∀ c a w, Q (.panic c) (a.put (some t) v) w → Q (.panic c) a w) (hg : Region.wanted oi (yielded ops a.tmps) = true) (hS : S w) (hy : ∀ w, S w → (execOp a.eval oi).run P w = .ok (.value v) w)
    (h : wpAnyH P md ops Q S fuel (listed.setIfInBounds i true) { a with tmps := a.tmps.setIfInBounds t v } w) : wpAnyH P md ops Q S (fuel + 1) listed a w :=
  wpAnyH_take hi hs hf hr (by rw [hd]; exact hQ) (.inl ⟨hg, hy⟩) hS (by rw [hd]; exact h)
theorem wpList_unguard {P : Program} {ops : Array Oper} {Q : Exit → Act → World → Prop} {a : Act} {w : World} {rest : List Oper} {o : Oper} (hw : Region.wanted o (yielded ops a.tmps) = true) (h : wpList P ops Q ({ o with guard := none } :: rest) a w) : wpList P ops Q (o :: rest) a w := by
  unfold wpList at h ⊢
  rw [if_pos hw]
  rw [if_pos (by rfl)] at h
  exact h
def NoDots (w : World) (e : Ending) (w' : World) : Prop := ∃ A c, e = .returned (.slice A 0 c) ∧ Kept (fun _ => False) w w'
theorem Hear_nil (w : World) (m : Int) (A : Option Addr) (n c : Nat) : Calls Try.prog 17 #[.pointer none, .int .i64 m, .slice A n c] w (fun r w' => r = .returned (.int .i64 1) ∧ Kept (fun _ => False) w w') := by
  have hmf : ∀ (fn : Fn) (first cap : Array Value) (w : World), (Instr.makeFunc fn first cap).run Try.prog w = .ok (.func fn first cap) w := fun _ _ _ _ => rfl
  go_enter Try.func17, Try.ntmps17
  go_wp2_with (fail)
  go_ret
  exact ⟨rfl, (Kept.refl _ _).alloc _⟩
theorem Settle_nil (w : World) (A : Option Addr) (n c : Nat) : Calls Try.prog 15 #[.pointer none, .slice A n c] w (fun r w' => (∃ u, r = .returned u) ∧ Kept (fun _ => False) w w') := by
  go_enter Try.func15, Try.ntmps15
  go_wp2_with (fail)
  refine bodyPost_ret (results_none rfl _ _ _) rfl ?_
  exact ⟨⟨_, rfl⟩, (Kept.refl _ _).alloc _⟩
set_option maxRecDepth 100000 in
set_option maxHeartbeats 1600000 in
theorem Row_nil (w : World) (m : Int) : Calls Try.prog 16 #[.pointer none, .int .i64 m] w (fun r w' => ∃ A c, r = .returned (.tuple #[.slice A 0 c, .bool false]) ∧ Kept (fun _ => False) w w') := by
  go_enter Try.func16, Try.ntmps16
  go_wp2_with (fail)
  refine (FGet_nil w m).mono ?_
  rintro r w1 ⟨rfl, hk⟩
  have HK := Lib.hid hk
  have HN := Lib.hid (Box.new w1 68 zRow)
  clear hk
  go_wp2_with (refine wpList_store_box rfl 68 _ _ rfl w1.heap.size zRow rfl rfl 68 zRow HN.out (size_frow.trans rfl) rfl (two_one _ _ _ _ _ _) ?_)
  intro w2 HB2 hk2
  have hk2' : Kept (fun _ => False) w1 w2 := ((Kept.refl _ w1).alloc _).trans hk2 fun j hj e => by omega
  have HK2 := Lib.hid (HK.out.trans hk2' fun _ _ e => e)
  have y0 : w2.cell? ⟨w1.heap.size, 0, none⟩ = some (.slice none 0 0) := (HB2.out.cell 0).trans rfl
  clear hk2 hk2' HN HK
  go_wp2_with (fail)
  refine (CloneD_any none [] 0 w2 DotsAt.nil (by decide)).mono ?_
  rintro r w3 ⟨A', c', rfl, ho, hk⟩
  have HK3 := Lib.hid (HK2.out.trans hk fun _ _ e => e)
  clear ho hk y0
  go_wp2_with (fail)
  go_ret2
  exact ⟨A', c', rfl, HK3.out⟩
set_option maxRecDepth 100000 in
set_option maxHeartbeats 1600000 in
theorem Usable_nil (w : World) (m : Int) : Calls Try.prog 18 #[.pointer none, .int .i64 m] w (NoDots w) := by
  go_enter Try.func18, Try.ntmps18
  go_wp2_with (fail)
  refine (FGet_nil w m).mono ?_
  rintro r w1 ⟨rfl, hk⟩
  have HK := Lib.hid hk
  have HN := Lib.hid (Box.new w1 68 zRow)
  clear hk
  go_wp2_with (refine wpList_store_box rfl 68 _ _ rfl w1.heap.size zRow rfl rfl 68 zRow HN.out (size_frow.trans rfl) rfl (two_one _ _ _ _ _ _) ?_)
  intro w2 HB2 hk2
  have hk2' : Kept (fun _ => False) w1 w2 := ((Kept.refl _ w1).alloc _).trans hk2 fun j hj e => by omega
  have HK2 := Lib.hid (HK.out.trans hk2' fun _ _ e => e)
  have y0 : w2.cell? ⟨w1.heap.size, 1, none⟩ = some (.slice none 0 0) := (HB2.out.cell 1).trans rfl
  clear hk2 hk2' HN HK
  go_wp2_with (fail)
  refine (CloneD_any none [] 0 w2 DotsAt.nil (by decide)).mono ?_
  rintro r w3 ⟨A', c', rfl, ho, hk⟩
  have HK3 := Lib.hid (HK2.out.trans hk fun _ _ e => e)
  clear ho hk y0
  go_wp2_with (fail)
  go_ret
  exact ⟨A', c', rfl, HK3.out⟩
theorem Frontier_nil (w : World) (M : Option Addr) (ml mc : Nat) (self : Int) (A : Option Addr) (n c : Nat) :
    Calls Try.prog 19 #[.pointer none, .slice M ml mc, .int .i64 self, .slice A n c] w (NoDots w) := by
  refine (FFrontier_nil w M ml mc self A n c).mono ?_
  rintro r w' ⟨A', c', h, -, hk⟩
  exact ⟨A', c', h, hk⟩
end Go.Proofs.Ythlejmpeigfdgaa
