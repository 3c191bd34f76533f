/- A Front's script in memory; the walk of the law's much. Conditions: the script lies in memory. -/
import Derived.Test.YthlejmpeigfdgaaFKnw
namespace Go.Proofs.Ythlejmpeigfdgaa
open Go Go.RowKit

/-- A step of a script, and where its lists lie. -/
structure Stf where
  kind : Int
  site : Int
  v : List Dt
  vA : Option Addr
  vc : Nat
  ms : List Int
  mA : Option Addr
  mc : Nat
def Stf.cs (x : Stf) : Array Value := #[.int .i64 x.kind, .int .i64 x.site, .slice x.vA x.v.length x.vc, .slice x.mA x.ms.length x.mc]
/-- The cells of the steps. -/
def StfsAt (w : World) (A : Option Addr) (l : List Stf) : Prop := ∀ k (h : k < l.length), ∃ ad : Addr, A = some ad ∧ w.cell? (ad.add (k * 4)) = some (.int .i64 l[k].kind) ∧ w.rangeAt (ad.add (k * 4)).block (ad.add (k * 4)).off l[k].cs.toList
theorem StfsAt.fresh {w w' : World} {A : Option Addr} {l : List Stf} (h : StfsAt w A l) (hk : Kept (fun _ => False) w w') : StfsAt w' A l := fun k hlt => by
  obtain ⟨ad, e, x0, x1⟩ := h k hlt
  exact ⟨ad, e, Kept.cellF hk x0, fun j v hj => Kept.cellF hk (x1 j v hj)⟩
def Stf.size (x : Stf) : Nat := x.v.length + x.ms.length
def Stf.big (x : Stf) : Bool := decide (20000 < x.v.length) || decide (20000 < x.ms.length)
def sizesF (l : List Stf) : Nat := (l.map Stf.size).sum
def muchF (l : List Stf) : Bool := decide (200 < l.length) || l.any Stf.big || decide (20000 < sizesF l)
theorem sizesF_take (l : List Stf) (k : Nat) (hk : k < l.length) : sizesF (l.take (k + 1)) = sizesF (l.take k) + l[k].size := by
  unfold sizesF
  rw [List.take_succ_eq_append_getElem hk, List.map_append, List.sum_append]
  simp
theorem Stf.small {x : Stf} (h : x.big = false) : x.v.length ≤ 20000 ∧ x.ms.length ≤ 20000 := by
  unfold Stf.big at h
  simp only [Bool.or_eq_false_iff, decide_eq_false_iff_not] at h
  omega
theorem sizesF_le (l : List Stf) (h : l.any Stf.big = false) : sizesF l ≤ l.length * 40000 := by
  induction l with
  | nil => simp [sizesF]
  | cons s l ih =>
    rw [List.any_cons, Bool.or_eq_false_iff] at h
    have := ih h.2
    have h1 := Stf.small h.1
    simp only [sizesF, List.map_cons, List.sum_cons, List.length_cons] at this ⊢
    have e : s.size = s.v.length + s.ms.length := rfl
    omega
theorem und_stf : ∃ d, Try.prog.underlying 34 = some d ∧ d.isRow = true := ⟨.struct (Try.prog.fieldsOf 34), by kernel_rfl, rfl⟩
theorem size_stf : (Try.prog.info? 34).map (·.size) = some 4 := by kernel_rfl
theorem Stf.cs_size (x : Stf) : x.cs.size = 4 := rfl
theorem Stf.cs_one (x : Stf) : x.cs.all (·.oneCell') = true := by simp [Stf.cs, Value.oneCell']
theorem cell_spot {w : World} {q : Addr} {v : Value} (h : w.cell? q = some v) : q = ⟨q.block, q.off, none⟩ := by
  obtain ⟨b, o, s⟩ := q
  cases s with
  | none => rfl
  | some x =>
    unfold World.cell? at h
    simp only [Option.isSome_some, if_true] at h
    split at h <;> cases h
theorem load_stf {w : World} {ops : Array Oper} {rest : List Oper} {o : Oper} {a : Act} {Q : Exit → Act → World → Prop} (hgd : o.guard = none) (x : Operand) (ho : o.op = .load 34 x) (q : Addr) (hx : a.eval x = .pointer (some q)) (s : Stf)
    (h0 : w.cell? q = some (.int .i64 s.kind)) (h1 : w.rangeAt q.block q.off s.cs.toList)
    (h : wpList Try.prog ops Q rest (a.put o.dst (.agg s.cs)) w) : wpList Try.prog ops Q (o :: rest) a w := by
  have hq := cell_spot h0
  obtain ⟨b, f, sp⟩ := q
  injection hq with _ _ hsp
  subst hsp
  obtain ⟨d, hu, hd⟩ := und_stf
  refine wpList_load_mid hgd _ x ho b f hx s.cs.toList d h1 hu hd (by rw [Array.length_toList, s.cs_size]; exact size_stf) ?_
  rw [Array.toArray_toList]
  exact h

set_option maxRecDepth 100000 in
set_option maxHeartbeats 3200000 in
theorem Much14_any (A : Option Addr) (l : List Stf) (c : Nat) (w : World) (h : StfsAt w A l) (hl : l.length ≤ 4611686018427387904) :
    Calls Try.prog 9 #[.slice A l.length c] w (BoolPost w (muchF l)) := by
  by_cases h1 : 200 < l.length
  · have e : muchF l = true := by simp [muchF, h1]
    rw [e]
    clear h
    go_enter Try.func9, Try.ntmps9
    go_wp2
    go_ret
    exact ⟨rfl, Kept.refl _ _⟩
  have h1' : l.length ≤ 200 := by omega
  have HL := Lib.hid h
  obtain ⟨b, hb⟩ : ∃ b, muchF l = b := ⟨_, rfl⟩
  have HB := Lib.hid (show (l.any Stf.big || decide (20000 < sizesF l)) = b by rw [← hb]; simp [muchF, h1])
  rw [hb]
  clear h hb h1
  go_enter Try.func9, Try.ntmps9
  go_wp2_with (fail)
  go_loopw [3, 4] (fun n i wr => ∃ k : Nat, n = .int .i64 (sizesF (l.take k) : Nat) ∧ i = .int .i64 k ∧ k ≤ l.length ∧ (l.take k).any Stf.big = false ∧ Kept (fun _ => False) w wr) (fun _ i _ => l.length - (intOf i).toNat)
  case atStart => exact ⟨0, rfl, rfl, Nat.zero_le _, by simp, Kept.refl _ _⟩
  case round =>
    obtain ⟨k, rfl, rfl, hk, hnb', hkk⟩ := hrel
    have HK := Lib.hid hkk
    have HNB := Lib.hid hnb'
    have hsz := sizesF_le _ hnb'
    have hlen : (l.take k).length ≤ 200 := by rw [List.length_take]; omega
    by_cases hlt : k < l.length
    · obtain ⟨ad, rfl, x0, x1⟩ := HL.out.fresh hkk k hlt
      have HST := Lib.hid (sizesF_take l k hlt)
      obtain ⟨s, hs⟩ : ∃ s, l[k] = s := ⟨_, rfl⟩
      rw [hs] at x0 x1 HST
      have HS := Lib.hid hs
      have x2 : wr.cell? ⟨(ad.add (k * 4)).block, (ad.add (k * 4)).off + 2, none⟩ = some (.slice s.vA s.v.length s.vc) := x1 2 _ rfl
      have x3 : wr.cell? ⟨(ad.add (k * 4)).block, (ad.add (k * 4)).off + 3, none⟩ = some (.slice s.mA s.ms.length s.mc) := x1 3 _ rfl
      clear hkk hnb' hs x0 x1
      have HANY := Lib.hid (show s.big = true → b = true from fun h => by
        rw [← HB.out]
        have : l.any Stf.big = true := List.any_eq_true.2 ⟨l[k], List.getElem_mem hlt, by rw [HS.out]; exact h⟩
        rw [this, Bool.true_or])
      by_cases g0 : 20000 < s.v.length
      · have HBT := Lib.hid (HANY.out (by simp [Stf.big, g0]))
        have g0' : (20000 : Int) < (s.v.length : Int) := by omega
        clear HANY HST
        go_wp2
        go_ret
        exact ⟨by rw [HBT.out]; rfl, HK.out⟩
      by_cases g1 : 20000 < s.ms.length
      · have HBT := Lib.hid (HANY.out (by simp [Stf.big, g1]))
        have g0' : ¬ (20000 : Int) < (s.v.length : Int) := by omega
        have g1' : (20000 : Int) < (s.ms.length : Int) := by omega
        clear HANY HST
        go_wp2
        go_ret
        exact ⟨by rw [HBT.out]; rfl, HK.out⟩
      have HN1 := Lib.hid (show (l.take (k + 1)).any Stf.big = false by
        rw [List.take_succ_eq_append_getElem hlt, List.any_append, HNB.out, HS.out]
        simp [Stf.big, g0, g1])
      have HNS := Lib.hid (show sizesF (l.take (k + 1)) = sizesF (l.take k) + (s.v.length + s.ms.length) by rw [HST.out]; rfl)
      have g0' : s.v.length ≤ 20000 := by omega
      have g1' : s.ms.length ≤ 20000 := by omega
      have g0'' : ¬ (20000 : Int) < (s.v.length : Int) := by omega
      have g1'' : ¬ (20000 : Int) < (s.ms.length : Int) := by omega
      clear HANY HST HB HNB HS g0 g1
      generalize sizesF (l.take k) = m at HNS hsz ⊢
      have hw1 : IntKind.i64.wrap ((m : Int) + (s.v.length : Int)) = (m : Int) + (s.v.length : Int) := IntWalk.i64_in _ ⟨by omega, by omega⟩
      have hw2 : IntKind.i64.wrap ((m : Int) + (s.v.length : Int) + (s.ms.length : Int)) = (m : Int) + (s.v.length : Int) + (s.ms.length : Int) := IntWalk.i64_in _ ⟨by omega, by omega⟩
      go_wp2_with (fail)
      go_quiet (fail)
      go_wp2
      go_roundw
      case rel => exact ⟨k + 1, by rw [HNS.out]; go_num, by go_num, by omega, HN1.out, HK.out.trans (Kept.drewN_eq nq) fun _ _ e => e⟩
      case measure => simp [intOf]; omega
    · obtain rfl : k = l.length := by omega
      rw [List.take_length] at HNB hsz ⊢
      have HE := Lib.hid (show decide (20000 < sizesF l) = b by rw [← HB.out, HNB.out, Bool.false_or])
      clear hkk hnb'
      go_wp2
      go_ret
      exact ⟨by rw [← HE.out]; first | rfl | exact ret_bool (decide_eq_decide.2 (by omega)), HK.out⟩
/-- A step that may be played. -/
structure StfOk (w : World) (x : Stf) : Prop where
  v : DotsAt w x.vA x.v
  m : IntsAt w x.mA x.ms
  vl : x.v.length ≤ 20000
  ml : x.ms.length ≤ 20000
  site : (Lit.int .i64 x.site).wf = true
  wf : ∀ m ∈ x.ms, (Lit.int .i64 m).wf = true
theorem StfOk.fresh {w w' : World} {x : Stf} (h : StfOk w x) (hk : Kept (fun _ => False) w w') : StfOk w' x := ⟨h.v.fresh hk, h.m.fresh hk, h.vl, h.ml, h.site, h.wf⟩
end Go.Proofs.Ythlejmpeigfdgaa
