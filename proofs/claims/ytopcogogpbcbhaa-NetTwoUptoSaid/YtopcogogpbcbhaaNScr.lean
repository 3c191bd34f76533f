/- A network's script in memory; the walk of the law's much. Conditions: the script lies in memory. -/
import Derived.Test.YtopcogogpbcbhaaNNot
namespace Go.Proofs.Ytopcogogpbcbhaa
open Go Go.RowKit

/-- The cells of the steps. -/
def StnsAt (w : World) (A : Option Addr) (l : List Stn) : Prop := ∀ k (h : k < l.length), ∃ ad : Addr, A = some ad ∧ w.cell? (ad.add (k * 6)) = some (.int .i64 l[k].kind) ∧ w.rangeAt (ad.add (k * 6)).block (ad.add (k * 6)).off l[k].cs.toList
theorem StnsAt.fresh {w w' : World} {A : Option Addr} {l : List Stn} (h : StnsAt w A l) (hk : Kept (fun _ => False) w w') : StnsAt w' A l := fun k hlt => by
  obtain ⟨ad, e, x0, x1⟩ := h k hlt
  have go : ∀ a v, w.cell? a = some v → w'.cell? a = some v := fun a v hv => by
    rw [World.cell?_of_block (w := w) (hk.block _ (World.block_lt_of_cell? w _ hv) id)]
    exact hv
  exact ⟨ad, e, go _ _ x0, fun j v hj => go _ _ (x1 j v hj)⟩
def sizesN (l : List Stn) : Nat := (l.map fun x => x.data.length).sum
def muchN (l : List Stn) : Bool := decide (200 < l.length) || l.any (fun x => decide (60000 < x.data.length)) || decide (60000 < sizesN l)
theorem sizesN_take (l : List Stn) (k : Nat) (hk : k < l.length) : sizesN (l.take (k + 1)) = sizesN (l.take k) + l[k].data.length := by
  unfold sizesN
  rw [List.take_succ_eq_append_getElem hk, List.map_append, List.sum_append]
  simp
theorem sizesN_le (l : List Stn) (h : l.any (fun x => decide (60000 < x.data.length)) = false) : sizesN l ≤ l.length * 60000 := by
  induction l with
  | nil => simp [sizesN]
  | cons s l ih =>
    rw [List.any_cons, Bool.or_eq_false_iff] at h
    have := ih h.2
    have h1 := h.1
    simp only [decide_eq_false_iff_not] at h1
    simp only [sizesN, List.map_cons, List.sum_cons, List.length_cons] at this ⊢
    omega
theorem und_stn : ∃ d, Try.prog.underlying 32 = some d ∧ d.isRow = true := ⟨.struct (Try.prog.fieldsOf 32), by kernel_rfl, rfl⟩
theorem size_stn : (Try.prog.info? 32).map (·.size) = some 6 := by kernel_rfl
theorem Stn.cs_size (x : Stn) : x.cs.size = 6 := rfl
theorem Stn.cs_one (x : Stn) : x.cs.all (·.oneCell') = true := by simp [Stn.cs, Value.oneCell']
theorem cell_spot {w : World} {q : Addr} {v : Value} (h : w.cell? q = some v) : q = ⟨q.block, q.off, none⟩ := by
  obtain ⟨b, o, s⟩ := q
  cases s with
  | none => rfl
  | some x =>
    unfold World.cell? at h
    simp only [Option.isSome_some, if_true] at h
    split at h <;> cases h
theorem load_stn {w : World} {ops : Array Oper} {rest : List Oper} {o : Oper} {a : Act} {Q : Exit → Act → World → Prop} (hgd : o.guard = none) (x : Operand) (ho : o.op = .load 32 x) (q : Addr) (hx : a.eval x = .pointer (some q)) (s : Stn)
    (h0 : w.cell? q = some (.int .i64 s.kind)) (h1 : w.rangeAt q.block q.off s.cs.toList)
    (h : wpList Try.prog ops Q rest (a.put o.dst (.agg s.cs)) w) : wpList Try.prog ops Q (o :: rest) a w := by
  have hq := cell_spot h0
  obtain ⟨b, f, sp⟩ := q
  injection hq with _ _ hsp
  subst hsp
  obtain ⟨d, hu, hd⟩ := und_stn
  refine wpList_load_mid hgd _ x ho b f hx s.cs.toList d h1 hu hd (by rw [Array.length_toList, s.cs_size]; exact size_stn) ?_
  rw [Array.toArray_toList]
  exact h

def BoolPost (w : World) (b : Bool) (e : Ending) (w' : World) : Prop := e = .returned (.bool b) ∧ Kept (fun _ => False) w w'
set_option maxRecDepth 100000 in
set_option maxHeartbeats 3200000 in
theorem Much20_any (A : Option Addr) (l : List Stn) (c : Nat) (w : World) (h : StnsAt w A l) (hl : l.length ≤ 4611686018427387904) :
    Calls Try.prog 10 #[.slice A l.length c] w (BoolPost w (muchN l)) := by
  by_cases h1 : 200 < l.length
  · have e : muchN l = true := by simp [muchN, h1]
    rw [e]
    clear h
    go_enter Try.func10, Try.ntmps10
    go_wp2
    go_ret
    exact ⟨rfl, Kept.refl _ _⟩
  have h1' : l.length ≤ 200 := by omega
  have HL := Lib.hid h
  obtain ⟨b, hb⟩ : ∃ b, muchN l = b := ⟨_, rfl⟩
  have HB := Lib.hid (show (l.any (fun x => decide (60000 < x.data.length)) || decide (60000 < sizesN l)) = b by rw [← hb]; simp [muchN, h1])
  rw [hb]
  clear h hb h1
  go_enter Try.func10, Try.ntmps10
  go_wp2_with (fail)
  go_loopw [3, 4] (fun n i wr => ∃ k : Nat, n = .int .i64 (sizesN (l.take k) : Nat) ∧ i = .int .i64 k ∧ k ≤ l.length ∧ (l.take k).any (fun x => decide (60000 < x.data.length)) = false ∧ Kept (fun _ => False) w wr) (fun _ i _ => l.length - (intOf i).toNat)
  case atStart => exact ⟨0, rfl, rfl, Nat.zero_le _, by simp, Kept.refl _ _⟩
  case round =>
    obtain ⟨k, rfl, rfl, hk, hnb', hkk⟩ := hrel
    have HK := Lib.hid hkk
    have HNB := Lib.hid hnb'
    have hsz := sizesN_le _ hnb'
    have hlen : (l.take k).length ≤ 200 := by rw [List.length_take]; omega
    by_cases hlt : k < l.length
    · obtain ⟨ad, rfl, x0, x1⟩ := HL.out.fresh hkk k hlt
      have HST := Lib.hid (sizesN_take l k hlt)
      obtain ⟨s, hs⟩ : ∃ s, l[k] = s := ⟨_, rfl⟩
      rw [hs] at x0 x1 HST
      have HS := Lib.hid hs
      have x5 : wr.cell? ⟨(ad.add (k * 6)).block, (ad.add (k * 6)).off + 5, none⟩ = some (.slice s.dA s.data.length s.dc) := x1 5 _ rfl
      clear hkk hnb' hs x0 x1
      have HANY := Lib.hid (show 60000 < s.data.length → b = true from fun h => by
        rw [← HB.out]
        have : l.any (fun x => decide (60000 < x.data.length)) = true := List.any_eq_true.2 ⟨l[k], List.getElem_mem hlt, by rw [HS.out]; exact decide_eq_true h⟩
        rw [this, Bool.true_or])
      by_cases g0 : 60000 < s.data.length
      · have hb' := HANY.out g0
        have HBT := Lib.hid hb'
        clear hb' HANY HST
        go_wp2
        go_ret
        exact ⟨by rw [HBT.out]; rfl, HK.out⟩
      have g0' : s.data.length ≤ 60000 := by omega
      have HN1 := Lib.hid (show (l.take (k + 1)).any (fun x => decide (60000 < x.data.length)) = false by
        rw [List.take_succ_eq_append_getElem hlt, List.any_append, HNB.out, HS.out]
        simp [g0])
      have HNS := Lib.hid (show sizesN (l.take (k + 1)) = sizesN (l.take k) + s.data.length by rw [HST.out])
      clear HANY HST HB HNB HS g0
      generalize sizesN (l.take k) = m at HNS hsz ⊢
      have hw1 : IntKind.i64.wrap ((m : Int) + (s.data.length : Int)) = (m : Int) + (s.data.length : Int) := IntWalk.i64_in _ ⟨by omega, by omega⟩
      go_wp2_with (fail)
      go_roundw
      case rel => exact ⟨k + 1, by rw [HNS.out]; go_num, by go_num, by omega, HN1.out, HK.out⟩
      case measure => simp [intOf]; omega
    · obtain rfl : k = l.length := by omega
      rw [List.take_length] at HNB hsz ⊢
      have HE := Lib.hid (show decide (60000 < sizesN l) = b by rw [← HB.out, HNB.out, Bool.false_or])
      clear hkk hnb'
      go_wp2
      go_ret
      exact ⟨by rw [← HE.out]; first | rfl | exact ret_bool (decide_eq_decide.2 (by omega)), HK.out⟩
/-- A step that may be played. -/
structure StnOk (w : World) (x : Stn) : Prop where
  b : BytesAt w x.dA x.data
  by_ : isByte x.data
  none : x.dA = none → x.data = []
  len : x.data.length ≤ 60000
  num : (Lit.int .i64 x.num).wf = true
  at_ : (Lit.int .i64 x.at_).wf = true
theorem StnOk.fresh {w w' : World} {x : Stn} (h : StnOk w x) (hk : Kept (fun _ => False) w w') : StnOk w' x := ⟨h.b.fresh hk, h.by_, h.none, h.len, h.num, h.at_⟩
end Go.Proofs.Ytopcogogpbcbhaa
