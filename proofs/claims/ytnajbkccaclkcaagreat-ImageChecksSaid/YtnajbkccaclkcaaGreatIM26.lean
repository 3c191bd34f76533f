/- Sets of identifiers and of numbers as maps to bools. Conditions: numbers are Go's ints. · image.node walked. Conditions: the node's numbers are Go's ints; the map holds the identifiers that there were. · The chain of links in memory: a row of pairs of identifiers, cut at its end, its last one written over, gone on from. No condition. -/
import Derived.Test.YtnajbkccaclkcaaGreatIM25
import Derived.Test.YtnajbkccaclkcaaGreatIM9
import Derived.DeepKeys4
import Derived.Maps.Own
import Derived.Maps.OwnSet
import Derived.Maps.Views
import Derived.Laws.OwnMore
namespace Go.Proofs.YtnajbkccaclkcaaGreat
open Go Go.RowKit Go.Maps

theorem lawID : WideMaps.KeyLaw Tryz.prog 61 := deep_law_laid laidOut (m := 3) (by omega) (of_decide_eq_true (by kernel_rfl)) (by kernel_rfl) (by rw [Tryz.underlying61])
theorem keyID : Keyed Tryz.prog 61 := Keyed.of_law lawID
theorem keyInt : Keyed Tryz.prog 3 := int_keyed Tryz.underlying3
def fitI (n : Int) : Prop := (Lit.int .i64 n).wf = true
theorem lits_int (d : Nat) {n : Int} (h : fitI n) : Tryz.prog.keyLits (d + 1) 3 [.int .i64 n] = some [.int .i64 n] := by
  unfold fitI at h
  simp [Program.keyLits, Tryz.underlying3, h]
theorem lits_id (d : Nat) {t s : Int} (ht : fitI t) (hs : fitI s) : Tryz.prog.keyLits (d + 2) 61 [.int .i64 t, .int .i64 s] = some [.int .i64 t, .int .i64 s] := by
  have c0 : Tryz.prog.cellsOf 3 = 1 := by kernel_rfl
  have c1 : Tryz.prog.cellsOf 61 = 2 := by kernel_rfl
  unfold Program.keyLits
  simp only [Tryz.underlying61]
  rw [if_pos ⟨by rw [c1]; rfl, by kernel_rfl⟩]
  simp only [List.mapM_cons, List.mapM_nil, c0, List.drop_zero, List.take_succ_cons, List.take_zero, List.drop_succ_cons, lits_int d ht, lits_int d hs]
  rfl
theorem key_id {t s : Int} (ht : fitI t) (hs : fitI s) : keyOf Tryz.prog 61 (.agg #[.int .i64 t, .int .i64 s]) = some (.string (keyBytes [.int .i64 t, .int .i64 s])) := by
  have hk : Tryz.prog.keyType 61 = true := by kernel_rfl
  have hf : (Value.agg #[.int .i64 t, .int .i64 s]).formed Tryz.prog 61 = true := by simp [Value.formed, Tryz.underlying61]; kernel_rfl
  obtain ⟨n, hn⟩ : ∃ n, Tryz.prog.types.size + 1 = n + 2 := ⟨Tryz.prog.types.size - 1, by have : 1 < Tryz.prog.types.size := of_decide_eq_true (by kernel_rfl); omega⟩
  unfold keyOf
  simp only [Tryz.underlying61]
  rw [hk, hf, hn]
  have : (Value.agg #[.int .i64 t, .int .i64 s]).cells.toList = [.int .i64 t, .int .i64 s] := rfl
  rw [this, lits_id n ht hs]
  rfl
def idK (i : Idt) : Lit := .string (keyBytes [.int .i64 i.time, .int .i64 i.site])
theorem keyOf_id {i : Idt} (ht : fitI i.time) (hs : fitI i.site) : keyOf Tryz.prog 61 (.agg #[.int .i64 i.time, .int .i64 i.site]) = some (idK i) := key_id ht hs
theorem idK_inj {i j : Idt} (h1 : fitI i.time) (h2 : fitI i.site) (h3 : fitI j.time) (h4 : fitI j.site) (h : idK i = idK j) : i = j := by
  have e := keyID.inj (keyOf_id h1 h2) (h ▸ keyOf_id h3 h4)
  injection e with e
  have e' : [Value.int .i64 i.time, Value.int .i64 i.site] = [Value.int .i64 j.time, Value.int .i64 j.site] := congrArg Array.toList e
  simp at e'
  obtain ⟨t, s⟩ := i
  obtain ⟨t', s'⟩ := j
  simp at e'
  rw [e'.1, e'.2]
set_option maxRecDepth 100000 in
theorem elemB_inv {v : Value} {z : DataW Unit × List MemPlace} (h : plainElem Tryz.prog 4 v = some z) : ∃ x, v = .bool x ∧ z = (.lit (.bool x), []) := by
  unfold plainElem at h
  rw [Tryz.underlying4] at h
  cases v <;> simp at h
  exact ⟨_, rfl, h.symm⟩
/-- A map that holds these identifiers. -/
def IdsAt (w : World) (b n : Nat) (S : List Idt) : Prop := ∃ D : DataW Unit, w.ownsMap Tryz.prog 61 (plainElem Tryz.prog 4) b n D ∧ IsMap D ∧ (∀ i ∈ S, fitI i.time ∧ fitI i.site) ∧ ∀ i : Idt, fitI i.time → fitI i.site → D.atKey (idK i) (.lit (.bool false)) = .lit (.bool (decide (i ∈ S)))
section
variable {w w' : World} {b n : Nat} {S : List Idt}
theorem IdsAt.made (w : World) : IdsAt (w.alloc (.map #[] 0)) w.heap.size 0 [] := ⟨.map [], World.ownsMap_made _ _ _ _, isMap_empty, fun _ h => absurd h (by simp), fun i _ _ => by
  rw [atKey_of_not_has (by simp [has_eq])]
  simp⟩
set_option maxRecDepth 100000 in
theorem IdsAt.lookup (h : IdsAt w b n S) {i : Idt} (h1 : fitI i.time) (h2 : fitI i.site) : (Instr.lookup 107 (.map (some b)) (.agg #[.int .i64 i.time, .int .i64 i.site]) false).run Tryz.prog w = .ok (.bool (decide (i ∈ S))) w := by
  obtain ⟨D, ho, _, _, hat⟩ := h
  obtain ⟨v, ps, hrun, hv⟩ := ho.lookup keyID Tryz.underlying107 (z := .bool false) (by kernel_rfl) (zd := .lit (.bool false)) (zp := []) (plainElem_bool Tryz.underlying4 false) (keyOf_id h1 h2)
  obtain ⟨x, rfl, hx⟩ := elemB_inv hv
  injection hx with hx _
  rw [hat i h1 h2] at hx
  injection hx with hx
  injection hx with hx
  rw [hrun, hx]
theorem IdsAt.kept {row : Option Nat} (h : IdsAt w b n S) (hg : w.grownBy w' row) (hne : some b ≠ row) : IdsAt w' b n S := by
  obtain ⟨D, ho, h1, h2, h3⟩ := h
  exact ⟨D, ho.kept hg hne, h1, h2, h3⟩
set_option maxRecDepth 100000 in
theorem IdsAt.put {D : DataW Unit} (hm : IsMap D) (hs : ∀ i ∈ S, fitI i.time ∧ fitI i.site) (hat : ∀ i : Idt, fitI i.time → fitI i.site → D.atKey (idK i) (.lit (.bool false)) = .lit (.bool (decide (i ∈ S)))) {i : Idt} (h1 : fitI i.time) (h2 : fitI i.site) {w' : World} (ho : w'.ownsMap Tryz.prog 61 (plainElem Tryz.prog 4) b n (D.put (idK i) (.lit (.bool true)))) : IdsAt w' b n (i :: S) := by
  refine ⟨_, ho, hm.put _ _, fun j hj => ?_, fun j g1 g2 => ?_⟩
  · rcases List.mem_cons.1 hj with rfl | hj
    · exact ⟨h1, h2⟩
    · exact hs j hj
  · by_cases e : j = i
    · subst e
      rw [atKey_put_same hm (show WideAt.IsKeyLit (idK j) from trivial)]
      simp
    · rw [atKey_put_other (fun h => e (idK_inj g1 g2 h1 h2 h)), hat j g1 g2]
      simp [e]
end
end Go.Proofs.YtnajbkccaclkcaaGreat

namespace Go.Proofs.YtnajbkccaclkcaaGreat
open Go Go.RowKit Go.Maps

theorem IdsAt.fresh {w w' : World} {b n : Nat} {S : List Idt} (h : IdsAt w b n S) (hk : Kept (fun _ => False) w w') : IdsAt w' b n S :=
  h.kept (row := none) ⟨hk.os, hk.tape, hk.output, hk.size, fun k h1 _ => hk.block k h1 id⟩ (by simp)
theorem info_err : (Tryz.prog.info? 32).map (fun i => (i.zero, i.size, i.bytes)) = some (some (.int .i64 0), 1, 8) := by kernel_rfl
theorem built5 (a b c d e : Int) : Tryz.prog.builtSlice 32 5 [(0, .int .i64 a), (1, .int .i64 b), (2, .int .i64 c), (3, .int .i64 d), (4, .int .i64 e)] = some #[.int .i64 a, .int .i64 b, .int .i64 c, .int .i64 d, .int .i64 e] := by
  obtain ⟨i, hi, hz, hsz, hby⟩ := info_parts info_err
  unfold Program.builtSlice
  simp only [hi, hz, hsz]
  rw [if_neg (by decide)]
  kernel_rfl
theorem wpList_five {ops : Array Oper} {rest : List Oper} {o : Oper} {a : Act} {w : World} {Q : Exit → Act → World → Prop} (hg : o.guard = none) (x0 x1 x2 x3 x4 : Operand)
    (ho : o.op = .buildSlice 145 5 #[(0, x0), (1, x1), (2, x2), (3, x3), (4, x4)]) (e0 e1 e2 e3 e4 : Int) (h0 : a.eval x0 = .int .i64 e0) (h1 : a.eval x1 = .int .i64 e1) (h2 : a.eval x2 = .int .i64 e2) (h3 : a.eval x3 = .int .i64 e3) (h4 : a.eval x4 = .int .i64 e4)
    (h : wpList Tryz.prog ops Q rest (a.put o.dst (.slice (some ⟨w.heap.size, 0, none⟩) 5 5)) (w.alloc (.cells #[.int .i64 e0, .int .i64 e1, .int .i64 e2, .int .i64 e3, .int .i64 e4] 32))) :
    wpList Tryz.prog ops Q (o :: rest) a w := by
  refine Great.wpList_buildSliceTo hg _ 32 5 _ ho _ rfl _ rfl Tryz.underlying145 _ ?_ h
  have e : (#[(0, x0), (1, x1), (2, x2), (3, x3), (4, x4)].map fun ((i, x) : Nat × Operand) => (i, a.eval x)).toList = [(0, a.eval x0), (1, a.eval x1), (2, a.eval x2), (3, a.eval x3), (4, a.eval x4)] := by simp
  rw [e, h0, h1, h2, h3, h4]
  exact built5 ..
/-- The numbers of a node are Go's. -/
structure Nd.Fit (x : Nd) : Prop where
  it : fitI x.id.time
  is_ : fitI x.id.site
  rt : fitI x.ref.time
  rs : fitI x.ref.site
/-- Why a node is none, behind those of these identifiers. -/
def nodeE (n : Nd) (S : List Idt) : Int := firstE [
  if (!okId n.id || (!decide (n.ref = noId) && !okId n.ref)) = true then 1 else 0,
  if (!isRuneB n.ru || decide (n.st < 1) || decide (3 < n.st)) = true then 6 else 0,
  if (!decide (ltId n.ref n.id)) = true then 9 else 0,
  if decide (n.id ∈ S) = true then 12 else 0,
  if (!decide (n.ref = noId) && !decide (n.ref ∈ S)) = true then 11 else 0]

set_option maxRecDepth 100000 in
set_option maxHeartbeats 16000000 in
theorem node_any (x : Nd) (S : List Idt) (b k : Nat) (w : World) (hx : x.Fit) (hS : IdsAt w b k S) : Calls Tryz.prog 62 #[.agg x.c, .map (some b)] w (IntPost w (nodeE x S)) := by
  obtain ⟨⟨it, is⟩, ⟨rt, rs⟩, ru, st⟩ := x
  obtain ⟨f1, f2, f3, f4⟩ := hx
  simp only at f1 f2 f3 f4
  unfold Nd.c
  simp only
  have hb := Box.new w 66 #[.int .i64 it, .int .i64 is, .int .i64 rt, .int .i64 rs, .int .i32 ru, .int .i64 st]
  have hk := (Kept.refl (fun _ => False) w).alloc (.cells #[.int .i64 it, .int .i64 is, .int .i64 rt, .int .i64 rs, .int .i32 ru, .int .i64 st] 66)
  have hs1 := hS.fresh hk
  obtain ⟨w1, hw1⟩ : ∃ w1, w.alloc (.cells #[.int .i64 it, .int .i64 is, .int .i64 rt, .int .i64 rs, .int .i32 ru, .int .i64 st] 66) = w1 := ⟨_, rfl⟩
  rw [hw1] at hb hk hs1
  obtain ⟨g, hg⟩ : ∃ g, w.heap.size = g := ⟨_, rfl⟩
  rw [hg] at hb
  have HS1 := Lib.hid hs1
  have HK := Lib.hid hk
  have HW := Lib.hid hw1
  have HG := Lib.hid hg
  have z0 : w1.cell? ⟨g, 0, none⟩ = some (.int .i64 it) := by simpa using hb.cell 0
  have z1 : w1.cell? ⟨g, 1, none⟩ = some (.int .i64 is) := by simpa using hb.cell 1
  have z2 : w1.cell? ⟨g, 2, none⟩ = some (.int .i64 rt) := by simpa using hb.cell 2
  have z3 : w1.cell? ⟨g, 3, none⟩ = some (.int .i64 rs) := by simpa using hb.cell 3
  have z4 : w1.cell? ⟨g, 4, none⟩ = some (.int .i32 ru) := by simpa using hb.cell 4
  have z5 : w1.cell? ⟨g, 5, none⟩ = some (.int .i64 st) := by simpa using hb.cell 5
  have aI := Tryz.isAgg61
  have zI := Tryz.sizeOf61
  have HM1 := Lib.hid (fun W => may_any ⟨it, is⟩ W)
  have HM2 := Lib.hid (fun W => may_any ⟨rt, rs⟩ W)
  have HR := Lib.hid (fun W => isRune_any ru W)
  have HLO := Lib.hid (fun W => lower_any ⟨rt, rs⟩ ⟨it, is⟩ W)
  have HL1 := Lib.hid (fun W (h : Kept (fun _ => False) w1 W) => (hs1.fresh h).lookup (i := ⟨it, is⟩) f1 f2)
  have HL2 := Lib.hid (fun W (h : Kept (fun _ => False) w1 W) => (hs1.fresh h).lookup (i := ⟨rt, rs⟩) f3 f4)
  obtain ⟨se, hse⟩ : ∃ se, nodeE ⟨⟨it, is⟩, ⟨rt, rs⟩, ru, st⟩ S = se := ⟨_, rfl⟩
  rw [hse]
  unfold nodeE at hse
  simp only at hse
  obtain ⟨b1, hb1⟩ : ∃ b1, okId ⟨it, is⟩ = b1 := ⟨_, rfl⟩
  obtain ⟨b2, hb2⟩ : ∃ b2, okId ⟨rt, rs⟩ = b2 := ⟨_, rfl⟩
  obtain ⟨br, hbr⟩ : ∃ br, isRuneB ru = br := ⟨_, rfl⟩
  obtain ⟨bl, hbl⟩ : ∃ bl, decide (ltId ⟨rt, rs⟩ ⟨it, is⟩) = bl := ⟨_, rfl⟩
  obtain ⟨m1, hm1⟩ : ∃ m1, decide ((⟨it, is⟩ : Idt) ∈ S) = m1 := ⟨_, rfl⟩
  obtain ⟨m2, hm2⟩ : ∃ m2, decide ((⟨rt, rs⟩ : Idt) ∈ S) = m2 := ⟨_, rfl⟩
  obtain ⟨bg, hbg⟩ : ∃ bg, decide ((⟨rt, rs⟩ : Idt) = noId) = bg := ⟨_, rfl⟩
  rw [hb1] at HM1 hse
  rw [hb2] at HM2 hse
  rw [hbr] at HR hse
  rw [hbl] at HLO hse
  rw [hm1] at HL1 hse
  rw [hm2] at HL2 hse
  rw [hbg] at hse
  have HSE := Lib.hid hse
  have hbg2 : (rt = 0 ∧ rs = 0 ∧ bg = true) ∨ (¬ rt = 0 ∧ bg = false) ∨ (rt = 0 ∧ ¬ rs = 0 ∧ bg = false) := by
    subst hbg
    unfold noId
    by_cases h1 : rt = 0
    · by_cases h2 : rs = 0
      · exact .inl ⟨h1, h2, by simp [h1, h2]⟩
      · exact .inr (.inr ⟨h1, h2, by simp [h2]⟩)
    · exact .inr (.inl ⟨h1, by simp [h1]⟩)
  have HBG := Lib.hid hbg2
  unfold idV at HM1 HM2 HLO
  simp only at HM1 HM2 HLO HL1 HL2
  clear hse hb1 hb2 hbr hbl hm1 hm2 hbg hs1 hk hw1 hg hb hS f1 f2 f3 f4 hbg2
  go_enter Tryz.func62, Tryz.ntmps62
  go_upto_region 1 with (fail)
  rw [HW.out, HG.out]
  go_cut [5] (fun v wx => v = .bool bg ∧ wx = w1)
  case first =>
    rcases HBG.out with ⟨h1, h2, h3⟩ | ⟨h1, h3⟩ | ⟨h1, h2, h3⟩
    · as_aux_lemma =>
      subst h1 h2 h3
      go_wp2_with (fail)
      go_meet
      case rel => exact ⟨rfl, rfl⟩
    · as_aux_lemma =>
      subst h3
      have c1 : (rt == 0) = false := by simp [h1]
      go_wp2_with (fail)
      go_meet
      case rel => exact ⟨rfl, rfl⟩
    · as_aux_lemma =>
      subst h1 h3
      have c1 : (rs == 0) = false := by simp [h2]
      go_wp2_with (fail)
      go_meet
      case rel => exact ⟨rfl, rfl⟩
  case rest =>
    obtain ⟨rfl, hwc⟩ := hcut
    subst hwc
    have HY1 := Lib.hid (fun W => when_yes 1 W)
    have HN1 := Lib.hid (fun W => when_no 1 W)
    have HY6 := Lib.hid (fun W => when_yes 6 W)
    have HN6 := Lib.hid (fun W => when_no 6 W)
    have HN11 := Lib.hid (fun W => when_no 11 W)
    obtain ⟨E1, hE1⟩ : ∃ E1 : Int, (if (!b2) = true then 1 else 0) = E1 := ⟨_, rfl⟩
    obtain ⟨E3, hE3⟩ : ∃ E3 : Int, (if (!bl) = true then 9 else 0) = E3 := ⟨_, rfl⟩
    obtain ⟨E4, hE4⟩ : ∃ E4 : Int, (if m1 = true then 12 else 0) = E4 := ⟨_, rfl⟩
    obtain ⟨E5, hE5⟩ : ∃ E5 : Int, (if (!m2) = true then 11 else 0) = E5 := ⟨_, rfl⟩
    have HE1 := Lib.hid (fun W => hE1 ▸ when_any (!b2) 1 W)
    have HE3 := Lib.hid (fun W => hE3 ▸ when_any (!bl) 9 W)
    have HE4 := Lib.hid (fun W => hE4 ▸ when_any m1 12 W)
    have HE5 := Lib.hid (fun W => hE5 ▸ when_any (!m2) 11 W)
    have HQ1 := Lib.hid hE1
    have HQ3 := Lib.hid hE3
    have HQ4 := Lib.hid hE4
    have HQ5 := Lib.hid hE5
    clear hE1 hE3 hE4 hE5
    go_upto_region 2 with (fail)
    refine wp_region_class_tail (C := fun w' => Kept (fun _ => False) wc w') 52 (by kernel_rfl) (by kernel_rfl) (Kept.refl _ _).drew ?_
    simp only [List.take_succ_cons, List.take_zero, List.drop_succ_cons, List.drop_zero]
    cases bg with
    | true =>
      cases b1 with
      | true =>
        cases br with
        | false =>
          as_aux_lemma =>
          have hfin : firstE [0, 6, E3, E4, 0] = se := by
            rw [← HSE.out, ← HQ3.out, ← HQ4.out]
            rfl
          have HFIN := Lib.hid hfin
          clear hfin
          iterate 52
            first | go_big_quiet_skip | (go_big_quiet_want; first | (go_big_quiet_op; go_big_quiet_on) | (apply Exists.intro; refine ⟨fun w' hS => ?_, ?_⟩; (have d0 := hS.cellF z0; have d1 := hS.cellF z1; have d2 := hS.cellF z2; have d3 := hS.cellF z3; have d4 := hS.cellF z4; have d5 := hS.cellF z5; have l1 := HL1.out w' hS; have l2 := HL2.out w' hS; go_simp; first | rfl | exact ⟨rfl, rfl⟩ | ((with_reducible refine (HY1.out _).mono ?_); rintro e w2 ⟨rfl, rfl⟩; exact ⟨rfl, hS⟩) | ((with_reducible refine (HN1.out _).mono ?_); rintro e w2 ⟨rfl, rfl⟩; exact ⟨rfl, hS⟩) | ((with_reducible refine (HY6.out _).mono ?_); rintro e w2 ⟨rfl, rfl⟩; exact ⟨rfl, hS⟩) | ((with_reducible refine (HN6.out _).mono ?_); rintro e w2 ⟨rfl, rfl⟩; exact ⟨rfl, hS⟩) | ((with_reducible refine (HN11.out _).mono ?_); rintro e w2 ⟨rfl, rfl⟩; exact ⟨rfl, hS⟩) | ((with_reducible refine (HE1.out _).mono ?_); rintro e w2 ⟨rfl, rfl⟩; exact ⟨rfl, hS⟩) | ((with_reducible refine (HE3.out _).mono ?_); rintro e w2 ⟨rfl, rfl⟩; exact ⟨rfl, hS⟩) | ((with_reducible refine (HE4.out _).mono ?_); rintro e w2 ⟨rfl, rfl⟩; exact ⟨rfl, hS⟩) | ((with_reducible refine (HE5.out _).mono ?_); rintro e w2 ⟨rfl, rfl⟩; exact ⟨rfl, hS⟩) | ((with_reducible refine (HR.out _).mono ?_); rintro e w2 ⟨rfl, rfl⟩; exact ⟨rfl, hS⟩) | ((with_reducible refine (HM1.out _).mono ?_); unfold BoolPost; rintro e w2 ⟨rfl, hk⟩; exact ⟨rfl, hS.trans hk fun _ _ e => e⟩) | ((with_reducible refine (HM2.out _).mono ?_); unfold BoolPost; rintro e w2 ⟨rfl, hk⟩; exact ⟨rfl, hS.trans hk fun _ _ e => e⟩) | ((with_reducible refine (HLO.out _).mono ?_); unfold BoolPost; rintro e w2 ⟨rfl, hk⟩; exact ⟨rfl, hS.trans hk fun _ _ e => e⟩)); (try simp only [Act.put, List.setIfInBounds_toArray, List.set_cons_zero, List.set_cons_succ]); go_big_quiet_on))
          refine wpQuiet_nil ?_
          intro w5 hS
          have HS := Lib.hid hS
          clear hS z0 z1 z2 z3 z4 z5
          go_wp2_with (refine wpList_five rfl _ _ _ _ _ rfl _ _ _ _ _ rfl rfl rfl rfl rfl ?_)
          refine (first_any (some ⟨w5.heap.size, 0, none⟩) [0, 6, E3, E4, 0] 5 _ (CellsAt.of_box (Box.new w5 _ _) rfl) (by simp)).mono ?_
          rintro r w6 ⟨rfl, rfl⟩
          rw [HFIN.out]
          go_wp2_with (fail)
          go_ret
          exact ⟨rfl, HK.out.trans (HS.out.alloc _) fun _ _ e => e⟩
        | true =>
          by_cases q1 : st < 1
          · as_aux_lemma =>
            have hfin : firstE [0, 6, E3, E4, 0] = se := by
              rw [← HSE.out, decide_eq_true q1, ← HQ3.out, ← HQ4.out]
              rfl
            have HFIN := Lib.hid hfin
            clear hfin
            iterate 52
              first | go_big_quiet_skip | (go_big_quiet_want; first | (go_big_quiet_op; go_big_quiet_on) | (apply Exists.intro; refine ⟨fun w' hS => ?_, ?_⟩; (have d0 := hS.cellF z0; have d1 := hS.cellF z1; have d2 := hS.cellF z2; have d3 := hS.cellF z3; have d4 := hS.cellF z4; have d5 := hS.cellF z5; have l1 := HL1.out w' hS; have l2 := HL2.out w' hS; go_simp; first | rfl | exact ⟨rfl, rfl⟩ | ((with_reducible refine (HY1.out _).mono ?_); rintro e w2 ⟨rfl, rfl⟩; exact ⟨rfl, hS⟩) | ((with_reducible refine (HN1.out _).mono ?_); rintro e w2 ⟨rfl, rfl⟩; exact ⟨rfl, hS⟩) | ((with_reducible refine (HY6.out _).mono ?_); rintro e w2 ⟨rfl, rfl⟩; exact ⟨rfl, hS⟩) | ((with_reducible refine (HN6.out _).mono ?_); rintro e w2 ⟨rfl, rfl⟩; exact ⟨rfl, hS⟩) | ((with_reducible refine (HN11.out _).mono ?_); rintro e w2 ⟨rfl, rfl⟩; exact ⟨rfl, hS⟩) | ((with_reducible refine (HE1.out _).mono ?_); rintro e w2 ⟨rfl, rfl⟩; exact ⟨rfl, hS⟩) | ((with_reducible refine (HE3.out _).mono ?_); rintro e w2 ⟨rfl, rfl⟩; exact ⟨rfl, hS⟩) | ((with_reducible refine (HE4.out _).mono ?_); rintro e w2 ⟨rfl, rfl⟩; exact ⟨rfl, hS⟩) | ((with_reducible refine (HE5.out _).mono ?_); rintro e w2 ⟨rfl, rfl⟩; exact ⟨rfl, hS⟩) | ((with_reducible refine (HR.out _).mono ?_); rintro e w2 ⟨rfl, rfl⟩; exact ⟨rfl, hS⟩) | ((with_reducible refine (HM1.out _).mono ?_); unfold BoolPost; rintro e w2 ⟨rfl, hk⟩; exact ⟨rfl, hS.trans hk fun _ _ e => e⟩) | ((with_reducible refine (HM2.out _).mono ?_); unfold BoolPost; rintro e w2 ⟨rfl, hk⟩; exact ⟨rfl, hS.trans hk fun _ _ e => e⟩) | ((with_reducible refine (HLO.out _).mono ?_); unfold BoolPost; rintro e w2 ⟨rfl, hk⟩; exact ⟨rfl, hS.trans hk fun _ _ e => e⟩)); (try simp only [Act.put, List.setIfInBounds_toArray, List.set_cons_zero, List.set_cons_succ]); go_big_quiet_on))
            refine wpQuiet_nil ?_
            intro w5 hS
            have HS := Lib.hid hS
            clear hS z0 z1 z2 z3 z4 z5
            go_wp2_with (refine wpList_five rfl _ _ _ _ _ rfl _ _ _ _ _ rfl rfl rfl rfl rfl ?_)
            refine (first_any (some ⟨w5.heap.size, 0, none⟩) [0, 6, E3, E4, 0] 5 _ (CellsAt.of_box (Box.new w5 _ _) rfl) (by simp)).mono ?_
            rintro r w6 ⟨rfl, rfl⟩
            rw [HFIN.out]
            go_wp2_with (fail)
            go_ret
            exact ⟨rfl, HK.out.trans (HS.out.alloc _) fun _ _ e => e⟩
          · by_cases q2 : st > 3
            · as_aux_lemma =>
              have hfin : firstE [0, 6, E3, E4, 0] = se := by
                rw [← HSE.out, decide_eq_false q1, decide_eq_true (show 3 < st from q2), ← HQ3.out, ← HQ4.out]
                rfl
              have HFIN := Lib.hid hfin
              clear hfin
              iterate 52
                first | go_big_quiet_skip | (go_big_quiet_want; first | (go_big_quiet_op; go_big_quiet_on) | (apply Exists.intro; refine ⟨fun w' hS => ?_, ?_⟩; (have d0 := hS.cellF z0; have d1 := hS.cellF z1; have d2 := hS.cellF z2; have d3 := hS.cellF z3; have d4 := hS.cellF z4; have d5 := hS.cellF z5; have l1 := HL1.out w' hS; have l2 := HL2.out w' hS; go_simp; first | rfl | exact ⟨rfl, rfl⟩ | ((with_reducible refine (HY1.out _).mono ?_); rintro e w2 ⟨rfl, rfl⟩; exact ⟨rfl, hS⟩) | ((with_reducible refine (HN1.out _).mono ?_); rintro e w2 ⟨rfl, rfl⟩; exact ⟨rfl, hS⟩) | ((with_reducible refine (HY6.out _).mono ?_); rintro e w2 ⟨rfl, rfl⟩; exact ⟨rfl, hS⟩) | ((with_reducible refine (HN6.out _).mono ?_); rintro e w2 ⟨rfl, rfl⟩; exact ⟨rfl, hS⟩) | ((with_reducible refine (HN11.out _).mono ?_); rintro e w2 ⟨rfl, rfl⟩; exact ⟨rfl, hS⟩) | ((with_reducible refine (HE1.out _).mono ?_); rintro e w2 ⟨rfl, rfl⟩; exact ⟨rfl, hS⟩) | ((with_reducible refine (HE3.out _).mono ?_); rintro e w2 ⟨rfl, rfl⟩; exact ⟨rfl, hS⟩) | ((with_reducible refine (HE4.out _).mono ?_); rintro e w2 ⟨rfl, rfl⟩; exact ⟨rfl, hS⟩) | ((with_reducible refine (HE5.out _).mono ?_); rintro e w2 ⟨rfl, rfl⟩; exact ⟨rfl, hS⟩) | ((with_reducible refine (HR.out _).mono ?_); rintro e w2 ⟨rfl, rfl⟩; exact ⟨rfl, hS⟩) | ((with_reducible refine (HM1.out _).mono ?_); unfold BoolPost; rintro e w2 ⟨rfl, hk⟩; exact ⟨rfl, hS.trans hk fun _ _ e => e⟩) | ((with_reducible refine (HM2.out _).mono ?_); unfold BoolPost; rintro e w2 ⟨rfl, hk⟩; exact ⟨rfl, hS.trans hk fun _ _ e => e⟩) | ((with_reducible refine (HLO.out _).mono ?_); unfold BoolPost; rintro e w2 ⟨rfl, hk⟩; exact ⟨rfl, hS.trans hk fun _ _ e => e⟩)); (try simp only [Act.put, List.setIfInBounds_toArray, List.set_cons_zero, List.set_cons_succ]); go_big_quiet_on))
              refine wpQuiet_nil ?_
              intro w5 hS
              have HS := Lib.hid hS
              clear hS z0 z1 z2 z3 z4 z5
              go_wp2_with (refine wpList_five rfl _ _ _ _ _ rfl _ _ _ _ _ rfl rfl rfl rfl rfl ?_)
              refine (first_any (some ⟨w5.heap.size, 0, none⟩) [0, 6, E3, E4, 0] 5 _ (CellsAt.of_box (Box.new w5 _ _) rfl) (by simp)).mono ?_
              rintro r w6 ⟨rfl, rfl⟩
              rw [HFIN.out]
              go_wp2_with (fail)
              go_ret
              exact ⟨rfl, HK.out.trans (HS.out.alloc _) fun _ _ e => e⟩
            · as_aux_lemma =>
              have hfin : firstE [0, 0, E3, E4, 0] = se := by
                rw [← HSE.out, decide_eq_false q1, decide_eq_false (show ¬ 3 < st from q2), ← HQ3.out, ← HQ4.out]
                rfl
              have HFIN := Lib.hid hfin
              clear hfin
              iterate 52
                first | go_big_quiet_skip | (go_big_quiet_want; first | (go_big_quiet_op; go_big_quiet_on) | (apply Exists.intro; refine ⟨fun w' hS => ?_, ?_⟩; (have d0 := hS.cellF z0; have d1 := hS.cellF z1; have d2 := hS.cellF z2; have d3 := hS.cellF z3; have d4 := hS.cellF z4; have d5 := hS.cellF z5; have l1 := HL1.out w' hS; have l2 := HL2.out w' hS; go_simp; first | rfl | exact ⟨rfl, rfl⟩ | ((with_reducible refine (HY1.out _).mono ?_); rintro e w2 ⟨rfl, rfl⟩; exact ⟨rfl, hS⟩) | ((with_reducible refine (HN1.out _).mono ?_); rintro e w2 ⟨rfl, rfl⟩; exact ⟨rfl, hS⟩) | ((with_reducible refine (HY6.out _).mono ?_); rintro e w2 ⟨rfl, rfl⟩; exact ⟨rfl, hS⟩) | ((with_reducible refine (HN6.out _).mono ?_); rintro e w2 ⟨rfl, rfl⟩; exact ⟨rfl, hS⟩) | ((with_reducible refine (HN11.out _).mono ?_); rintro e w2 ⟨rfl, rfl⟩; exact ⟨rfl, hS⟩) | ((with_reducible refine (HE1.out _).mono ?_); rintro e w2 ⟨rfl, rfl⟩; exact ⟨rfl, hS⟩) | ((with_reducible refine (HE3.out _).mono ?_); rintro e w2 ⟨rfl, rfl⟩; exact ⟨rfl, hS⟩) | ((with_reducible refine (HE4.out _).mono ?_); rintro e w2 ⟨rfl, rfl⟩; exact ⟨rfl, hS⟩) | ((with_reducible refine (HE5.out _).mono ?_); rintro e w2 ⟨rfl, rfl⟩; exact ⟨rfl, hS⟩) | ((with_reducible refine (HR.out _).mono ?_); rintro e w2 ⟨rfl, rfl⟩; exact ⟨rfl, hS⟩) | ((with_reducible refine (HM1.out _).mono ?_); unfold BoolPost; rintro e w2 ⟨rfl, hk⟩; exact ⟨rfl, hS.trans hk fun _ _ e => e⟩) | ((with_reducible refine (HM2.out _).mono ?_); unfold BoolPost; rintro e w2 ⟨rfl, hk⟩; exact ⟨rfl, hS.trans hk fun _ _ e => e⟩) | ((with_reducible refine (HLO.out _).mono ?_); unfold BoolPost; rintro e w2 ⟨rfl, hk⟩; exact ⟨rfl, hS.trans hk fun _ _ e => e⟩)); (try simp only [Act.put, List.setIfInBounds_toArray, List.set_cons_zero, List.set_cons_succ]); go_big_quiet_on))
              refine wpQuiet_nil ?_
              intro w5 hS
              have HS := Lib.hid hS
              clear hS z0 z1 z2 z3 z4 z5
              go_wp2_with (refine wpList_five rfl _ _ _ _ _ rfl _ _ _ _ _ rfl rfl rfl rfl rfl ?_)
              refine (first_any (some ⟨w5.heap.size, 0, none⟩) [0, 0, E3, E4, 0] 5 _ (CellsAt.of_box (Box.new w5 _ _) rfl) (by simp)).mono ?_
              rintro r w6 ⟨rfl, rfl⟩
              rw [HFIN.out]
              go_wp2_with (fail)
              go_ret
              exact ⟨rfl, HK.out.trans (HS.out.alloc _) fun _ _ e => e⟩
      | false =>
        cases br with
        | false =>
          as_aux_lemma =>
          have hfin : firstE [1, 6, E3, E4, 0] = se := by
            rw [← HSE.out, ← HQ3.out, ← HQ4.out]
            rfl
          have HFIN := Lib.hid hfin
          clear hfin
          iterate 52
            first | go_big_quiet_skip | (go_big_quiet_want; first | (go_big_quiet_op; go_big_quiet_on) | (apply Exists.intro; refine ⟨fun w' hS => ?_, ?_⟩; (have d0 := hS.cellF z0; have d1 := hS.cellF z1; have d2 := hS.cellF z2; have d3 := hS.cellF z3; have d4 := hS.cellF z4; have d5 := hS.cellF z5; have l1 := HL1.out w' hS; have l2 := HL2.out w' hS; go_simp; first | rfl | exact ⟨rfl, rfl⟩ | ((with_reducible refine (HY1.out _).mono ?_); rintro e w2 ⟨rfl, rfl⟩; exact ⟨rfl, hS⟩) | ((with_reducible refine (HN1.out _).mono ?_); rintro e w2 ⟨rfl, rfl⟩; exact ⟨rfl, hS⟩) | ((with_reducible refine (HY6.out _).mono ?_); rintro e w2 ⟨rfl, rfl⟩; exact ⟨rfl, hS⟩) | ((with_reducible refine (HN6.out _).mono ?_); rintro e w2 ⟨rfl, rfl⟩; exact ⟨rfl, hS⟩) | ((with_reducible refine (HN11.out _).mono ?_); rintro e w2 ⟨rfl, rfl⟩; exact ⟨rfl, hS⟩) | ((with_reducible refine (HE1.out _).mono ?_); rintro e w2 ⟨rfl, rfl⟩; exact ⟨rfl, hS⟩) | ((with_reducible refine (HE3.out _).mono ?_); rintro e w2 ⟨rfl, rfl⟩; exact ⟨rfl, hS⟩) | ((with_reducible refine (HE4.out _).mono ?_); rintro e w2 ⟨rfl, rfl⟩; exact ⟨rfl, hS⟩) | ((with_reducible refine (HE5.out _).mono ?_); rintro e w2 ⟨rfl, rfl⟩; exact ⟨rfl, hS⟩) | ((with_reducible refine (HR.out _).mono ?_); rintro e w2 ⟨rfl, rfl⟩; exact ⟨rfl, hS⟩) | ((with_reducible refine (HM1.out _).mono ?_); unfold BoolPost; rintro e w2 ⟨rfl, hk⟩; exact ⟨rfl, hS.trans hk fun _ _ e => e⟩) | ((with_reducible refine (HM2.out _).mono ?_); unfold BoolPost; rintro e w2 ⟨rfl, hk⟩; exact ⟨rfl, hS.trans hk fun _ _ e => e⟩) | ((with_reducible refine (HLO.out _).mono ?_); unfold BoolPost; rintro e w2 ⟨rfl, hk⟩; exact ⟨rfl, hS.trans hk fun _ _ e => e⟩)); (try simp only [Act.put, List.setIfInBounds_toArray, List.set_cons_zero, List.set_cons_succ]); go_big_quiet_on))
          refine wpQuiet_nil ?_
          intro w5 hS
          have HS := Lib.hid hS
          clear hS z0 z1 z2 z3 z4 z5
          go_wp2_with (refine wpList_five rfl _ _ _ _ _ rfl _ _ _ _ _ rfl rfl rfl rfl rfl ?_)
          refine (first_any (some ⟨w5.heap.size, 0, none⟩) [1, 6, E3, E4, 0] 5 _ (CellsAt.of_box (Box.new w5 _ _) rfl) (by simp)).mono ?_
          rintro r w6 ⟨rfl, rfl⟩
          rw [HFIN.out]
          go_wp2_with (fail)
          go_ret
          exact ⟨rfl, HK.out.trans (HS.out.alloc _) fun _ _ e => e⟩
        | true =>
          by_cases q1 : st < 1
          · as_aux_lemma =>
            have hfin : firstE [1, 6, E3, E4, 0] = se := by
              rw [← HSE.out, decide_eq_true q1, ← HQ3.out, ← HQ4.out]
              rfl
            have HFIN := Lib.hid hfin
            clear hfin
            iterate 52
              first | go_big_quiet_skip | (go_big_quiet_want; first | (go_big_quiet_op; go_big_quiet_on) | (apply Exists.intro; refine ⟨fun w' hS => ?_, ?_⟩; (have d0 := hS.cellF z0; have d1 := hS.cellF z1; have d2 := hS.cellF z2; have d3 := hS.cellF z3; have d4 := hS.cellF z4; have d5 := hS.cellF z5; have l1 := HL1.out w' hS; have l2 := HL2.out w' hS; go_simp; first | rfl | exact ⟨rfl, rfl⟩ | ((with_reducible refine (HY1.out _).mono ?_); rintro e w2 ⟨rfl, rfl⟩; exact ⟨rfl, hS⟩) | ((with_reducible refine (HN1.out _).mono ?_); rintro e w2 ⟨rfl, rfl⟩; exact ⟨rfl, hS⟩) | ((with_reducible refine (HY6.out _).mono ?_); rintro e w2 ⟨rfl, rfl⟩; exact ⟨rfl, hS⟩) | ((with_reducible refine (HN6.out _).mono ?_); rintro e w2 ⟨rfl, rfl⟩; exact ⟨rfl, hS⟩) | ((with_reducible refine (HN11.out _).mono ?_); rintro e w2 ⟨rfl, rfl⟩; exact ⟨rfl, hS⟩) | ((with_reducible refine (HE1.out _).mono ?_); rintro e w2 ⟨rfl, rfl⟩; exact ⟨rfl, hS⟩) | ((with_reducible refine (HE3.out _).mono ?_); rintro e w2 ⟨rfl, rfl⟩; exact ⟨rfl, hS⟩) | ((with_reducible refine (HE4.out _).mono ?_); rintro e w2 ⟨rfl, rfl⟩; exact ⟨rfl, hS⟩) | ((with_reducible refine (HE5.out _).mono ?_); rintro e w2 ⟨rfl, rfl⟩; exact ⟨rfl, hS⟩) | ((with_reducible refine (HR.out _).mono ?_); rintro e w2 ⟨rfl, rfl⟩; exact ⟨rfl, hS⟩) | ((with_reducible refine (HM1.out _).mono ?_); unfold BoolPost; rintro e w2 ⟨rfl, hk⟩; exact ⟨rfl, hS.trans hk fun _ _ e => e⟩) | ((with_reducible refine (HM2.out _).mono ?_); unfold BoolPost; rintro e w2 ⟨rfl, hk⟩; exact ⟨rfl, hS.trans hk fun _ _ e => e⟩) | ((with_reducible refine (HLO.out _).mono ?_); unfold BoolPost; rintro e w2 ⟨rfl, hk⟩; exact ⟨rfl, hS.trans hk fun _ _ e => e⟩)); (try simp only [Act.put, List.setIfInBounds_toArray, List.set_cons_zero, List.set_cons_succ]); go_big_quiet_on))
            refine wpQuiet_nil ?_
            intro w5 hS
            have HS := Lib.hid hS
            clear hS z0 z1 z2 z3 z4 z5
            go_wp2_with (refine wpList_five rfl _ _ _ _ _ rfl _ _ _ _ _ rfl rfl rfl rfl rfl ?_)
            refine (first_any (some ⟨w5.heap.size, 0, none⟩) [1, 6, E3, E4, 0] 5 _ (CellsAt.of_box (Box.new w5 _ _) rfl) (by simp)).mono ?_
            rintro r w6 ⟨rfl, rfl⟩
            rw [HFIN.out]
            go_wp2_with (fail)
            go_ret
            exact ⟨rfl, HK.out.trans (HS.out.alloc _) fun _ _ e => e⟩
          · by_cases q2 : st > 3
            · as_aux_lemma =>
              have hfin : firstE [1, 6, E3, E4, 0] = se := by
                rw [← HSE.out, decide_eq_false q1, decide_eq_true (show 3 < st from q2), ← HQ3.out, ← HQ4.out]
                rfl
              have HFIN := Lib.hid hfin
              clear hfin
              iterate 52
                first | go_big_quiet_skip | (go_big_quiet_want; first | (go_big_quiet_op; go_big_quiet_on) | (apply Exists.intro; refine ⟨fun w' hS => ?_, ?_⟩; (have d0 := hS.cellF z0; have d1 := hS.cellF z1; have d2 := hS.cellF z2; have d3 := hS.cellF z3; have d4 := hS.cellF z4; have d5 := hS.cellF z5; have l1 := HL1.out w' hS; have l2 := HL2.out w' hS; go_simp; first | rfl | exact ⟨rfl, rfl⟩ | ((with_reducible refine (HY1.out _).mono ?_); rintro e w2 ⟨rfl, rfl⟩; exact ⟨rfl, hS⟩) | ((with_reducible refine (HN1.out _).mono ?_); rintro e w2 ⟨rfl, rfl⟩; exact ⟨rfl, hS⟩) | ((with_reducible refine (HY6.out _).mono ?_); rintro e w2 ⟨rfl, rfl⟩; exact ⟨rfl, hS⟩) | ((with_reducible refine (HN6.out _).mono ?_); rintro e w2 ⟨rfl, rfl⟩; exact ⟨rfl, hS⟩) | ((with_reducible refine (HN11.out _).mono ?_); rintro e w2 ⟨rfl, rfl⟩; exact ⟨rfl, hS⟩) | ((with_reducible refine (HE1.out _).mono ?_); rintro e w2 ⟨rfl, rfl⟩; exact ⟨rfl, hS⟩) | ((with_reducible refine (HE3.out _).mono ?_); rintro e w2 ⟨rfl, rfl⟩; exact ⟨rfl, hS⟩) | ((with_reducible refine (HE4.out _).mono ?_); rintro e w2 ⟨rfl, rfl⟩; exact ⟨rfl, hS⟩) | ((with_reducible refine (HE5.out _).mono ?_); rintro e w2 ⟨rfl, rfl⟩; exact ⟨rfl, hS⟩) | ((with_reducible refine (HR.out _).mono ?_); rintro e w2 ⟨rfl, rfl⟩; exact ⟨rfl, hS⟩) | ((with_reducible refine (HM1.out _).mono ?_); unfold BoolPost; rintro e w2 ⟨rfl, hk⟩; exact ⟨rfl, hS.trans hk fun _ _ e => e⟩) | ((with_reducible refine (HM2.out _).mono ?_); unfold BoolPost; rintro e w2 ⟨rfl, hk⟩; exact ⟨rfl, hS.trans hk fun _ _ e => e⟩) | ((with_reducible refine (HLO.out _).mono ?_); unfold BoolPost; rintro e w2 ⟨rfl, hk⟩; exact ⟨rfl, hS.trans hk fun _ _ e => e⟩)); (try simp only [Act.put, List.setIfInBounds_toArray, List.set_cons_zero, List.set_cons_succ]); go_big_quiet_on))
              refine wpQuiet_nil ?_
              intro w5 hS
              have HS := Lib.hid hS
              clear hS z0 z1 z2 z3 z4 z5
              go_wp2_with (refine wpList_five rfl _ _ _ _ _ rfl _ _ _ _ _ rfl rfl rfl rfl rfl ?_)
              refine (first_any (some ⟨w5.heap.size, 0, none⟩) [1, 6, E3, E4, 0] 5 _ (CellsAt.of_box (Box.new w5 _ _) rfl) (by simp)).mono ?_
              rintro r w6 ⟨rfl, rfl⟩
              rw [HFIN.out]
              go_wp2_with (fail)
              go_ret
              exact ⟨rfl, HK.out.trans (HS.out.alloc _) fun _ _ e => e⟩
            · as_aux_lemma =>
              have hfin : firstE [1, 0, E3, E4, 0] = se := by
                rw [← HSE.out, decide_eq_false q1, decide_eq_false (show ¬ 3 < st from q2), ← HQ3.out, ← HQ4.out]
                rfl
              have HFIN := Lib.hid hfin
              clear hfin
              iterate 52
                first | go_big_quiet_skip | (go_big_quiet_want; first | (go_big_quiet_op; go_big_quiet_on) | (apply Exists.intro; refine ⟨fun w' hS => ?_, ?_⟩; (have d0 := hS.cellF z0; have d1 := hS.cellF z1; have d2 := hS.cellF z2; have d3 := hS.cellF z3; have d4 := hS.cellF z4; have d5 := hS.cellF z5; have l1 := HL1.out w' hS; have l2 := HL2.out w' hS; go_simp; first | rfl | exact ⟨rfl, rfl⟩ | ((with_reducible refine (HY1.out _).mono ?_); rintro e w2 ⟨rfl, rfl⟩; exact ⟨rfl, hS⟩) | ((with_reducible refine (HN1.out _).mono ?_); rintro e w2 ⟨rfl, rfl⟩; exact ⟨rfl, hS⟩) | ((with_reducible refine (HY6.out _).mono ?_); rintro e w2 ⟨rfl, rfl⟩; exact ⟨rfl, hS⟩) | ((with_reducible refine (HN6.out _).mono ?_); rintro e w2 ⟨rfl, rfl⟩; exact ⟨rfl, hS⟩) | ((with_reducible refine (HN11.out _).mono ?_); rintro e w2 ⟨rfl, rfl⟩; exact ⟨rfl, hS⟩) | ((with_reducible refine (HE1.out _).mono ?_); rintro e w2 ⟨rfl, rfl⟩; exact ⟨rfl, hS⟩) | ((with_reducible refine (HE3.out _).mono ?_); rintro e w2 ⟨rfl, rfl⟩; exact ⟨rfl, hS⟩) | ((with_reducible refine (HE4.out _).mono ?_); rintro e w2 ⟨rfl, rfl⟩; exact ⟨rfl, hS⟩) | ((with_reducible refine (HE5.out _).mono ?_); rintro e w2 ⟨rfl, rfl⟩; exact ⟨rfl, hS⟩) | ((with_reducible refine (HR.out _).mono ?_); rintro e w2 ⟨rfl, rfl⟩; exact ⟨rfl, hS⟩) | ((with_reducible refine (HM1.out _).mono ?_); unfold BoolPost; rintro e w2 ⟨rfl, hk⟩; exact ⟨rfl, hS.trans hk fun _ _ e => e⟩) | ((with_reducible refine (HM2.out _).mono ?_); unfold BoolPost; rintro e w2 ⟨rfl, hk⟩; exact ⟨rfl, hS.trans hk fun _ _ e => e⟩) | ((with_reducible refine (HLO.out _).mono ?_); unfold BoolPost; rintro e w2 ⟨rfl, hk⟩; exact ⟨rfl, hS.trans hk fun _ _ e => e⟩)); (try simp only [Act.put, List.setIfInBounds_toArray, List.set_cons_zero, List.set_cons_succ]); go_big_quiet_on))
              refine wpQuiet_nil ?_
              intro w5 hS
              have HS := Lib.hid hS
              clear hS z0 z1 z2 z3 z4 z5
              go_wp2_with (refine wpList_five rfl _ _ _ _ _ rfl _ _ _ _ _ rfl rfl rfl rfl rfl ?_)
              refine (first_any (some ⟨w5.heap.size, 0, none⟩) [1, 0, E3, E4, 0] 5 _ (CellsAt.of_box (Box.new w5 _ _) rfl) (by simp)).mono ?_
              rintro r w6 ⟨rfl, rfl⟩
              rw [HFIN.out]
              go_wp2_with (fail)
              go_ret
              exact ⟨rfl, HK.out.trans (HS.out.alloc _) fun _ _ e => e⟩
    | false =>
      cases b1 with
      | true =>
        cases br with
        | false =>
          as_aux_lemma =>
          have hfin : firstE [E1, 6, E3, E4, E5] = se := by
            rw [← HSE.out, ← HQ1.out, ← HQ3.out, ← HQ4.out, ← HQ5.out]
            rfl
          have HFIN := Lib.hid hfin
          clear hfin
          iterate 52
            first | go_big_quiet_skip | (go_big_quiet_want; first | (go_big_quiet_op; go_big_quiet_on) | (apply Exists.intro; refine ⟨fun w' hS => ?_, ?_⟩; (have d0 := hS.cellF z0; have d1 := hS.cellF z1; have d2 := hS.cellF z2; have d3 := hS.cellF z3; have d4 := hS.cellF z4; have d5 := hS.cellF z5; have l1 := HL1.out w' hS; have l2 := HL2.out w' hS; go_simp; first | rfl | exact ⟨rfl, rfl⟩ | ((with_reducible refine (HY1.out _).mono ?_); rintro e w2 ⟨rfl, rfl⟩; exact ⟨rfl, hS⟩) | ((with_reducible refine (HN1.out _).mono ?_); rintro e w2 ⟨rfl, rfl⟩; exact ⟨rfl, hS⟩) | ((with_reducible refine (HY6.out _).mono ?_); rintro e w2 ⟨rfl, rfl⟩; exact ⟨rfl, hS⟩) | ((with_reducible refine (HN6.out _).mono ?_); rintro e w2 ⟨rfl, rfl⟩; exact ⟨rfl, hS⟩) | ((with_reducible refine (HN11.out _).mono ?_); rintro e w2 ⟨rfl, rfl⟩; exact ⟨rfl, hS⟩) | ((with_reducible refine (HE1.out _).mono ?_); rintro e w2 ⟨rfl, rfl⟩; exact ⟨rfl, hS⟩) | ((with_reducible refine (HE3.out _).mono ?_); rintro e w2 ⟨rfl, rfl⟩; exact ⟨rfl, hS⟩) | ((with_reducible refine (HE4.out _).mono ?_); rintro e w2 ⟨rfl, rfl⟩; exact ⟨rfl, hS⟩) | ((with_reducible refine (HE5.out _).mono ?_); rintro e w2 ⟨rfl, rfl⟩; exact ⟨rfl, hS⟩) | ((with_reducible refine (HR.out _).mono ?_); rintro e w2 ⟨rfl, rfl⟩; exact ⟨rfl, hS⟩) | ((with_reducible refine (HM1.out _).mono ?_); unfold BoolPost; rintro e w2 ⟨rfl, hk⟩; exact ⟨rfl, hS.trans hk fun _ _ e => e⟩) | ((with_reducible refine (HM2.out _).mono ?_); unfold BoolPost; rintro e w2 ⟨rfl, hk⟩; exact ⟨rfl, hS.trans hk fun _ _ e => e⟩) | ((with_reducible refine (HLO.out _).mono ?_); unfold BoolPost; rintro e w2 ⟨rfl, hk⟩; exact ⟨rfl, hS.trans hk fun _ _ e => e⟩)); (try simp only [Act.put, List.setIfInBounds_toArray, List.set_cons_zero, List.set_cons_succ]); go_big_quiet_on))
          refine wpQuiet_nil ?_
          intro w5 hS
          have HS := Lib.hid hS
          clear hS z0 z1 z2 z3 z4 z5
          go_wp2_with (refine wpList_five rfl _ _ _ _ _ rfl _ _ _ _ _ rfl rfl rfl rfl rfl ?_)
          refine (first_any (some ⟨w5.heap.size, 0, none⟩) [E1, 6, E3, E4, E5] 5 _ (CellsAt.of_box (Box.new w5 _ _) rfl) (by simp)).mono ?_
          rintro r w6 ⟨rfl, rfl⟩
          rw [HFIN.out]
          go_wp2_with (fail)
          go_ret
          exact ⟨rfl, HK.out.trans (HS.out.alloc _) fun _ _ e => e⟩
        | true =>
          by_cases q1 : st < 1
          · as_aux_lemma =>
            have hfin : firstE [E1, 6, E3, E4, E5] = se := by
              rw [← HSE.out, decide_eq_true q1, ← HQ1.out, ← HQ3.out, ← HQ4.out, ← HQ5.out]
              rfl
            have HFIN := Lib.hid hfin
            clear hfin
            iterate 52
              first | go_big_quiet_skip | (go_big_quiet_want; first | (go_big_quiet_op; go_big_quiet_on) | (apply Exists.intro; refine ⟨fun w' hS => ?_, ?_⟩; (have d0 := hS.cellF z0; have d1 := hS.cellF z1; have d2 := hS.cellF z2; have d3 := hS.cellF z3; have d4 := hS.cellF z4; have d5 := hS.cellF z5; have l1 := HL1.out w' hS; have l2 := HL2.out w' hS; go_simp; first | rfl | exact ⟨rfl, rfl⟩ | ((with_reducible refine (HY1.out _).mono ?_); rintro e w2 ⟨rfl, rfl⟩; exact ⟨rfl, hS⟩) | ((with_reducible refine (HN1.out _).mono ?_); rintro e w2 ⟨rfl, rfl⟩; exact ⟨rfl, hS⟩) | ((with_reducible refine (HY6.out _).mono ?_); rintro e w2 ⟨rfl, rfl⟩; exact ⟨rfl, hS⟩) | ((with_reducible refine (HN6.out _).mono ?_); rintro e w2 ⟨rfl, rfl⟩; exact ⟨rfl, hS⟩) | ((with_reducible refine (HN11.out _).mono ?_); rintro e w2 ⟨rfl, rfl⟩; exact ⟨rfl, hS⟩) | ((with_reducible refine (HE1.out _).mono ?_); rintro e w2 ⟨rfl, rfl⟩; exact ⟨rfl, hS⟩) | ((with_reducible refine (HE3.out _).mono ?_); rintro e w2 ⟨rfl, rfl⟩; exact ⟨rfl, hS⟩) | ((with_reducible refine (HE4.out _).mono ?_); rintro e w2 ⟨rfl, rfl⟩; exact ⟨rfl, hS⟩) | ((with_reducible refine (HE5.out _).mono ?_); rintro e w2 ⟨rfl, rfl⟩; exact ⟨rfl, hS⟩) | ((with_reducible refine (HR.out _).mono ?_); rintro e w2 ⟨rfl, rfl⟩; exact ⟨rfl, hS⟩) | ((with_reducible refine (HM1.out _).mono ?_); unfold BoolPost; rintro e w2 ⟨rfl, hk⟩; exact ⟨rfl, hS.trans hk fun _ _ e => e⟩) | ((with_reducible refine (HM2.out _).mono ?_); unfold BoolPost; rintro e w2 ⟨rfl, hk⟩; exact ⟨rfl, hS.trans hk fun _ _ e => e⟩) | ((with_reducible refine (HLO.out _).mono ?_); unfold BoolPost; rintro e w2 ⟨rfl, hk⟩; exact ⟨rfl, hS.trans hk fun _ _ e => e⟩)); (try simp only [Act.put, List.setIfInBounds_toArray, List.set_cons_zero, List.set_cons_succ]); go_big_quiet_on))
            refine wpQuiet_nil ?_
            intro w5 hS
            have HS := Lib.hid hS
            clear hS z0 z1 z2 z3 z4 z5
            go_wp2_with (refine wpList_five rfl _ _ _ _ _ rfl _ _ _ _ _ rfl rfl rfl rfl rfl ?_)
            refine (first_any (some ⟨w5.heap.size, 0, none⟩) [E1, 6, E3, E4, E5] 5 _ (CellsAt.of_box (Box.new w5 _ _) rfl) (by simp)).mono ?_
            rintro r w6 ⟨rfl, rfl⟩
            rw [HFIN.out]
            go_wp2_with (fail)
            go_ret
            exact ⟨rfl, HK.out.trans (HS.out.alloc _) fun _ _ e => e⟩
          · by_cases q2 : st > 3
            · as_aux_lemma =>
              have hfin : firstE [E1, 6, E3, E4, E5] = se := by
                rw [← HSE.out, decide_eq_false q1, decide_eq_true (show 3 < st from q2), ← HQ1.out, ← HQ3.out, ← HQ4.out, ← HQ5.out]
                rfl
              have HFIN := Lib.hid hfin
              clear hfin
              iterate 52
                first | go_big_quiet_skip | (go_big_quiet_want; first | (go_big_quiet_op; go_big_quiet_on) | (apply Exists.intro; refine ⟨fun w' hS => ?_, ?_⟩; (have d0 := hS.cellF z0; have d1 := hS.cellF z1; have d2 := hS.cellF z2; have d3 := hS.cellF z3; have d4 := hS.cellF z4; have d5 := hS.cellF z5; have l1 := HL1.out w' hS; have l2 := HL2.out w' hS; go_simp; first | rfl | exact ⟨rfl, rfl⟩ | ((with_reducible refine (HY1.out _).mono ?_); rintro e w2 ⟨rfl, rfl⟩; exact ⟨rfl, hS⟩) | ((with_reducible refine (HN1.out _).mono ?_); rintro e w2 ⟨rfl, rfl⟩; exact ⟨rfl, hS⟩) | ((with_reducible refine (HY6.out _).mono ?_); rintro e w2 ⟨rfl, rfl⟩; exact ⟨rfl, hS⟩) | ((with_reducible refine (HN6.out _).mono ?_); rintro e w2 ⟨rfl, rfl⟩; exact ⟨rfl, hS⟩) | ((with_reducible refine (HN11.out _).mono ?_); rintro e w2 ⟨rfl, rfl⟩; exact ⟨rfl, hS⟩) | ((with_reducible refine (HE1.out _).mono ?_); rintro e w2 ⟨rfl, rfl⟩; exact ⟨rfl, hS⟩) | ((with_reducible refine (HE3.out _).mono ?_); rintro e w2 ⟨rfl, rfl⟩; exact ⟨rfl, hS⟩) | ((with_reducible refine (HE4.out _).mono ?_); rintro e w2 ⟨rfl, rfl⟩; exact ⟨rfl, hS⟩) | ((with_reducible refine (HE5.out _).mono ?_); rintro e w2 ⟨rfl, rfl⟩; exact ⟨rfl, hS⟩) | ((with_reducible refine (HR.out _).mono ?_); rintro e w2 ⟨rfl, rfl⟩; exact ⟨rfl, hS⟩) | ((with_reducible refine (HM1.out _).mono ?_); unfold BoolPost; rintro e w2 ⟨rfl, hk⟩; exact ⟨rfl, hS.trans hk fun _ _ e => e⟩) | ((with_reducible refine (HM2.out _).mono ?_); unfold BoolPost; rintro e w2 ⟨rfl, hk⟩; exact ⟨rfl, hS.trans hk fun _ _ e => e⟩) | ((with_reducible refine (HLO.out _).mono ?_); unfold BoolPost; rintro e w2 ⟨rfl, hk⟩; exact ⟨rfl, hS.trans hk fun _ _ e => e⟩)); (try simp only [Act.put, List.setIfInBounds_toArray, List.set_cons_zero, List.set_cons_succ]); go_big_quiet_on))
              refine wpQuiet_nil ?_
              intro w5 hS
              have HS := Lib.hid hS
              clear hS z0 z1 z2 z3 z4 z5
              go_wp2_with (refine wpList_five rfl _ _ _ _ _ rfl _ _ _ _ _ rfl rfl rfl rfl rfl ?_)
              refine (first_any (some ⟨w5.heap.size, 0, none⟩) [E1, 6, E3, E4, E5] 5 _ (CellsAt.of_box (Box.new w5 _ _) rfl) (by simp)).mono ?_
              rintro r w6 ⟨rfl, rfl⟩
              rw [HFIN.out]
              go_wp2_with (fail)
              go_ret
              exact ⟨rfl, HK.out.trans (HS.out.alloc _) fun _ _ e => e⟩
            · as_aux_lemma =>
              have hfin : firstE [E1, 0, E3, E4, E5] = se := by
                rw [← HSE.out, decide_eq_false q1, decide_eq_false (show ¬ 3 < st from q2), ← HQ1.out, ← HQ3.out, ← HQ4.out, ← HQ5.out]
                rfl
              have HFIN := Lib.hid hfin
              clear hfin
              iterate 52
                first | go_big_quiet_skip | (go_big_quiet_want; first | (go_big_quiet_op; go_big_quiet_on) | (apply Exists.intro; refine ⟨fun w' hS => ?_, ?_⟩; (have d0 := hS.cellF z0; have d1 := hS.cellF z1; have d2 := hS.cellF z2; have d3 := hS.cellF z3; have d4 := hS.cellF z4; have d5 := hS.cellF z5; have l1 := HL1.out w' hS; have l2 := HL2.out w' hS; go_simp; first | rfl | exact ⟨rfl, rfl⟩ | ((with_reducible refine (HY1.out _).mono ?_); rintro e w2 ⟨rfl, rfl⟩; exact ⟨rfl, hS⟩) | ((with_reducible refine (HN1.out _).mono ?_); rintro e w2 ⟨rfl, rfl⟩; exact ⟨rfl, hS⟩) | ((with_reducible refine (HY6.out _).mono ?_); rintro e w2 ⟨rfl, rfl⟩; exact ⟨rfl, hS⟩) | ((with_reducible refine (HN6.out _).mono ?_); rintro e w2 ⟨rfl, rfl⟩; exact ⟨rfl, hS⟩) | ((with_reducible refine (HN11.out _).mono ?_); rintro e w2 ⟨rfl, rfl⟩; exact ⟨rfl, hS⟩) | ((with_reducible refine (HE1.out _).mono ?_); rintro e w2 ⟨rfl, rfl⟩; exact ⟨rfl, hS⟩) | ((with_reducible refine (HE3.out _).mono ?_); rintro e w2 ⟨rfl, rfl⟩; exact ⟨rfl, hS⟩) | ((with_reducible refine (HE4.out _).mono ?_); rintro e w2 ⟨rfl, rfl⟩; exact ⟨rfl, hS⟩) | ((with_reducible refine (HE5.out _).mono ?_); rintro e w2 ⟨rfl, rfl⟩; exact ⟨rfl, hS⟩) | ((with_reducible refine (HR.out _).mono ?_); rintro e w2 ⟨rfl, rfl⟩; exact ⟨rfl, hS⟩) | ((with_reducible refine (HM1.out _).mono ?_); unfold BoolPost; rintro e w2 ⟨rfl, hk⟩; exact ⟨rfl, hS.trans hk fun _ _ e => e⟩) | ((with_reducible refine (HM2.out _).mono ?_); unfold BoolPost; rintro e w2 ⟨rfl, hk⟩; exact ⟨rfl, hS.trans hk fun _ _ e => e⟩) | ((with_reducible refine (HLO.out _).mono ?_); unfold BoolPost; rintro e w2 ⟨rfl, hk⟩; exact ⟨rfl, hS.trans hk fun _ _ e => e⟩)); (try simp only [Act.put, List.setIfInBounds_toArray, List.set_cons_zero, List.set_cons_succ]); go_big_quiet_on))
              refine wpQuiet_nil ?_
              intro w5 hS
              have HS := Lib.hid hS
              clear hS z0 z1 z2 z3 z4 z5
              go_wp2_with (refine wpList_five rfl _ _ _ _ _ rfl _ _ _ _ _ rfl rfl rfl rfl rfl ?_)
              refine (first_any (some ⟨w5.heap.size, 0, none⟩) [E1, 0, E3, E4, E5] 5 _ (CellsAt.of_box (Box.new w5 _ _) rfl) (by simp)).mono ?_
              rintro r w6 ⟨rfl, rfl⟩
              rw [HFIN.out]
              go_wp2_with (fail)
              go_ret
              exact ⟨rfl, HK.out.trans (HS.out.alloc _) fun _ _ e => e⟩
      | false =>
        cases br with
        | false =>
          as_aux_lemma =>
          have hfin : firstE [1, 6, E3, E4, E5] = se := by
            rw [← HSE.out, ← HQ3.out, ← HQ4.out, ← HQ5.out]
            rfl
          have HFIN := Lib.hid hfin
          clear hfin
          iterate 52
            first | go_big_quiet_skip | (go_big_quiet_want; first | (go_big_quiet_op; go_big_quiet_on) | (apply Exists.intro; refine ⟨fun w' hS => ?_, ?_⟩; (have d0 := hS.cellF z0; have d1 := hS.cellF z1; have d2 := hS.cellF z2; have d3 := hS.cellF z3; have d4 := hS.cellF z4; have d5 := hS.cellF z5; have l1 := HL1.out w' hS; have l2 := HL2.out w' hS; go_simp; first | rfl | exact ⟨rfl, rfl⟩ | ((with_reducible refine (HY1.out _).mono ?_); rintro e w2 ⟨rfl, rfl⟩; exact ⟨rfl, hS⟩) | ((with_reducible refine (HN1.out _).mono ?_); rintro e w2 ⟨rfl, rfl⟩; exact ⟨rfl, hS⟩) | ((with_reducible refine (HY6.out _).mono ?_); rintro e w2 ⟨rfl, rfl⟩; exact ⟨rfl, hS⟩) | ((with_reducible refine (HN6.out _).mono ?_); rintro e w2 ⟨rfl, rfl⟩; exact ⟨rfl, hS⟩) | ((with_reducible refine (HN11.out _).mono ?_); rintro e w2 ⟨rfl, rfl⟩; exact ⟨rfl, hS⟩) | ((with_reducible refine (HE1.out _).mono ?_); rintro e w2 ⟨rfl, rfl⟩; exact ⟨rfl, hS⟩) | ((with_reducible refine (HE3.out _).mono ?_); rintro e w2 ⟨rfl, rfl⟩; exact ⟨rfl, hS⟩) | ((with_reducible refine (HE4.out _).mono ?_); rintro e w2 ⟨rfl, rfl⟩; exact ⟨rfl, hS⟩) | ((with_reducible refine (HE5.out _).mono ?_); rintro e w2 ⟨rfl, rfl⟩; exact ⟨rfl, hS⟩) | ((with_reducible refine (HR.out _).mono ?_); rintro e w2 ⟨rfl, rfl⟩; exact ⟨rfl, hS⟩) | ((with_reducible refine (HM1.out _).mono ?_); unfold BoolPost; rintro e w2 ⟨rfl, hk⟩; exact ⟨rfl, hS.trans hk fun _ _ e => e⟩) | ((with_reducible refine (HM2.out _).mono ?_); unfold BoolPost; rintro e w2 ⟨rfl, hk⟩; exact ⟨rfl, hS.trans hk fun _ _ e => e⟩) | ((with_reducible refine (HLO.out _).mono ?_); unfold BoolPost; rintro e w2 ⟨rfl, hk⟩; exact ⟨rfl, hS.trans hk fun _ _ e => e⟩)); (try simp only [Act.put, List.setIfInBounds_toArray, List.set_cons_zero, List.set_cons_succ]); go_big_quiet_on))
          refine wpQuiet_nil ?_
          intro w5 hS
          have HS := Lib.hid hS
          clear hS z0 z1 z2 z3 z4 z5
          go_wp2_with (refine wpList_five rfl _ _ _ _ _ rfl _ _ _ _ _ rfl rfl rfl rfl rfl ?_)
          refine (first_any (some ⟨w5.heap.size, 0, none⟩) [1, 6, E3, E4, E5] 5 _ (CellsAt.of_box (Box.new w5 _ _) rfl) (by simp)).mono ?_
          rintro r w6 ⟨rfl, rfl⟩
          rw [HFIN.out]
          go_wp2_with (fail)
          go_ret
          exact ⟨rfl, HK.out.trans (HS.out.alloc _) fun _ _ e => e⟩
        | true =>
          by_cases q1 : st < 1
          · as_aux_lemma =>
            have hfin : firstE [1, 6, E3, E4, E5] = se := by
              rw [← HSE.out, decide_eq_true q1, ← HQ3.out, ← HQ4.out, ← HQ5.out]
              rfl
            have HFIN := Lib.hid hfin
            clear hfin
            iterate 52
              first | go_big_quiet_skip | (go_big_quiet_want; first | (go_big_quiet_op; go_big_quiet_on) | (apply Exists.intro; refine ⟨fun w' hS => ?_, ?_⟩; (have d0 := hS.cellF z0; have d1 := hS.cellF z1; have d2 := hS.cellF z2; have d3 := hS.cellF z3; have d4 := hS.cellF z4; have d5 := hS.cellF z5; have l1 := HL1.out w' hS; have l2 := HL2.out w' hS; go_simp; first | rfl | exact ⟨rfl, rfl⟩ | ((with_reducible refine (HY1.out _).mono ?_); rintro e w2 ⟨rfl, rfl⟩; exact ⟨rfl, hS⟩) | ((with_reducible refine (HN1.out _).mono ?_); rintro e w2 ⟨rfl, rfl⟩; exact ⟨rfl, hS⟩) | ((with_reducible refine (HY6.out _).mono ?_); rintro e w2 ⟨rfl, rfl⟩; exact ⟨rfl, hS⟩) | ((with_reducible refine (HN6.out _).mono ?_); rintro e w2 ⟨rfl, rfl⟩; exact ⟨rfl, hS⟩) | ((with_reducible refine (HN11.out _).mono ?_); rintro e w2 ⟨rfl, rfl⟩; exact ⟨rfl, hS⟩) | ((with_reducible refine (HE1.out _).mono ?_); rintro e w2 ⟨rfl, rfl⟩; exact ⟨rfl, hS⟩) | ((with_reducible refine (HE3.out _).mono ?_); rintro e w2 ⟨rfl, rfl⟩; exact ⟨rfl, hS⟩) | ((with_reducible refine (HE4.out _).mono ?_); rintro e w2 ⟨rfl, rfl⟩; exact ⟨rfl, hS⟩) | ((with_reducible refine (HE5.out _).mono ?_); rintro e w2 ⟨rfl, rfl⟩; exact ⟨rfl, hS⟩) | ((with_reducible refine (HR.out _).mono ?_); rintro e w2 ⟨rfl, rfl⟩; exact ⟨rfl, hS⟩) | ((with_reducible refine (HM1.out _).mono ?_); unfold BoolPost; rintro e w2 ⟨rfl, hk⟩; exact ⟨rfl, hS.trans hk fun _ _ e => e⟩) | ((with_reducible refine (HM2.out _).mono ?_); unfold BoolPost; rintro e w2 ⟨rfl, hk⟩; exact ⟨rfl, hS.trans hk fun _ _ e => e⟩) | ((with_reducible refine (HLO.out _).mono ?_); unfold BoolPost; rintro e w2 ⟨rfl, hk⟩; exact ⟨rfl, hS.trans hk fun _ _ e => e⟩)); (try simp only [Act.put, List.setIfInBounds_toArray, List.set_cons_zero, List.set_cons_succ]); go_big_quiet_on))
            refine wpQuiet_nil ?_
            intro w5 hS
            have HS := Lib.hid hS
            clear hS z0 z1 z2 z3 z4 z5
            go_wp2_with (refine wpList_five rfl _ _ _ _ _ rfl _ _ _ _ _ rfl rfl rfl rfl rfl ?_)
            refine (first_any (some ⟨w5.heap.size, 0, none⟩) [1, 6, E3, E4, E5] 5 _ (CellsAt.of_box (Box.new w5 _ _) rfl) (by simp)).mono ?_
            rintro r w6 ⟨rfl, rfl⟩
            rw [HFIN.out]
            go_wp2_with (fail)
            go_ret
            exact ⟨rfl, HK.out.trans (HS.out.alloc _) fun _ _ e => e⟩
          · by_cases q2 : st > 3
            · as_aux_lemma =>
              have hfin : firstE [1, 6, E3, E4, E5] = se := by
                rw [← HSE.out, decide_eq_false q1, decide_eq_true (show 3 < st from q2), ← HQ3.out, ← HQ4.out, ← HQ5.out]
                rfl
              have HFIN := Lib.hid hfin
              clear hfin
              iterate 52
                first | go_big_quiet_skip | (go_big_quiet_want; first | (go_big_quiet_op; go_big_quiet_on) | (apply Exists.intro; refine ⟨fun w' hS => ?_, ?_⟩; (have d0 := hS.cellF z0; have d1 := hS.cellF z1; have d2 := hS.cellF z2; have d3 := hS.cellF z3; have d4 := hS.cellF z4; have d5 := hS.cellF z5; have l1 := HL1.out w' hS; have l2 := HL2.out w' hS; go_simp; first | rfl | exact ⟨rfl, rfl⟩ | ((with_reducible refine (HY1.out _).mono ?_); rintro e w2 ⟨rfl, rfl⟩; exact ⟨rfl, hS⟩) | ((with_reducible refine (HN1.out _).mono ?_); rintro e w2 ⟨rfl, rfl⟩; exact ⟨rfl, hS⟩) | ((with_reducible refine (HY6.out _).mono ?_); rintro e w2 ⟨rfl, rfl⟩; exact ⟨rfl, hS⟩) | ((with_reducible refine (HN6.out _).mono ?_); rintro e w2 ⟨rfl, rfl⟩; exact ⟨rfl, hS⟩) | ((with_reducible refine (HN11.out _).mono ?_); rintro e w2 ⟨rfl, rfl⟩; exact ⟨rfl, hS⟩) | ((with_reducible refine (HE1.out _).mono ?_); rintro e w2 ⟨rfl, rfl⟩; exact ⟨rfl, hS⟩) | ((with_reducible refine (HE3.out _).mono ?_); rintro e w2 ⟨rfl, rfl⟩; exact ⟨rfl, hS⟩) | ((with_reducible refine (HE4.out _).mono ?_); rintro e w2 ⟨rfl, rfl⟩; exact ⟨rfl, hS⟩) | ((with_reducible refine (HE5.out _).mono ?_); rintro e w2 ⟨rfl, rfl⟩; exact ⟨rfl, hS⟩) | ((with_reducible refine (HR.out _).mono ?_); rintro e w2 ⟨rfl, rfl⟩; exact ⟨rfl, hS⟩) | ((with_reducible refine (HM1.out _).mono ?_); unfold BoolPost; rintro e w2 ⟨rfl, hk⟩; exact ⟨rfl, hS.trans hk fun _ _ e => e⟩) | ((with_reducible refine (HM2.out _).mono ?_); unfold BoolPost; rintro e w2 ⟨rfl, hk⟩; exact ⟨rfl, hS.trans hk fun _ _ e => e⟩) | ((with_reducible refine (HLO.out _).mono ?_); unfold BoolPost; rintro e w2 ⟨rfl, hk⟩; exact ⟨rfl, hS.trans hk fun _ _ e => e⟩)); (try simp only [Act.put, List.setIfInBounds_toArray, List.set_cons_zero, List.set_cons_succ]); go_big_quiet_on))
              refine wpQuiet_nil ?_
              intro w5 hS
              have HS := Lib.hid hS
              clear hS z0 z1 z2 z3 z4 z5
              go_wp2_with (refine wpList_five rfl _ _ _ _ _ rfl _ _ _ _ _ rfl rfl rfl rfl rfl ?_)
              refine (first_any (some ⟨w5.heap.size, 0, none⟩) [1, 6, E3, E4, E5] 5 _ (CellsAt.of_box (Box.new w5 _ _) rfl) (by simp)).mono ?_
              rintro r w6 ⟨rfl, rfl⟩
              rw [HFIN.out]
              go_wp2_with (fail)
              go_ret
              exact ⟨rfl, HK.out.trans (HS.out.alloc _) fun _ _ e => e⟩
            · as_aux_lemma =>
              have hfin : firstE [1, 0, E3, E4, E5] = se := by
                rw [← HSE.out, decide_eq_false q1, decide_eq_false (show ¬ 3 < st from q2), ← HQ3.out, ← HQ4.out, ← HQ5.out]
                rfl
              have HFIN := Lib.hid hfin
              clear hfin
              iterate 52
                first | go_big_quiet_skip | (go_big_quiet_want; first | (go_big_quiet_op; go_big_quiet_on) | (apply Exists.intro; refine ⟨fun w' hS => ?_, ?_⟩; (have d0 := hS.cellF z0; have d1 := hS.cellF z1; have d2 := hS.cellF z2; have d3 := hS.cellF z3; have d4 := hS.cellF z4; have d5 := hS.cellF z5; have l1 := HL1.out w' hS; have l2 := HL2.out w' hS; go_simp; first | rfl | exact ⟨rfl, rfl⟩ | ((with_reducible refine (HY1.out _).mono ?_); rintro e w2 ⟨rfl, rfl⟩; exact ⟨rfl, hS⟩) | ((with_reducible refine (HN1.out _).mono ?_); rintro e w2 ⟨rfl, rfl⟩; exact ⟨rfl, hS⟩) | ((with_reducible refine (HY6.out _).mono ?_); rintro e w2 ⟨rfl, rfl⟩; exact ⟨rfl, hS⟩) | ((with_reducible refine (HN6.out _).mono ?_); rintro e w2 ⟨rfl, rfl⟩; exact ⟨rfl, hS⟩) | ((with_reducible refine (HN11.out _).mono ?_); rintro e w2 ⟨rfl, rfl⟩; exact ⟨rfl, hS⟩) | ((with_reducible refine (HE1.out _).mono ?_); rintro e w2 ⟨rfl, rfl⟩; exact ⟨rfl, hS⟩) | ((with_reducible refine (HE3.out _).mono ?_); rintro e w2 ⟨rfl, rfl⟩; exact ⟨rfl, hS⟩) | ((with_reducible refine (HE4.out _).mono ?_); rintro e w2 ⟨rfl, rfl⟩; exact ⟨rfl, hS⟩) | ((with_reducible refine (HE5.out _).mono ?_); rintro e w2 ⟨rfl, rfl⟩; exact ⟨rfl, hS⟩) | ((with_reducible refine (HR.out _).mono ?_); rintro e w2 ⟨rfl, rfl⟩; exact ⟨rfl, hS⟩) | ((with_reducible refine (HM1.out _).mono ?_); unfold BoolPost; rintro e w2 ⟨rfl, hk⟩; exact ⟨rfl, hS.trans hk fun _ _ e => e⟩) | ((with_reducible refine (HM2.out _).mono ?_); unfold BoolPost; rintro e w2 ⟨rfl, hk⟩; exact ⟨rfl, hS.trans hk fun _ _ e => e⟩) | ((with_reducible refine (HLO.out _).mono ?_); unfold BoolPost; rintro e w2 ⟨rfl, hk⟩; exact ⟨rfl, hS.trans hk fun _ _ e => e⟩)); (try simp only [Act.put, List.setIfInBounds_toArray, List.set_cons_zero, List.set_cons_succ]); go_big_quiet_on))
              refine wpQuiet_nil ?_
              intro w5 hS
              have HS := Lib.hid hS
              clear hS z0 z1 z2 z3 z4 z5
              go_wp2_with (refine wpList_five rfl _ _ _ _ _ rfl _ _ _ _ _ rfl rfl rfl rfl rfl ?_)
              refine (first_any (some ⟨w5.heap.size, 0, none⟩) [1, 0, E3, E4, E5] 5 _ (CellsAt.of_box (Box.new w5 _ _) rfl) (by simp)).mono ?_
              rintro r w6 ⟨rfl, rfl⟩
              rw [HFIN.out]
              go_wp2_with (fail)
              go_ret
              exact ⟨rfl, HK.out.trans (HS.out.alloc _) fun _ _ e => e⟩
end Go.Proofs.YtnajbkccaclkcaaGreat

namespace Go.Proofs.YtnajbkccaclkcaaGreat
open Go Go.RowKit

def lnk (x : Idt × Idt) : List Value := [.int .i64 x.1.time, .int .i64 x.1.site, .int .i64 x.2.time, .int .i64 x.2.site]
def lnks (l : List (Idt × Idt)) : List Value := l.flatMap lnk
theorem lnks_len (l : List (Idt × Idt)) : (lnks l).length = l.length * 4 := by
  induction l with
  | nil => rfl
  | cons x l ih =>
    have e : lnks (x :: l) = lnk x ++ lnks l := rfl
    have hx : (lnk x).length = 4 := rfl
    rw [e, List.length_append, ih, hx, List.length_cons]
    omega
theorem lnks_app (l : List (Idt × Idt)) (x : Idt × Idt) : lnks (l ++ [x]) = lnks l ++ lnk x := by simp [lnks]
theorem info_link : (Tryz.prog.info? 110).map (fun i => (i.zero, i.size, i.bytes)) = some (some (.agg #[.int .i64 0, .int .i64 0, .int .i64 0, .int .i64 0]), 4, 32) := by kernel_rfl
theorem eltLinks : Elt Tryz.prog 111 110 4 32 := .of Tryz.underlying111 info_link rfl (by decide) (by decide)
section
variable {w : World} {base g n c : Nat} {e : TypeId} {l : List (Idt × Idt)} {x : Idt × Idt}
/-- The row without its last link. -/
theorem lnks_cut (h : w.ownsRow base e 4 (.slice (some ⟨g, 0, none⟩) (n + 1) c) (n + 1) (lnks (l ++ [x]))) (hl : l.length = n) : w.ownsRow base e 4 (.slice (some ⟨g, 0, none⟩) n c) n (lnks l) := by
  refine ⟨by rw [lnks_len, hl], ?_⟩
  rcases h.2 with ⟨h', _⟩ | ⟨g', cap, cur, hv, hb, hg, hnc, hcm, hcs, htake⟩
  · cases h'
  · refine .inr ⟨g', cap, cur, ?_, hb, hg, by omega, hcm, hcs, ?_⟩
    · injection hv with e1 _ e3
      rw [e1, e3]
    · have e2 : (lnks (l ++ [x])).take (n * 4) = lnks l := by
        rw [lnks_app, List.take_append_of_le_length (by rw [lnks_len, hl]; exact Nat.le_refl _), List.take_of_length_le (by rw [lnks_len, hl]; exact Nat.le_refl _)]
      rw [← e2, ← htake, List.take_take, Nat.min_eq_left (by omega)]
/-- Its last link's cells. -/
theorem lnks_last (h : w.ownsRow base e 4 (.slice (some ⟨g, 0, none⟩) (n + 1) c) (n + 1) (lnks (l ++ [x]))) (hl : l.length = n) (j : Nat) (hj : j < 4) : w.cell? ⟨g, n * 4 + j, none⟩ = (lnk x)[j]? := by
  rw [h.cellAt (n * 4 + j) (by omega), lnks_app, List.getElem?_append_right (by rw [lnks_len, hl]; omega), lnks_len, hl]
  congr 1
  omega
/-- Its last link written over. -/
theorem lnks_put (h : w.ownsRow base e 4 (.slice (some ⟨g, 0, none⟩) (n + 1) c) (n + 1) (lnks (l ++ [x]))) (hl : l.length = n) (i : Idt) :
    ((w.setCell ⟨g, n * 4 + 2, none⟩ (.int .i64 i.time)).setCell ⟨g, n * 4 + 2 + 1, none⟩ (.int .i64 i.site)).ownsRow base e 4 (.slice (some ⟨g, 0, none⟩) (n + 1) c) (n + 1) (lnks (l ++ [(x.1, i)])) ∧
      Kept (fun k => k = g) w ((w.setCell ⟨g, n * 4 + 2, none⟩ (.int .i64 i.time)).setCell ⟨g, n * 4 + 2 + 1, none⟩ (.int .i64 i.site)) := by
  have h1 := World.ownsRow.stored h (n * 4 + 2) (.int .i64 i.time)
  have h2 := World.ownsRow.stored h1.1 (n * 4 + 2 + 1) (.int .i64 i.site)
  have e2 : ((lnks (l ++ [x])).set (n * 4 + 2) (.int .i64 i.time)).set (n * 4 + 2 + 1) (.int .i64 i.site) = lnks (l ++ [(x.1, i)]) := by
    rw [lnks_app, lnks_app]
    have hz : (lnks l).length = n * 4 := by rw [lnks_len, hl]
    rw [List.set_append_right _ _ (by omega), hz, List.set_append_right _ _ (by omega), hz, show n * 4 + 2 - n * 4 = 2 by omega, show n * 4 + 2 + 1 - n * 4 = 3 by omega]
    rfl
  rw [e2] at h2
  exact ⟨h2.1, Kept.at (g := g) (Kept.at (g := g) (Kept.refl (fun k => k = g) _) _ _ (.inl rfl)) _ _ (.inl rfl)⟩
end
end Go.Proofs.YtnajbkccaclkcaaGreat
