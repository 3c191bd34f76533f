/- What windows$1 computes, round by round, in plain words; where its variables lie. No program is stepped through here. -/
import Derived.Test.YtkekhnohehhljaaESea
import Derived.Test.YtkekhnohehhljaaEFor
namespace Go.Proofs.Ytkekhnohehhljaa
open Go Go.Shelf Go.RowKit Go.Lib Go.Sort

theorem scan_late {ss : List Int} {lim : Int} : ∀ (l : List Ev) (M : List (Int × Int)) (s : Int), lim ≤ s → scan ss lim M s l = []
  | [], _, _, _ => rfl
  | e :: l, M, s, h => by
    unfold scan
    by_cases h1 : lim ≤ e.key
    · rw [if_pos h1]
    · rw [if_neg h1, if_neg, scan_late l M s h]
      rintro ⟨h2, -⟩
      have := (relB_iff ss s e).1 h2
      have := key_le e
      omega
section
variable {ss : List Int} {lim s : Int} {M : List (Int × Int)} {e : Ev} {l : List Ev}
theorem scan_stop (h1 : lim ≤ e.key) : scan ss lim M s (e :: l) = [] := by
  unfold scan; rw [if_pos h1]
theorem scan_skip (h1 : ¬ lim ≤ e.key) (h2 : ¬ (relB ss s e = true ∧ (e.src, e.dst) ∉ M)) : scan ss lim M s (e :: l) = scan ss lim M s l := by
  rw [scan]; rw [if_neg h1, if_neg h2]
theorem scan_add (h1 : ¬ lim ≤ e.key) (h2 : relB ss s e = true) (h3 : (e.src, e.dst) ∉ M) (h4 : M.length + 1 ≠ ss.length * (ss.length - 1)) : scan ss lim M s (e :: l) = scan ss lim ((e.src, e.dst) :: M) s l := by
  rw [scan]; rw [if_neg h1, if_pos ⟨h2, h3⟩, if_neg h4]
theorem scan_win (h1 : ¬ lim ≤ e.key) (h2 : relB ss s e = true) (h3 : (e.src, e.dst) ∉ M) (h4 : M.length + 1 = ss.length * (ss.length - 1)) : scan ss lim M s (e :: l) = (s, e.key + 1) :: scan ss lim [] (e.key + 1) (e :: l) := by
  have h5 : scan ss lim [] (e.key + 1) (e :: l) = scan ss lim [] (e.key + 1) l := scan_skip h1 (by
    rintro ⟨h, -⟩
    have h6 := (relB_iff ss _ e).1 h
    have : e.key = max e.step e.sent := rfl
    omega)
  rw [h5, scan]; rw [if_neg h1, if_pos ⟨h2, h3⟩, if_pos h4]
end

theorem scan_len {ss : List Int} {lim : Int} : ∀ (l : List Ev) (M : List (Int × Int)) (s : Int), (scan ss lim M s l).length ≤ l.length
  | [], _, _ => Nat.le_refl _
  | e :: l, M, s => by
    have h1 := fun M s => scan_len (ss := ss) (lim := lim) l M s
    unfold scan
    split
    · exact Nat.zero_le _
    · split
      · split
        · exact Nat.succ_le_succ (h1 _ _)
        · exact Nat.le_succ_of_le (h1 _ _)
      · exact Nat.le_succ_of_le (h1 _ _)
/-- Where windows' variables lie, and what they hold. -/
structure Wh where
  Bf : Nat
  Bt : Nat
  Bs : Nat
  Be : Nat
  AS : Option Addr
  cS : Nat
  AE : Option Addr
  cE : Nat
  ss : List Int
  es : List Ev
  lim : Int
  m : Nat
  C : Nat
structure Wh.Ok (h : Wh) : Prop where
  bf : h.Bf < h.m ∧ h.Bf ≠ h.C
  bt : h.Bt < h.m ∧ h.Bt ≠ h.C
  bs : h.Bs < h.m ∧ h.Bs ≠ h.C
  be : h.Be < h.m ∧ h.Be ≠ h.C
  ne : h.Bf ≠ h.Bt
  asl : ∀ a, h.AS = some a → a.block < h.m ∧ a.block ≠ h.C ∧ a.block ≠ h.Bf
  ael : ∀ a, h.AE = some a → a.block < h.m ∧ a.block ≠ h.C ∧ a.block ≠ h.Bf
  up : h.ss.Pairwise (· < ·)
  two : 2 ≤ h.ss.length
  most : h.ss.length ≤ 100
  ev : h.es.length ≤ 1000000
  hlim : h.lim ≤ 9223372036854775807
structure Wh.At (h : Wh) (W : World) (s : Int) : Prop where
  f : Box W h.Bf 3 #[.int .i64 s]
  t : Box W h.Bt 3 #[.int .i64 h.lim]
  s_ : Box W h.Bs 26 #[.slice h.AS h.ss.length h.cS]
  e : Box W h.Be 25 #[.slice h.AE h.es.length h.cE]
  cs : CellsAt W h.AS (ints h.ss)
  ce : CellsAt W h.AE (evs h.es)
/-- What a round of the caller must keep. -/
structure KpW (m C : Nat) (A B : World) : Prop where
  size : A.heap.size ≤ B.heap.size
  low : ∀ k : Nat, k < m → k ≠ C → B.heap[k]? = A.heap[k]?
  evb : ∀ (k : Nat) (cs : Array Value), A.heap[k]? = some (Obj.cells cs 35) → B.heap[k]? = some (Obj.cells cs 35)
theorem KpW.refl (m C : Nat) (A : World) : KpW m C A A := ⟨Nat.le_refl _, fun _ _ _ => rfl, fun _ _ h => h⟩
theorem KpW.trans {m C : Nat} {A B D : World} (h : KpW m C A B) (h' : KpW m C B D) : KpW m C A D :=
  ⟨Nat.le_trans h.size h'.size, fun k h1 h2 => (h'.low k h1 h2).trans (h.low k h1 h2), fun k cs hc => h'.evb k cs (h.evb k cs hc)⟩
theorem CellsAt.blocks {w w' : World} {A : Option Addr} {xs : List Value} (h : CellsAt w A xs) (hk : ∀ a, A = some a → w'.heap[a.block]? = w.heap[a.block]?) : CellsAt w' A xs := fun j u hj => by
  obtain ⟨ad, e, h0⟩ := h j u hj
  refine ⟨ad, e, ?_⟩
  have hb : (ad.add j).block = ad.block := by unfold Addr.add; split <;> rfl
  rw [World.cell?_of_block (w := w) (by rw [hb]; exact hk ad e)]
  exact h0
theorem Wh.At.kp {h : Wh} {W W' : World} {s : Int} (ho : h.Ok) (ha : h.At W s) (hk : KpW h.m h.C W W') : h.At W' s :=
  ⟨(hk.low _ ho.bf.1 ho.bf.2).trans ha.f, (hk.low _ ho.bt.1 ho.bt.2).trans ha.t, (hk.low _ ho.bs.1 ho.bs.2).trans ha.s_, (hk.low _ ho.be.1 ho.be.2).trans ha.e,
    ha.cs.blocks fun a e => hk.low _ (ho.asl a e).1 (ho.asl a e).2.1, ha.ce.blocks fun a e => hk.low _ (ho.ael a e).1 (ho.ael a e).2.1⟩
theorem Wh.At.fresh {h : Wh} {W W' : World} {s : Int} (ha : h.At W s) (hk : Kept (fun _ => False) W W') : h.At W' s :=
  ⟨ha.f.kept hk id, ha.t.kept hk id, ha.s_.kept hk id, ha.e.kept hk id, ha.cs.fresh hk, ha.ce.fresh hk⟩
theorem Wh.At.put {h : Wh} {W : World} {s : Int} (ho : h.Ok) (ha : h.At W s) (s' : Int) : h.At (W.setCell ⟨h.Bf, 0, none⟩ (.int .i64 s')) s' :=
  ⟨by simpa using ha.f.set 0 (.int .i64 s'), ha.t.far (Ne.symm ho.ne) _, ha.s_.far (ha.s_.ne ha.f (by decide)) _, ha.e.far (ha.e.ne ha.f (by decide)) _,
    ha.cs.blocks fun a e => Below.heap_setCell _ _ _ _ (ho.asl a e).2.2, ha.ce.blocks fun a e => Below.heap_setCell _ _ _ _ (ho.ael a e).2.2⟩
/-- The words say which pairs are there. -/
def WsOf (ss : List Int) (M : List (Int × Int)) (ws : Nat → Nat) : Prop := (∀ p ∈ M, p.1 ∈ ss ∧ p.2 ∈ ss) ∧ BitsOf ws (fun k => ∃ p ∈ M, pairN ss p = k)
theorem WsOf.zero (ss : List Int) : WsOf ss [] (fun _ => 0) := ⟨fun _ h => absurd h (by simp), by simpa using BitsOf.zero⟩
section
variable {ss : List Int} {M : List (Int × Int)} {ws : Nat → Nat} {p : Int × Int}
theorem WsOf.iff (h : WsOf ss M ws) (hp : ss.Pairwise (· < ·)) (p1 : p.1 ∈ ss) (p2 : p.2 ∈ ss) : (∃ q ∈ M, pairN ss q = pairN ss p) ↔ p ∈ M :=
  ⟨fun ⟨q, hq, e⟩ => pairN_inj hp (h.1 q hq).1 (h.1 q hq).2 p1 p2 e ▸ hq, fun hm => ⟨p, hm, rfl⟩⟩
theorem WsOf.test (h : WsOf ss M ws) (hp : ss.Pairwise (· < ·)) (p1 : p.1 ∈ ss) (p2 : p.2 ∈ ss) : (bits .and .u64 (ws (pairN ss p / 64) : Int) ((2 ^ (pairN ss p % 64) : Nat) : Int) = 0) ↔ p ∉ M := by
  rw [h.2.test, h.iff hp p1 p2]
theorem WsOf.set (h : WsOf ss M ws) (p1 : p.1 ∈ ss) (p2 : p.2 ∈ ss) : bits .or .u64 (ws (pairN ss p / 64) : Int) ((2 ^ (pairN ss p % 64) : Nat) : Int) = ((ws (pairN ss p / 64) ||| 2 ^ (pairN ss p % 64) : Nat) : Int) ∧
    WsOf ss (p :: M) (fun i => if i = pairN ss p / 64 then ws (pairN ss p / 64) ||| 2 ^ (pairN ss p % 64) else ws i) := by
  obtain ⟨h1, h2⟩ := h.2.set (pairN ss p)
  refine ⟨h1, fun q hq => ?_, ⟨h2.lt, fun k => (h2.bit k).trans ⟨?_, ?_⟩⟩⟩
  · rcases List.mem_cons.1 hq with rfl | hq
    · exact ⟨p1, p2⟩
    · exact h.1 q hq
  · rintro (⟨q, hq, e⟩ | e)
    · exact ⟨q, List.mem_cons_of_mem _ hq, e⟩
    · exact ⟨p, List.mem_cons_self .., e.symm⟩
  · rintro ⟨q, hq, e⟩
    rcases List.mem_cons.1 hq with rfl | hq
    · exact .inr e.symm
    · exact .inl ⟨q, hq, e⟩
end
end Go.Proofs.Ytkekhnohehhljaa
