/- The walk of net's Copies. Conditions: the network lies in memory. -/
import Derived.Test.YtopcogogpbcbhaaNSrt
namespace Go.Proofs.Ytopcogogpbcbhaa
open Go Go.RowKit Go.Maps

/-- A told copy, and where its bytes lie. -/
structure Cc where
  c : Cp
  A : Option Addr
  cap : Nat
def Cc.cs (x : Cc) : Array Value := cpC x.c x.A x.cap
def Cc.dV (x : Cc) : Value := .slice x.A x.c.data.length x.cap
theorem Cc.cs_size (x : Cc) : x.cs.size = 6 := rfl
theorem Cc.cs_one (x : Cc) : x.cs.toList.all (·.oneCell') = true := rfl
def ccs (l : List Cc) : List Value := l.flatMap fun x => x.cs.toList
theorem ccs_len (l : List Cc) : (ccs l).length = l.length * 6 := by
  induction l with
  | nil => rfl
  | cons x l ih =>
    have e : ccs (x :: l) = x.cs.toList ++ ccs l := rfl
    rw [e, List.length_append, ih, Array.length_toList, Cc.cs_size, List.length_cons]
    omega
theorem ccs_snoc (l : List Cc) (x : Cc) : ccs (l ++ [x]) = ccs l ++ x.cs.toList := by simp [ccs]
theorem ccs_get (l : List Cc) (k : Nat) (hk : k < l.length) (j : Nat) (hj : j < 6) : (ccs l)[k * 6 + j]? = l[k].cs.toList[j]? := by
  induction l generalizing k with
  | nil => simp at hk
  | cons x l ih =>
    have e : ccs (x :: l) = x.cs.toList ++ ccs l := rfl
    have hx : x.cs.toList.length = 6 := by rw [Array.length_toList, Cc.cs_size]
    rw [e]
    cases k with
    | zero => rw [List.getElem?_append_left (by omega)]; simp
    | succ k =>
      rw [List.getElem?_append_right (by omega), hx, show (k + 1) * 6 + j - 6 = k * 6 + j by omega, ih k (by simpa using hk)]
      rfl
theorem info_cp : (Try.prog.info? 44).map (fun i => (i.zero, i.size, i.bytes)) = some (some (.agg #[.int .i64 0, .int .i64 0, .int .i64 0, .slice none 0 0, .int .i64 0, .bool false]), 6, 64) := by kernel_rfl
theorem eltCps : Elt Try.prog 34 44 6 64 := .of Try.underlying34 info_cp rfl (by decide) (by decide)
theorem built_cp (c : Cp) (A : Option Addr) (cap : Nat) : Try.prog.builtSlice 44 1 [(0, .agg (cpC c A cap))] = some (cpC c A cap) := by
  obtain ⟨i, z, hi, hz, hsz, hby, hzs⟩ := eltCps.info
  obtain ⟨i', hi', hz', _⟩ := info_parts info_cp
  obtain rfl : i = i' := by rw [hi] at hi'; injection hi'
  obtain rfl := Option.some.inj (hz.symm.trans hz')
  unfold Program.builtSlice
  simp only [hi, hz, hsz]
  rw [if_neg (by decide)]
  kernel_rfl
theorem wpList_one_cp {ops : Array Oper} {rest : List Oper} {o : Oper} {a : Act} {w : World} {Q : Exit → Act → World → Prop} (hg : o.guard = none) (x0 : Operand)
    (ho : o.op = .buildSlice 34 1 #[(0, x0)]) (c : Cp) (A : Option Addr) (cap : Nat) (h0 : a.eval x0 = .agg (cpC c A cap))
    (h : wpList Try.prog ops Q rest (a.put o.dst (.slice (some ⟨w.heap.size, 0, none⟩) 1 1)) (w.alloc (.cells (cpC c A cap) 44))) :
    wpList Try.prog ops Q (o :: rest) a w := by
  refine Great.wpList_buildSliceTo hg _ 44 1 _ ho _ rfl _ rfl Try.underlying34 _ ?_ h
  have e : (#[(0, x0)].map fun ((i, x) : Nat × Operand) => (i, a.eval x)).toList = [(0, a.eval x0)] := by simp
  rw [e, h0]
  exact built_cp ..
/-- Told copies in a row: each has its own bytes. -/
structure CopAt (w : World) (base : Nat) (L : Option Addr) (lc : Nat) (l : List Cc) : Prop where
  row : w.ownsRow base 44 6 (.slice L l.length lc) l.length (ccs l)
  d : ∀ x ∈ l, w.ownsRow base 5 1 x.dV x.c.data.length (bys x.c.data)
  ap : l.Pairwise fun a b => ∀ k, a.dV.ownBlock = some k → b.dV.ownBlock ≠ some k
theorem CopAt.fresh {w w' : World} {base : Nat} {L : Option Addr} {lc : Nat} {l : List Cc} (h : CopAt w base L lc l) (hk : Kept (fun _ => False) w w') : CopAt w' base L lc l := ⟨hk.own h.row fun _ _ => id, fun x hx => hk.own (h.d x hx) fun _ _ => id, h.ap⟩
theorem CopAt.nil (w : World) (base : Nat) : CopAt w base none 0 [] := ⟨World.ownsRow_nil _ _ _ _, by simp, List.Pairwise.nil⟩
def nums (s : Nt) : List Int := s.l.map fun c => (c.num : Int)
theorem keys_nums {w : World} {p : Nat} {F : Nat → Prop} {s : Nt} {es : List Ce} (h : NetAt w p F s es) {b n : Nat} {D : DataW Unit} (hm : w.ownsMap Try.prog 3 ptrElem b n D) (hD : MapIs D es) {ss : List Int} (hp : ss.Perm (intKeys D)) :
    ss.length = s.l.length ∧ ss.mergeSort (fun x y => decide (x ≤ y)) = nums s := by
  have hlt : (nums s).Pairwise fun a b => a < b := List.pairwise_map.2 (h.ok.up.imp fun {a b} hab => by omega)
  have hnd : (nums s).Nodup := hlt.imp fun {a b} hab => by omega
  have hmem : ∀ x, x ∈ nums s ↔ Maps.has D (.int .i64 x) = true := fun x => by
    rw [hD.has, List.any_eq_true, nums, ← h.tie, List.map_map, List.mem_map]
    constructor
    · rintro ⟨e, he, rfl⟩
      exact ⟨e, he, by simp [Cp.is]⟩
    · rintro ⟨e, he, hi⟩
      exact ⟨e, he, by simpa [Cp.is] using hi⟩
  have hq : (nums s).Perm (intKeys D) := by
    obtain ⟨es1, hD1, hpw, _⟩ := hm.entries (Maps.int_keyed Try.underlying3)
    obtain ⟨es', hD', hko⟩ := hm.keysOf
    obtain rfl : es1 = es' := by rw [hD1] at hD'; simpa using hD'
    rw [hD1] at hmem ⊢
    exact perm_intKeys hpw (fun p hp => by obtain ⟨v, hv⟩ := hko p hp; obtain ⟨x, _, hx, _⟩ := Maps.keyOf_i64 Try.underlying3 hv; exact ⟨x, hx⟩) hnd hmem
  have hpp := hp.trans hq.symm
  refine ⟨by rw [hpp.length_eq, nums, List.length_map], ?_⟩
  have h1 := mergeSort_of_perm_i hpp
  unfold leI at h1
  rw [h1]
  exact List.mergeSort_of_pairwise (hlt.imp fun {a b} hab => decide_eq_true (by omega))
end Go.Proofs.Ytopcogogpbcbhaa
