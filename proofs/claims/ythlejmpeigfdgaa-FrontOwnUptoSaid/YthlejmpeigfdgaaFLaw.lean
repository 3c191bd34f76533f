/- The plain law of a Front's rows and its frontier. No program in sight. -/
import Derived.Test.YthlejmpeigfdgaaFPln
import Derived.Test.YthlejmpeigfdgaaVCan
namespace Go.Proofs.Ythlejmpeigfdgaa
open Go.RowKit

def leastD (v u : List Dt) : List Dt := vec (minR (says v) (says u))
def frontS (s : List Fp) (self : Int) (v : List Dt) (m : Int) : List Dt := if m = self then v else leastD v (usableF s m)
def frontF (s : List Fp) (own : List Dt) (self : Int) (ms : List Int) : List Dt := ms.foldl (frontS s self) own
def frontier (s : List Fp) (ms : List Int) (self : Int) (own : List Dt) : List Dt := if checkV own = 0 then frontF s own self ms else []
theorem leastD_comm (v a b : List Dt) : leastD (leastD v a) b = leastD (leastD v b) a := by
  unfold leastD
  rw [says_vec ((Row.says v).minR (Row.says a)), says_vec ((Row.says v).minR (Row.says b)), min_assoc', min_assoc', min_comm' (a := says a)]
theorem frontF_perm {s : List Fp} {own : List Dt} {self : Int} {ms ns : List Int} (h : ms.Perm ns) : frontF s own self ms = frontF s own self ns :=
  h.foldl_eq' (fun x _ y _ z => by
    unfold frontS
    by_cases hx : x = self
    · simp only [if_pos hx]
    · by_cases hy : y = self
      · simp only [if_pos hy]
      · simp only [if_neg hx, if_neg hy]
        exact leastD_comm z (usableF s x) (usableF s y)) own
theorem frontS_len {s : List Fp} {self : Int} {v : List Dt} {m : Int} {N : Nat} (h : v.length ≤ N) (hN : 17 ≤ N) : (frontS s self v m).length ≤ N := by
  unfold frontS
  split
  · exact h
  · exact Nat.le_trans (vecTo_len _ 17) hN
theorem frontF_len {s : List Fp} {self : Int} {N : Nat} (hN : 17 ≤ N) : ∀ (ms : List Int) (own : List Dt), own.length ≤ N → (frontF s own self ms).length ≤ N
  | [], _, h => h
  | _ :: ms, _, h => frontF_len hN ms _ (frontS_len h hN)
theorem frontF_succ {s : List Fp} {own : List Dt} {self : Int} {ms : List Int} {k : Nat} (h : k < ms.length) : frontF s own self (ms.take (k + 1)) = frontS s self (frontF s own self (ms.take k)) ms[k] := by
  unfold frontF
  rw [List.take_succ_eq_append_getElem h, List.foldl_append]
  rfl
end Go.Proofs.Ythlejmpeigfdgaa
