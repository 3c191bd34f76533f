/- copy into an own row of bytes. No condition beyond the sizes. -/
import Derived.Test.YtopcogogpbcbhaaNCut
import Derived.Laws.CopyOwn
namespace Go.Proofs.Ytopcogogpbcbhaa
open Go Go.RowKit

theorem alterD_len {l b : List Int} {off : Nat} (h : off + b.length ≤ l.length) : (alterD l off b).length = l.length := by
  unfold alterD
  rw [List.length_append, List.length_append, List.length_take, List.length_drop]
  omega
theorem alterD_byte {l b : List Int} {off : Nat} (hl : isByte l) (hb : isByte b) : isByte (alterD l off b) := by
  intro x hx
  unfold alterD at hx
  rcases List.mem_append.1 hx with hx | hx
  · rcases List.mem_append.1 hx with hx | hx
    · exact hl x (List.mem_of_mem_take hx)
    · exact hb x hx
  · exact hl x (List.mem_of_mem_drop hx)
theorem wpList_copy_bytes {ops : Array Oper} {rest : List Oper} {o : Oper} {a : Act} {w : World} {Q : Exit → Act → World → Prop} (hgd : o.guard = none) (d s : Operand) (ho : o.op = .call { callee := .builtin .copy, args := #[d, s], argTypes := #[30, 30] })
    {base g n c off : Nat} (l : List Int) (hr : w.ownsRow base 5 1 (.slice (some ⟨g, 0, none⟩) n c) n (bys l)) (dLen dCap : Nat) (hd : a.eval d = .slice (some ⟨g, off, none⟩) dLen dCap) (hdl : dLen = n - off) (ad : Addr) (b : List Int) (sCap : Nat) (hs : a.eval s = .slice (some ad) b.length sCap) (hb : BytesAt w (some ad) b) (hfit : off + b.length ≤ n)
    (h : ∀ w', Hid (w'.ownsRow base 5 1 (.slice (some ⟨g, 0, none⟩) n c) n (bys (alterD l off b))) → Hid (Kept (fun k => k = g) w w') → wpList Try.prog ops Q rest (a.put o.dst (goInt b.length)) w') :
    wpList Try.prog ops Q (o :: rest) a w := by
  have hl0 := hr.1
  rw [bys_len, Nat.mul_one] at hl0
  rcases hr.2 with ⟨h', _⟩ | ⟨g', cap, cur, hv, hbs, hg, hnc, hcm, hcs, htake⟩
  · cases h'
  · injection hv with e1 _ e3
    injection e1 with e1
    injection e1 with e1
    subst e1 e3
    rw [Nat.mul_one] at htake hcs
    refine wpList_copy_own hgd d s _ _ ho 5 Try.underlying30 (by kernel_rfl) g off dLen dCap ad b.length sCap hd hs cur 5 hg (bys b) (by rw [bys_len]; exact (Nat.min_eq_left (by omega)).symm) (fun j v hj => ?_) (by rw [bys_len]; omega) (bys_one b) ?_
    · obtain ⟨ad', e, hc⟩ := hb.srcs j v hj
      injection e with e
      subst e
      exact hc
    · rw [bys_len]
      refine h _ (show _ from ⟨by rw [bys_len, alterD_len (by omega), hl0, Nat.mul_one], .inr ⟨g, c, _, rfl, hbs, setRow_heap w g cur _ _ (0, 0) hg, hnc, hcm, ?_, ?_⟩⟩) (setRow_kept w g _)
      · simp [bys_len]
        omega
      · have hlen : cur.toList.length = c := by rw [Array.length_toList, hcs]
        rw [Nat.mul_one]
        unfold alterD
        rw [bys_app, bys_app]
        have e1 : cur.toList.take off = bys (l.take off) := by
          rw [show bys (l.take off) = (bys l).take off from List.map_take .., ← htake, List.take_take, Nat.min_eq_left (by omega)]
        have e2 : (cur.toList.drop (off + b.length)).take (n - (off + b.length)) = bys (l.drop (off + b.length)) := by
          rw [show bys (l.drop (off + b.length)) = (bys l).drop (off + b.length) from List.map_drop .., ← htake, List.drop_take]
        show (cur.toList.take off ++ (bys b ++ cur.toList.drop (off + b.length))).take n = _
        rw [← List.append_assoc, List.take_append, e1, ← e2]
        congr 1
        · rw [List.take_of_length_le]
          rw [List.length_append, bys_len, bys_len, List.length_take]
          omega
        · congr 1
          rw [List.length_append, bys_len, bys_len, List.length_take]
          omega
end Go.Proofs.Ytopcogogpbcbhaa
