/- The walk of the reference's Check of operations. Conditions: the dots lie in memory; what insert and the check of runs say are contracts. -/
import Derived.Test.YtnfehkncfjgeeaaR8Any
import Derived.Test.YtnfehkncfjgeeaaVRCheck
import Derived.Test.YtnfehkncfjgeeaaVGet
import Derived.Test.YtnfehkncfjgeeaaOCheck
namespace Go.Proofs.Ytnfehkncfjgeeaa
open Go Go.RowKit

set_option maxRecDepth 100000 in
set_option maxHeartbeats 6400000 in
theorem r8chk (ds dq kind it is rt rs site : Int) (deps : List Dt) (text : ByteArray) (dA gA : Option Addr) (dc gl gc : Nat) (w : World) (bi : Bool) (z : Int) (hb sb : Bool) (cv gv : Int) (rb bare : Bool) (res : Int) (HRES : Hid (res = if (hb && rb) = true then 0 else 10))
    (HI : Hid (∀ W, Calls Try.prog 68 #[.agg #[.int .i64 ds, .int .i64 dq, .slice dA deps.length dc, .int .i64 kind, .int .i64 it, .int .i64 is, .int .i64 rt, .int .i64 rs, .string text, .slice gA gl gc, .int .i64 site]] W (BoolPost W bi)))
    (HR : Hid (∀ W, Kept (fun _ => False) w W → Calls Try.prog 69 #[.slice gA gl gc] W (IntPost W z)))
    (HST : Hid (∀ W, Calls Try.prog 67 #[.int .i64 ds] W (BoolPost W sb)))
    (HC : Hid (∀ W, DotsAt W dA deps → Calls Try.prog 35 #[.slice dA deps.length dc] W (IntPost W cv)))
    (HG : Hid (∀ W, DotsAt W dA deps → Calls Try.prog 57 #[.slice dA deps.length dc, .int .i64 ds] W (IntPost W gv)))
    (hd : DotsAt w dA deps) (hgl : gl ≤ 1000000)
    (HH : Hid (hb = (sb && (decide (1 ≤ dq) && (decide (dq ≤ 2147483647) && (decide (cv = 0) && decide (gv = dq - 1)))))))
    (HB : Hid (bare = (decide (it = 0 ∧ is = 0) && (decide (rt = 0 ∧ rs = 0) && decide (text.toList = [])))))
    (HRB : Hid (rb = if kind = 1 then bi else if kind = 2 then bare && (decide (site = 0) && (decide (1 ≤ gl) && (decide (gl ≤ 1024) && decide (z = 0)))) else if kind = 3 then bare && (decide (gl = 0) && siteB site) else if kind = 4 then bare && (decide (gl = 0) && decide (site = 0)) else false)) :
    Calls Try.prog 59 #[.agg #[.int .i64 ds, .int .i64 dq, .slice dA deps.length dc, .int .i64 kind, .int .i64 it, .int .i64 is, .int .i64 rt, .int .i64 rs, .string text, .slice gA gl gc, .int .i64 site]] w (IntPost w res) := by
  have HZ := Lib.hid (show CB w w.heap.size dA deps #[.int .i64 ds, .int .i64 dq, .slice dA deps.length dc, .int .i64 kind, .int .i64 it, .int .i64 is, .int .i64 rt, .int .i64 rs, .string text, .slice gA gl gc, .int .i64 site] (w.alloc (.cells #[.int .i64 ds, .int .i64 dq, .slice dA deps.length dc, .int .i64 kind, .int .i64 it, .int .i64 is, .int .i64 rt, .int .i64 rs, .string text, .slice gA gl gc, .int .i64 site] 45)) from ⟨Box.new w _ _, hd.kept ((Kept.refl (fun _ => False) w).alloc _) fun _ _ h => h, (Kept.refl _ _).alloc _⟩)
  clear hd
  go_enter Try.func59, Try.ntmps59
  go_upto_region 1 with (fail)
  generalize w.alloc (.cells #[.int .i64 ds, .int .i64 dq, .slice dA deps.length dc, .int .i64 kind, .int .i64 it, .int .i64 is, .int .i64 rt, .int .i64 rs, .string text, .slice gA gl gc, .int .i64 site] 45) = w1 at HZ ⊢
  go_cut [40] (fun v wx => v = .bool (!hb) ∧ CB w w.heap.size dA deps #[.int .i64 ds, .int .i64 dq, .slice dA deps.length dc, .int .i64 kind, .int .i64 it, .int .i64 is, .int .i64 rt, .int .i64 rs, .string text, .slice gA gl gc, .int .i64 site] wx)
  case first =>
    clear HB HRB HI HR hgl
    cases sb with
    | false =>
      rw [Bool.false_and] at HH
      refine wp_region_class (l := _ :: _ :: _ :: _ :: _ :: _ :: _ :: _ :: _ :: _ :: _ :: _ :: _ :: _ :: _ :: _ :: _ :: _ :: _ :: _ :: _ :: _ :: _ :: _ :: _ :: _ :: _ :: _ :: _ :: _ :: _ :: _ :: _ :: _ :: _ :: _ :: []) (C := fun w' => CB w w.heap.size dA deps #[.int .i64 ds, .int .i64 dq, .slice dA deps.length dc, .int .i64 kind, .int .i64 it, .int .i64 is, .int .i64 rt, .int .i64 rs, .string text, .slice gA gl gc, .int .i64 site] w') (by kernel_rfl) (by kernel_rfl) HZ.out.drew ?_
      repeat
        first | go_big_quiet_skip | (go_big_quiet_want; first | (go_big_quiet_op; go_big_quiet_on) | (apply Exists.intro; refine ⟨fun w' hS => ?_, ?_⟩; (have HJ := hS; obtain ⟨d0, d1, d2, d3, d4, d5, d6, d7, d8, d9, d10⟩ := CB.S hS; go_simp; first | rfl | exact ⟨rfl, rfl⟩ | ((with_reducible refine (HST.out _).mono ?_); unfold BoolPost; rintro e w2 ⟨rfl, hk⟩; exact ⟨rfl, CB.fresh HJ hk⟩)); (try simp only [Act.put, List.setIfInBounds_toArray, List.set_cons_zero, List.set_cons_succ]); go_big_quiet_on))
      refine wpQuiet_nil ?_
      intro w3 hJ
      have HJ3 := Lib.hid hJ
      clear hJ HZ
      go_wp2
      go_meet
      case rel => exact ⟨congrArg Value.bool (by rw [HH.out]; rfl), HJ3.out⟩
    | true =>
      rw [Bool.true_and] at HH
      by_cases h1 : 1 ≤ dq
      · rw [decide_eq_true h1, Bool.true_and] at HH
        have l1 : decide (dq < 1) = false := decide_eq_false (by omega)
        by_cases h2 : dq ≤ 2147483647
        · rw [decide_eq_true h2, Bool.true_and] at HH
          have l2 : decide (2147483647 < dq) = false := decide_eq_false (by omega)
          by_cases h3 : cv = 0
          · rw [decide_eq_true h3, Bool.true_and] at HH
            subst h3
            have hw : IntKind.i64.wrap (dq - 1) = dq - 1 := IntWalk.i64_in _ ⟨by omega, by omega⟩
            by_cases h4 : gv = dq - 1
            · rw [decide_eq_true h4] at HH
              have l4 : (gv != dq - 1) = false := by rw [h4]; exact bne_self_eq_false _
              clear h4
              refine wp_region_class (l := _ :: _ :: _ :: _ :: _ :: _ :: _ :: _ :: _ :: _ :: _ :: _ :: _ :: _ :: _ :: _ :: _ :: _ :: _ :: _ :: _ :: _ :: _ :: _ :: _ :: _ :: _ :: _ :: _ :: _ :: _ :: _ :: _ :: _ :: _ :: _ :: []) (C := fun w' => CB w w.heap.size dA deps #[.int .i64 ds, .int .i64 dq, .slice dA deps.length dc, .int .i64 kind, .int .i64 it, .int .i64 is, .int .i64 rt, .int .i64 rs, .string text, .slice gA gl gc, .int .i64 site] w') (by kernel_rfl) (by kernel_rfl) HZ.out.drew ?_
              repeat
                first | go_big_quiet_skip | (go_big_quiet_want; first | (go_big_quiet_op; go_big_quiet_on) | (apply Exists.intro; refine ⟨fun w' hS => ?_, ?_⟩; (have HJ := hS; obtain ⟨d0, d1, d2, d3, d4, d5, d6, d7, d8, d9, d10⟩ := CB.S hS; go_simp; first | rfl | exact ⟨rfl, rfl⟩ | ((with_reducible refine (HST.out _).mono ?_); unfold BoolPost; rintro e w2 ⟨rfl, hk⟩; exact ⟨rfl, CB.fresh HJ hk⟩) | ((with_reducible refine (HC.out _ HJ.d).mono ?_); unfold IntPost; rintro e w2 ⟨rfl, hk⟩; exact ⟨rfl, CB.fresh HJ hk⟩) | ((with_reducible refine (HG.out _ HJ.d).mono ?_); unfold IntPost; rintro e w2 ⟨rfl, hk⟩; exact ⟨rfl, CB.fresh HJ hk⟩)); (try simp only [Act.put, List.setIfInBounds_toArray, List.set_cons_zero, List.set_cons_succ]); go_big_quiet_on))
              refine wpQuiet_nil ?_
              intro w3 hJ
              have HJ3 := Lib.hid hJ
              clear hJ HZ
              go_wp2
              go_meet
              case rel => exact ⟨congrArg Value.bool (by rw [HH.out]; rfl), HJ3.out⟩
            · rw [decide_eq_false h4] at HH
              have l4 : (gv != dq - 1) = true := bne_iff_ne.2 h4
              clear h4
              refine wp_region_class (l := _ :: _ :: _ :: _ :: _ :: _ :: _ :: _ :: _ :: _ :: _ :: _ :: _ :: _ :: _ :: _ :: _ :: _ :: _ :: _ :: _ :: _ :: _ :: _ :: _ :: _ :: _ :: _ :: _ :: _ :: _ :: _ :: _ :: _ :: _ :: _ :: []) (C := fun w' => CB w w.heap.size dA deps #[.int .i64 ds, .int .i64 dq, .slice dA deps.length dc, .int .i64 kind, .int .i64 it, .int .i64 is, .int .i64 rt, .int .i64 rs, .string text, .slice gA gl gc, .int .i64 site] w') (by kernel_rfl) (by kernel_rfl) HZ.out.drew ?_
              repeat
                first | go_big_quiet_skip | (go_big_quiet_want; first | (go_big_quiet_op; go_big_quiet_on) | (apply Exists.intro; refine ⟨fun w' hS => ?_, ?_⟩; (have HJ := hS; obtain ⟨d0, d1, d2, d3, d4, d5, d6, d7, d8, d9, d10⟩ := CB.S hS; go_simp; first | rfl | exact ⟨rfl, rfl⟩ | ((with_reducible refine (HST.out _).mono ?_); unfold BoolPost; rintro e w2 ⟨rfl, hk⟩; exact ⟨rfl, CB.fresh HJ hk⟩) | ((with_reducible refine (HC.out _ HJ.d).mono ?_); unfold IntPost; rintro e w2 ⟨rfl, hk⟩; exact ⟨rfl, CB.fresh HJ hk⟩) | ((with_reducible refine (HG.out _ HJ.d).mono ?_); unfold IntPost; rintro e w2 ⟨rfl, hk⟩; exact ⟨rfl, CB.fresh HJ hk⟩)); (try simp only [Act.put, List.setIfInBounds_toArray, List.set_cons_zero, List.set_cons_succ]); go_big_quiet_on))
              refine wpQuiet_nil ?_
              intro w3 hJ
              have HJ3 := Lib.hid hJ
              clear hJ HZ
              go_wp2
              go_meet
              case rel => exact ⟨congrArg Value.bool (by rw [HH.out]; rfl), HJ3.out⟩
          · rw [decide_eq_false h3, Bool.false_and] at HH
            have l3 : (cv != 0) = true := bne_iff_ne.2 h3
            clear h3
            refine wp_region_class (l := _ :: _ :: _ :: _ :: _ :: _ :: _ :: _ :: _ :: _ :: _ :: _ :: _ :: _ :: _ :: _ :: _ :: _ :: _ :: _ :: _ :: _ :: _ :: _ :: _ :: _ :: _ :: _ :: _ :: _ :: _ :: _ :: _ :: _ :: _ :: _ :: []) (C := fun w' => CB w w.heap.size dA deps #[.int .i64 ds, .int .i64 dq, .slice dA deps.length dc, .int .i64 kind, .int .i64 it, .int .i64 is, .int .i64 rt, .int .i64 rs, .string text, .slice gA gl gc, .int .i64 site] w') (by kernel_rfl) (by kernel_rfl) HZ.out.drew ?_
            repeat
              first | go_big_quiet_skip | (go_big_quiet_want; first | (go_big_quiet_op; go_big_quiet_on) | (apply Exists.intro; refine ⟨fun w' hS => ?_, ?_⟩; (have HJ := hS; obtain ⟨d0, d1, d2, d3, d4, d5, d6, d7, d8, d9, d10⟩ := CB.S hS; go_simp; first | rfl | exact ⟨rfl, rfl⟩ | ((with_reducible refine (HST.out _).mono ?_); unfold BoolPost; rintro e w2 ⟨rfl, hk⟩; exact ⟨rfl, CB.fresh HJ hk⟩) | ((with_reducible refine (HC.out _ HJ.d).mono ?_); unfold IntPost; rintro e w2 ⟨rfl, hk⟩; exact ⟨rfl, CB.fresh HJ hk⟩)); (try simp only [Act.put, List.setIfInBounds_toArray, List.set_cons_zero, List.set_cons_succ]); go_big_quiet_on))
            refine wpQuiet_nil ?_
            intro w3 hJ
            have HJ3 := Lib.hid hJ
            clear hJ HZ
            go_wp2
            go_meet
            case rel => exact ⟨congrArg Value.bool (by rw [HH.out]; rfl), HJ3.out⟩
        · rw [decide_eq_false h2, Bool.false_and] at HH
          have l2 : decide (2147483647 < dq) = true := decide_eq_true (by omega)
          refine wp_region_class (l := _ :: _ :: _ :: _ :: _ :: _ :: _ :: _ :: _ :: _ :: _ :: _ :: _ :: _ :: _ :: _ :: _ :: _ :: _ :: _ :: _ :: _ :: _ :: _ :: _ :: _ :: _ :: _ :: _ :: _ :: _ :: _ :: _ :: _ :: _ :: _ :: []) (C := fun w' => CB w w.heap.size dA deps #[.int .i64 ds, .int .i64 dq, .slice dA deps.length dc, .int .i64 kind, .int .i64 it, .int .i64 is, .int .i64 rt, .int .i64 rs, .string text, .slice gA gl gc, .int .i64 site] w') (by kernel_rfl) (by kernel_rfl) HZ.out.drew ?_
          repeat
            first | go_big_quiet_skip | (go_big_quiet_want; first | (go_big_quiet_op; go_big_quiet_on) | (apply Exists.intro; refine ⟨fun w' hS => ?_, ?_⟩; (have HJ := hS; obtain ⟨d0, d1, d2, d3, d4, d5, d6, d7, d8, d9, d10⟩ := CB.S hS; go_simp; first | rfl | exact ⟨rfl, rfl⟩ | ((with_reducible refine (HST.out _).mono ?_); unfold BoolPost; rintro e w2 ⟨rfl, hk⟩; exact ⟨rfl, CB.fresh HJ hk⟩)); (try simp only [Act.put, List.setIfInBounds_toArray, List.set_cons_zero, List.set_cons_succ]); go_big_quiet_on))
          refine wpQuiet_nil ?_
          intro w3 hJ
          have HJ3 := Lib.hid hJ
          clear hJ HZ
          go_wp2
          go_meet
          case rel => exact ⟨congrArg Value.bool (by rw [HH.out]; rfl), HJ3.out⟩
      · rw [decide_eq_false h1, Bool.false_and] at HH
        have l1 : decide (dq < 1) = true := decide_eq_true (by omega)
        refine wp_region_class (l := _ :: _ :: _ :: _ :: _ :: _ :: _ :: _ :: _ :: _ :: _ :: _ :: _ :: _ :: _ :: _ :: _ :: _ :: _ :: _ :: _ :: _ :: _ :: _ :: _ :: _ :: _ :: _ :: _ :: _ :: _ :: _ :: _ :: _ :: _ :: _ :: []) (C := fun w' => CB w w.heap.size dA deps #[.int .i64 ds, .int .i64 dq, .slice dA deps.length dc, .int .i64 kind, .int .i64 it, .int .i64 is, .int .i64 rt, .int .i64 rs, .string text, .slice gA gl gc, .int .i64 site] w') (by kernel_rfl) (by kernel_rfl) HZ.out.drew ?_
        repeat
          first | go_big_quiet_skip | (go_big_quiet_want; first | (go_big_quiet_op; go_big_quiet_on) | (apply Exists.intro; refine ⟨fun w' hS => ?_, ?_⟩; (have HJ := hS; obtain ⟨d0, d1, d2, d3, d4, d5, d6, d7, d8, d9, d10⟩ := CB.S hS; go_simp; first | rfl | exact ⟨rfl, rfl⟩ | ((with_reducible refine (HST.out _).mono ?_); unfold BoolPost; rintro e w2 ⟨rfl, hk⟩; exact ⟨rfl, CB.fresh HJ hk⟩)); (try simp only [Act.put, List.setIfInBounds_toArray, List.set_cons_zero, List.set_cons_succ]); go_big_quiet_on))
        refine wpQuiet_nil ?_
        intro w3 hJ
        have HJ3 := Lib.hid hJ
        clear hJ HZ
        go_wp2
        go_meet
        case rel => exact ⟨congrArg Value.bool (by rw [HH.out]; rfl), HJ3.out⟩
  case rest =>
    obtain ⟨rfl, hz⟩ := hcut
    have HZ1 := Lib.hid hz
    clear hz HZ HH HST HC HG
    obtain ⟨c0, c1, c2, c3, c4, c5, c6, c7, c8, c9, c10⟩ := HZ1.out.S
    cases hb with
    | false =>
      obtain rfl : res = 10 := by rw [HRES.out]; rfl
      clear HRES
      go_wp2
      go_ret
      exact ⟨rfl, HZ1.out.k⟩
    | true =>
      go_upto_region 3 with (fail)
      go_cut [3] (fun v wx => v = .bool bare ∧ CB w w.heap.size dA deps #[.int .i64 ds, .int .i64 dq, .slice dA deps.length dc, .int .i64 kind, .int .i64 it, .int .i64 is, .int .i64 rt, .int .i64 rs, .string text, .slice gA gl gc, .int .i64 site] wx)
      case first =>
        clear HRB HI HR
        by_cases h1 : it = 0 ∧ is = 0
        · rw [decide_eq_true h1, Bool.true_and] at HB
          have q1 := fun W => eql_id it is 0 0 W
          rw [decide_eq_true h1] at q1
          clear h1
          by_cases h2 : rt = 0 ∧ rs = 0
          · rw [decide_eq_true h2, Bool.true_and] at HB
            have q2 := fun W => eql_id rt rs 0 0 W
            rw [decide_eq_true h2] at q2
            clear h2
            by_cases h3 : text.toList = []
            · rw [decide_eq_true h3] at HB
              go_wp2_with (fail)
              all_goals first | exact absurd ‹text.toList = []› h3 | exact absurd (List.isEmpty_iff.1 ‹text.toList.isEmpty = true›) h3 | exact absurd h3 ‹¬ text.toList = []› | skip
              go_meet
              case rel => exact ⟨by first | exact congrArg Value.bool HB.out.symm | exact congrArg Value.bool ((show text.toList.isEmpty = false by simpa using h3).trans HB.out.symm), HZ1.out⟩
            · rw [decide_eq_false h3] at HB
              go_wp2_with (fail)
              all_goals first | exact absurd ‹text.toList = []› h3 | exact absurd (List.isEmpty_iff.1 ‹text.toList.isEmpty = true›) h3 | exact absurd h3 ‹¬ text.toList = []› | skip
              go_meet
              case rel => exact ⟨by first | exact congrArg Value.bool HB.out.symm | exact congrArg Value.bool ((show text.toList.isEmpty = false by simpa using h3).trans HB.out.symm), HZ1.out⟩
          · rw [decide_eq_false h2, Bool.false_and] at HB
            have q2 := fun W => eql_id rt rs 0 0 W
            rw [decide_eq_false h2] at q2
            clear h2
            go_wp2_with (fail)
            go_meet
            case rel => exact ⟨by first | exact congrArg Value.bool HB.out.symm | exact congrArg Value.bool ((show text.toList.isEmpty = false by simpa using h3).trans HB.out.symm), HZ1.out⟩
        · rw [decide_eq_false h1, Bool.false_and] at HB
          have q1 := fun W => eql_id it is 0 0 W
          rw [decide_eq_false h1] at q1
          clear h1
          go_wp2_with (fail)
          go_meet
          case rel => exact ⟨by first | exact congrArg Value.bool HB.out.symm | exact congrArg Value.bool ((show text.toList.isEmpty = false by simpa using h3).trans HB.out.symm), HZ1.out⟩
      case rest =>
        obtain ⟨rfl, hz⟩ := hcut
        have HZ2 := Lib.hid hz
        clear hz HZ1 HB c0 c1 c2 c3 c4 c5 c6 c7 c8 c9 c10
        obtain ⟨c0, c1, c2, c3, c4, c5, c6, c7, c8, c9, c10⟩ := HZ2.out.S
        by_cases k1 : kind = 1
        · subst k1
          rw [if_pos rfl] at HRB
          obtain rfl := HRB.out
          clear HRB
          go_wp2_with (fail)
          refine (HI.out _).mono ?_
          unfold BoolPost
          rintro e hz3 ⟨rfl, hk⟩
          have HZ3 := Lib.hid (HZ2.out.fresh hk)
          clear hk HZ2 c0 c1 c2 c3 c4 c5 c6 c7 c8 c9 c10
          obtain ⟨c0, c1, c2, c3, c4, c5, c6, c7, c8, c9, c10⟩ := HZ3.out.S
          cases rb with
          | false =>
            obtain rfl : res = 10 := by rw [HRES.out]; rfl
            clear HRES
            go_wp2
            go_ret
            exact ⟨rfl, HZ3.out.k⟩
          | true =>
            obtain rfl : res = 0 := by rw [HRES.out]; rfl
            clear HRES
            go_wp2
            go_ret
            exact ⟨rfl, HZ3.out.k⟩
        rw [if_neg k1] at HRB
        by_cases k2 : kind = 2
        · subst k2
          rw [if_pos rfl] at HRB
          cases bare with
          | false =>
            rw [Bool.false_and] at HRB
            obtain rfl : rb = false := by rw [HRB.out]
            clear HRB
            obtain rfl : res = 10 := by rw [HRES.out]; rfl
            clear HRES
            go_wp2
            go_ret
            exact ⟨rfl, HZ2.out.k⟩
          | true =>
            rw [Bool.true_and] at HRB
            by_cases s0 : site = 0
            · subst s0
              rw [decide_eq_true (rfl : (0 : Int) = 0), Bool.true_and] at HRB
              by_cases l1 : 1 ≤ gl
              · rw [decide_eq_true l1, Bool.true_and] at HRB
                by_cases l2 : gl ≤ 1024
                · rw [decide_eq_true l2, Bool.true_and] at HRB
                  go_wp2_with (fail)
                  refine (HR.out _ HZ2.out.k).mono ?_
                  unfold IntPost
                  rintro e hz3 ⟨rfl, hk⟩
                  have HZ3 := Lib.hid (HZ2.out.fresh hk)
                  clear hk HZ2 c0 c1 c2 c3 c4 c5 c6 c7 c8 c9 c10
                  obtain ⟨c0, c1, c2, c3, c4, c5, c6, c7, c8, c9, c10⟩ := HZ3.out.S
                  by_cases z0 : z = 0
                  · subst z0
                    obtain rfl : rb = true := by rw [HRB.out]; rfl
                    clear HRB
                    obtain rfl : res = 0 := by rw [HRES.out]; rfl
                    clear HRES
                    go_wp2
                    go_ret
                    exact ⟨rfl, HZ3.out.k⟩
                  · rw [decide_eq_false z0] at HRB
                    have z0' : (z == 0) = false := beq_eq_false_iff_ne.2 z0
                    clear z0
                    obtain rfl : rb = false := by rw [HRB.out]
                    clear HRB
                    obtain rfl : res = 10 := by rw [HRES.out]; rfl
                    clear HRES
                    go_wp2
                    go_ret
                    exact ⟨rfl, HZ3.out.k⟩
                · rw [decide_eq_false l2, Bool.false_and] at HRB
                  obtain rfl : rb = false := by rw [HRB.out]
                  clear HRB
                  obtain rfl : res = 10 := by rw [HRES.out]; rfl
                  clear HRES
                  go_wp2
                  go_ret
                  exact ⟨rfl, HZ2.out.k⟩
              · rw [decide_eq_false l1, Bool.false_and] at HRB
                obtain rfl : rb = false := by rw [HRB.out]
                clear HRB
                obtain rfl : res = 10 := by rw [HRES.out]; rfl
                clear HRES
                go_wp2
                go_ret
                exact ⟨rfl, HZ2.out.k⟩
            · rw [decide_eq_false s0, Bool.false_and] at HRB
              have s0' : (site == 0) = false := beq_eq_false_iff_ne.2 s0
              clear s0
              obtain rfl : rb = false := by rw [HRB.out]
              clear HRB
              obtain rfl : res = 10 := by rw [HRES.out]; rfl
              clear HRES
              go_wp2
              go_ret
              exact ⟨rfl, HZ2.out.k⟩
        rw [if_neg k2] at HRB
        by_cases k3 : kind = 3
        · subst k3
          rw [if_pos rfl] at HRB
          cases bare with
          | false =>
            rw [Bool.false_and] at HRB
            obtain rfl : rb = false := by rw [HRB.out]
            clear HRB
            obtain rfl : res = 10 := by rw [HRES.out]; rfl
            clear HRES
            go_wp2
            go_ret
            exact ⟨rfl, HZ2.out.k⟩
          | true =>
            rw [Bool.true_and] at HRB
            by_cases g0 : gl = 0
            · subst g0
              rw [decide_eq_true (rfl : (0 : Nat) = 0), Bool.true_and] at HRB
              go_wp2_with (fail)
              refine (RSite_any site _).mono ?_
              unfold BoolPost
              rintro e hz3 ⟨rfl, hk⟩
              have HZ3 := Lib.hid (HZ2.out.fresh hk)
              clear hk HZ2 c0 c1 c2 c3 c4 c5 c6 c7 c8 c9 c10
              obtain ⟨c0, c1, c2, c3, c4, c5, c6, c7, c8, c9, c10⟩ := HZ3.out.S
              obtain rfl := HRB.out
              clear HRB
              generalize siteB site = rb at HRES ⊢
              cases rb with
              | false =>
                obtain rfl : res = 10 := by rw [HRES.out]; rfl
                clear HRES
                go_wp2
                go_ret
                exact ⟨rfl, HZ3.out.k⟩
              | true =>
                obtain rfl : res = 0 := by rw [HRES.out]; rfl
                clear HRES
                go_wp2
                go_ret
                exact ⟨rfl, HZ3.out.k⟩
            · rw [decide_eq_false g0, Bool.false_and] at HRB
              have g0' : ((gl : Int) == 0) = false := beq_eq_false_iff_ne.2 (by omega)
              obtain rfl : rb = false := by rw [HRB.out]
              clear HRB
              obtain rfl : res = 10 := by rw [HRES.out]; rfl
              clear HRES
              go_wp2
              go_ret
              exact ⟨rfl, HZ2.out.k⟩
        rw [if_neg k3] at HRB
        by_cases k4 : kind = 4
        · subst k4
          rw [if_pos rfl] at HRB
          cases bare with
          | false =>
            rw [Bool.false_and] at HRB
            obtain rfl : rb = false := by rw [HRB.out]
            clear HRB
            obtain rfl : res = 10 := by rw [HRES.out]; rfl
            clear HRES
            go_wp2
            go_ret
            exact ⟨rfl, HZ2.out.k⟩
          | true =>
            rw [Bool.true_and] at HRB
            by_cases g0 : gl = 0
            · subst g0
              rw [decide_eq_true (rfl : (0 : Nat) = 0), Bool.true_and] at HRB
              by_cases s0 : site = 0
              · subst s0
                obtain rfl : rb = true := by rw [HRB.out]; rfl
                clear HRB
                obtain rfl : res = 0 := by rw [HRES.out]; rfl
                clear HRES
                go_wp2
                go_ret
                exact ⟨rfl, HZ2.out.k⟩
              · rw [decide_eq_false s0] at HRB
                have s0' : (site == 0) = false := beq_eq_false_iff_ne.2 s0
                clear s0
                obtain rfl : rb = false := by rw [HRB.out]
                clear HRB
                obtain rfl : res = 10 := by rw [HRES.out]; rfl
                clear HRES
                go_wp2
                go_ret
                exact ⟨rfl, HZ2.out.k⟩
            · rw [decide_eq_false g0, Bool.false_and] at HRB
              have g0' : ((gl : Int) == 0) = false := beq_eq_false_iff_ne.2 (by omega)
              obtain rfl : rb = false := by rw [HRB.out]
              clear HRB
              obtain rfl : res = 10 := by rw [HRES.out]; rfl
              clear HRES
              go_wp2
              go_ret
              exact ⟨rfl, HZ2.out.k⟩
        rw [if_neg k4] at HRB
        have k1' : (kind == 1) = false := beq_eq_false_iff_ne.2 k1
        have k2' : (kind == 2) = false := beq_eq_false_iff_ne.2 k2
        have k3' : (kind == 3) = false := beq_eq_false_iff_ne.2 k3
        have k4' : (kind == 4) = false := beq_eq_false_iff_ne.2 k4
        clear k1 k2 k3 k4
        obtain rfl : rb = false := by rw [HRB.out]
        clear HRB
        obtain rfl : res = 10 := by rw [HRES.out]; rfl
        clear HRES
        go_wp2
        go_ret
        exact ⟨rfl, HZ2.out.k⟩
theorem RefCheck_any (o : Opr) (dA gA : Option Addr) (dc gc : Nat) (w : World) (h : OprAt w dA gA o) : Calls Try.prog 59 #[.agg (o.cells dA dc gA gc)] w (IntPost w (opE o)) := by
  have hi := fun W => RInsert_any o dA gA dc gc W h.tl
  have hr := fun W (hk : Kept (fun _ => False) w W) => RRCheck_any gA o.gone gc W (h.runs.kept hk fun _ _ _ => id) h.counts h.gl
  have hd := h.dots
  have hdl := h.dl
  have hgl := h.gl
  clear h
  have hok : okOp o = ((siteB o.dot.site && (decide (1 ≤ o.dot.seq) && (decide (o.dot.seq ≤ 2147483647) && (decide (checkV o.deps = 0) && decide (getV o.deps o.dot.site = o.dot.seq - 1))))) &&
      (if o.kind = 1 then insB o else if o.kind = 2 then (decide (o.id.time = 0 ∧ o.id.site = 0) && (decide (o.ref.time = 0 ∧ o.ref.site = 0) && decide (o.text.toList = []))) && (decide (o.site = 0) && (decide (1 ≤ o.gone.length) && (decide (o.gone.length ≤ 1024) && decide (chkR [] o.gone = 0))))
        else if o.kind = 3 then (decide (o.id.time = 0 ∧ o.id.site = 0) && (decide (o.ref.time = 0 ∧ o.ref.site = 0) && decide (o.text.toList = []))) && (decide (o.gone.length = 0) && siteB o.site)
        else if o.kind = 4 then (decide (o.id.time = 0 ∧ o.id.site = 0) && (decide (o.ref.time = 0 ∧ o.ref.site = 0) && decide (o.text.toList = []))) && (decide (o.gone.length = 0) && decide (o.site = 0)) else false)) := by
    have e1 : decide (o.id.time = 0 ∧ o.id.site = 0) = decide (o.id = noId) := id_dec o.id noId
    have e2 : decide (o.ref.time = 0 ∧ o.ref.site = 0) = decide (o.ref = noId) := id_dec o.ref noId
    have e3 : decide (o.text.toList = []) = decide (o.text = ⟨#[]⟩) := decide_eq_decide.2 (toList_nil _)
    rw [e1, e2, e3]
    unfold okOp rightB removeB joinB bareB sameRest siteB
    rw [Bool.eq_iff_iff]
    simp only [Bool.and_eq_true, decide_eq_true_eq]
    split
    · simp only [and_assoc]
    · split
      · simp only [Bool.and_eq_true, decide_eq_true_eq, and_assoc]
        exact Iff.rfl
      · split
        · simp only [Bool.and_eq_true, decide_eq_true_eq, and_assoc]
          constructor
          · rintro ⟨a, b, c, d, e, f, g, h, i, j, -, k⟩; exact ⟨a, b, c, d, e, f, h, i, j, g, k⟩
          · rintro ⟨a, b, c, d, e, f, h, i, j, g, k⟩; exact ⟨a, b, c, d, e, f, g, h, i, j, trivial, k⟩
        · split
          · simp only [Bool.and_eq_true, decide_eq_true_eq, and_assoc]
            constructor
            · rintro ⟨a, b, c, d, e, f, g, h, i, j, k⟩; exact ⟨a, b, c, d, e, f, h, i, j, g, k⟩
            · rintro ⟨a, b, c, d, e, f, h, i, j, g, k⟩; exact ⟨a, b, c, d, e, f, g, h, i, j, k⟩
          · simp
  unfold opE
  rw [hok]
  obtain ⟨⟨ds, dq⟩, deps, kind, ⟨it, is⟩, ⟨rt, rs⟩, text, gone, site⟩ := o
  exact r8chk ds dq kind it is rt rs site deps text dA gA dc gone.length gc w _ _ _ _ _ _ _ _ _ (Lib.hid rfl) (Lib.hid hi) (Lib.hid hr) (Lib.hid fun W => RSite_any ds W) (Lib.hid fun W h => RCheck_any dA deps dc W h (Nat.le_trans hdl (by decide))) (Lib.hid fun W h => RGet_any dA deps dc ds W h (Nat.le_trans hdl (by decide))) hd hgl (Lib.hid rfl) (Lib.hid rfl) (Lib.hid rfl)
end Go.Proofs.Ytnfehkncfjgeeaa
