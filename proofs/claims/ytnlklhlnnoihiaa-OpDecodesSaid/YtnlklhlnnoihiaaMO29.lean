/- The walk of the reference's Check of operations. Conditions: the dots lie in memory; what insert and the check of runs say are contracts. · The walks of the kinds' latest, op.Last and hearsayref8.Last. Conditions: the operation lies in memory; nothing is longer than a million. -/
import Derived.Test.YtnlklhlnnoihiaaMO28
import Derived.Test.YtnlklhlnnoihiaaMO8
import Derived.Test.YtnlklhlnnoihiaaMO4
import Derived.Test.YtnlklhlnnoihiaaMO26
import Derived.Test.YtnlklhlnnoihiaaMO27
namespace Go.Proofs.Ytnlklhlnnoihiaa
open Go Go.RowKit

set_option maxRecDepth 100000 in
set_option maxHeartbeats 6400000 in
theorem r8chk (ds dq kind it is rt rs site : Int) (deps : List Dt) (text : ByteArray) (dA gA : Option Addr) (dc gl gc : Nat) (w : World) (bi : Bool) (z : Int) (hb sb : Bool) (cv gv : Int) (rb bare : Bool) (res : Int) (HRES : Hid (res = if (hb && rb) = true then 0 else 10))
    (HI : Hid (∀ W, Calls Try.prog 51 #[.agg #[.int .i64 ds, .int .i64 dq, .slice dA deps.length dc, .int .i64 kind, .int .i64 it, .int .i64 is, .int .i64 rt, .int .i64 rs, .string text, .slice gA gl gc, .int .i64 site]] W (BoolPost W bi)))
    (HR : Hid (∀ W, Kept (fun _ => False) w W → Calls Try.prog 52 #[.slice gA gl gc] W (IntPost W z)))
    (HST : Hid (∀ W, Calls Try.prog 48 #[.int .i64 ds] W (BoolPost W sb)))
    (HC : Hid (∀ W, DotsAt W dA deps → Calls Try.prog 49 #[.slice dA deps.length dc] W (IntPost W cv)))
    (HG : Hid (∀ W, DotsAt W dA deps → Calls Try.prog 50 #[.slice dA deps.length dc, .int .i64 ds] W (IntPost W gv)))
    (hd : DotsAt w dA deps) (hgl : gl ≤ 1000000)
    (HH : Hid (hb = (sb && (decide (1 ≤ dq) && (decide (dq ≤ 2147483647) && (decide (cv = 0) && decide (gv = dq - 1)))))))
    (HB : Hid (bare = (decide (it = 0 ∧ is = 0) && (decide (rt = 0 ∧ rs = 0) && decide (text.toList = [])))))
    (HRB : Hid (rb = if kind = 1 then bi else if kind = 2 then bare && (decide (site = 0) && (decide (1 ≤ gl) && (decide (gl ≤ 1024) && decide (z = 0)))) else if kind = 3 then bare && (decide (gl = 0) && siteB site) else if kind = 4 then bare && (decide (gl = 0) && decide (site = 0)) else false)) :
    Calls Try.prog 16 #[.agg #[.int .i64 ds, .int .i64 dq, .slice dA deps.length dc, .int .i64 kind, .int .i64 it, .int .i64 is, .int .i64 rt, .int .i64 rs, .string text, .slice gA gl gc, .int .i64 site]] w (IntPost w res) := by
  have HZ := Lib.hid (show CB w w.heap.size dA deps #[.int .i64 ds, .int .i64 dq, .slice dA deps.length dc, .int .i64 kind, .int .i64 it, .int .i64 is, .int .i64 rt, .int .i64 rs, .string text, .slice gA gl gc, .int .i64 site] (w.alloc (.cells #[.int .i64 ds, .int .i64 dq, .slice dA deps.length dc, .int .i64 kind, .int .i64 it, .int .i64 is, .int .i64 rt, .int .i64 rs, .string text, .slice gA gl gc, .int .i64 site] 30)) from ⟨Box.new w _ _, hd.kept ((Kept.refl (fun _ => False) w).alloc _) fun _ _ h => h, (Kept.refl _ _).alloc _⟩)
  clear hd
  go_enter Try.func16, Try.ntmps16
  go_upto_region 1 with (fail)
  generalize w.alloc (.cells #[.int .i64 ds, .int .i64 dq, .slice dA deps.length dc, .int .i64 kind, .int .i64 it, .int .i64 is, .int .i64 rt, .int .i64 rs, .string text, .slice gA gl gc, .int .i64 site] 30) = w1 at HZ ⊢
  go_cut [40] (fun v wx => v = .bool (!hb) ∧ CB w w.heap.size dA deps #[.int .i64 ds, .int .i64 dq, .slice dA deps.length dc, .int .i64 kind, .int .i64 it, .int .i64 is, .int .i64 rt, .int .i64 rs, .string text, .slice gA gl gc, .int .i64 site] wx)
  case first =>
    clear HB HRB HI HR hgl
    cases sb with
    | false =>
      rw [Bool.false_and] at HH
      refine wp_region_class (l := _ :: _ :: _ :: _ :: _ :: _ :: _ :: _ :: _ :: _ :: _ :: _ :: _ :: _ :: _ :: _ :: _ :: _ :: _ :: _ :: _ :: _ :: _ :: _ :: _ :: _ :: _ :: _ :: _ :: _ :: _ :: _ :: _ :: _ :: _ :: _ :: []) (C := fun w' => CB w w.heap.size dA deps #[.int .i64 ds, .int .i64 dq, .slice dA deps.length dc, .int .i64 kind, .int .i64 it, .int .i64 is, .int .i64 rt, .int .i64 rs, .string text, .slice gA gl gc, .int .i64 site] w') (by kernel_rfl) (by kernel_rfl) HZ.out.drew ?_
      repeat
        first | go_big_quiet_skip | (go_big_quiet_want; first | (go_big_quiet_op; go_big_quiet_on) | (apply Exists.intro; refine ⟨fun w' hS => ?_, ?_⟩; (have HJ := hS; obtain ⟨d0, d1, d2, d3, d4, d5, d6, d7, d8, d9, d10⟩ := CB.S hS; go_simp; first | rfl | exact ⟨rfl, rfl⟩ | ((with_reducible refine (HST.out _).mono ?_); unfold BoolPost; rintro e w2 ⟨rfl, hk⟩; exact ⟨rfl, CB.fresh HJ hk⟩)); (try simp only [Act.put, List.setIfInBounds_toArray, List.set_cons_zero, List.set_cons_succ]); go_big_quiet_on))
      refine wpQuiet_nil ?_
      intro w3 hJ
      have HJ3 := Lib.hid hJ
      clear hJ HZ
      go_wp2
      go_meet
      case rel => exact ⟨congrArg Value.bool (by rw [HH.out]; rfl), HJ3.out⟩
    | true =>
      rw [Bool.true_and] at HH
      by_cases h1 : 1 ≤ dq
      · rw [decide_eq_true h1, Bool.true_and] at HH
        have l1 : decide (dq < 1) = false := decide_eq_false (by omega)
        by_cases h2 : dq ≤ 2147483647
        · rw [decide_eq_true h2, Bool.true_and] at HH
          have l2 : decide (2147483647 < dq) = false := decide_eq_false (by omega)
          by_cases h3 : cv = 0
          · rw [decide_eq_true h3, Bool.true_and] at HH
            subst h3
            have hw : IntKind.i64.wrap (dq - 1) = dq - 1 := IntWalk.i64_in _ ⟨by omega, by omega⟩
            by_cases h4 : gv = dq - 1
            · rw [decide_eq_true h4] at HH
              have l4 : (gv != dq - 1) = false := by rw [h4]; exact bne_self_eq_false _
              clear h4
              refine wp_region_class (l := _ :: _ :: _ :: _ :: _ :: _ :: _ :: _ :: _ :: _ :: _ :: _ :: _ :: _ :: _ :: _ :: _ :: _ :: _ :: _ :: _ :: _ :: _ :: _ :: _ :: _ :: _ :: _ :: _ :: _ :: _ :: _ :: _ :: _ :: _ :: _ :: []) (C := fun w' => CB w w.heap.size dA deps #[.int .i64 ds, .int .i64 dq, .slice dA deps.length dc, .int .i64 kind, .int .i64 it, .int .i64 is, .int .i64 rt, .int .i64 rs, .string text, .slice gA gl gc, .int .i64 site] w') (by kernel_rfl) (by kernel_rfl) HZ.out.drew ?_
              repeat
                first | go_big_quiet_skip | (go_big_quiet_want; first | (go_big_quiet_op; go_big_quiet_on) | (apply Exists.intro; refine ⟨fun w' hS => ?_, ?_⟩; (have HJ := hS; obtain ⟨d0, d1, d2, d3, d4, d5, d6, d7, d8, d9, d10⟩ := CB.S hS; go_simp; first | rfl | exact ⟨rfl, rfl⟩ | ((with_reducible refine (HST.out _).mono ?_); unfold BoolPost; rintro e w2 ⟨rfl, hk⟩; exact ⟨rfl, CB.fresh HJ hk⟩) | ((with_reducible refine (HC.out _ HJ.d).mono ?_); unfold IntPost; rintro e w2 ⟨rfl, hk⟩; exact ⟨rfl, CB.fresh HJ hk⟩) | ((with_reducible refine (HG.out _ HJ.d).mono ?_); unfold IntPost; rintro e w2 ⟨rfl, hk⟩; exact ⟨rfl, CB.fresh HJ hk⟩)); (try simp only [Act.put, List.setIfInBounds_toArray, List.set_cons_zero, List.set_cons_succ]); go_big_quiet_on))
              refine wpQuiet_nil ?_
              intro w3 hJ
              have HJ3 := Lib.hid hJ
              clear hJ HZ
              go_wp2
              go_meet
              case rel => exact ⟨congrArg Value.bool (by rw [HH.out]; rfl), HJ3.out⟩
            · rw [decide_eq_false h4] at HH
              have l4 : (gv != dq - 1) = true := bne_iff_ne.2 h4
              clear h4
              refine wp_region_class (l := _ :: _ :: _ :: _ :: _ :: _ :: _ :: _ :: _ :: _ :: _ :: _ :: _ :: _ :: _ :: _ :: _ :: _ :: _ :: _ :: _ :: _ :: _ :: _ :: _ :: _ :: _ :: _ :: _ :: _ :: _ :: _ :: _ :: _ :: _ :: _ :: []) (C := fun w' => CB w w.heap.size dA deps #[.int .i64 ds, .int .i64 dq, .slice dA deps.length dc, .int .i64 kind, .int .i64 it, .int .i64 is, .int .i64 rt, .int .i64 rs, .string text, .slice gA gl gc, .int .i64 site] w') (by kernel_rfl) (by kernel_rfl) HZ.out.drew ?_
              repeat
                first | go_big_quiet_skip | (go_big_quiet_want; first | (go_big_quiet_op; go_big_quiet_on) | (apply Exists.intro; refine ⟨fun w' hS => ?_, ?_⟩; (have HJ := hS; obtain ⟨d0, d1, d2, d3, d4, d5, d6, d7, d8, d9, d10⟩ := CB.S hS; go_simp; first | rfl | exact ⟨rfl, rfl⟩ | ((with_reducible refine (HST.out _).mono ?_); unfold BoolPost; rintro e w2 ⟨rfl, hk⟩; exact ⟨rfl, CB.fresh HJ hk⟩) | ((with_reducible refine (HC.out _ HJ.d).mono ?_); unfold IntPost; rintro e w2 ⟨rfl, hk⟩; exact ⟨rfl, CB.fresh HJ hk⟩) | ((with_reducible refine (HG.out _ HJ.d).mono ?_); unfold IntPost; rintro e w2 ⟨rfl, hk⟩; exact ⟨rfl, CB.fresh HJ hk⟩)); (try simp only [Act.put, List.setIfInBounds_toArray, List.set_cons_zero, List.set_cons_succ]); go_big_quiet_on))
              refine wpQuiet_nil ?_
              intro w3 hJ
              have HJ3 := Lib.hid hJ
              clear hJ HZ
              go_wp2
              go_meet
              case rel => exact ⟨congrArg Value.bool (by rw [HH.out]; rfl), HJ3.out⟩
          · rw [decide_eq_false h3, Bool.false_and] at HH
            have l3 : (cv != 0) = true := bne_iff_ne.2 h3
            clear h3
            refine wp_region_class (l := _ :: _ :: _ :: _ :: _ :: _ :: _ :: _ :: _ :: _ :: _ :: _ :: _ :: _ :: _ :: _ :: _ :: _ :: _ :: _ :: _ :: _ :: _ :: _ :: _ :: _ :: _ :: _ :: _ :: _ :: _ :: _ :: _ :: _ :: _ :: _ :: []) (C := fun w' => CB w w.heap.size dA deps #[.int .i64 ds, .int .i64 dq, .slice dA deps.length dc, .int .i64 kind, .int .i64 it, .int .i64 is, .int .i64 rt, .int .i64 rs, .string text, .slice gA gl gc, .int .i64 site] w') (by kernel_rfl) (by kernel_rfl) HZ.out.drew ?_
            repeat
              first | go_big_quiet_skip | (go_big_quiet_want; first | (go_big_quiet_op; go_big_quiet_on) | (apply Exists.intro; refine ⟨fun w' hS => ?_, ?_⟩; (have HJ := hS; obtain ⟨d0, d1, d2, d3, d4, d5, d6, d7, d8, d9, d10⟩ := CB.S hS; go_simp; first | rfl | exact ⟨rfl, rfl⟩ | ((with_reducible refine (HST.out _).mono ?_); unfold BoolPost; rintro e w2 ⟨rfl, hk⟩; exact ⟨rfl, CB.fresh HJ hk⟩) | ((with_reducible refine (HC.out _ HJ.d).mono ?_); unfold IntPost; rintro e w2 ⟨rfl, hk⟩; exact ⟨rfl, CB.fresh HJ hk⟩)); (try simp only [Act.put, List.setIfInBounds_toArray, List.set_cons_zero, List.set_cons_succ]); go_big_quiet_on))
            refine wpQuiet_nil ?_
            intro w3 hJ
            have HJ3 := Lib.hid hJ
            clear hJ HZ
            go_wp2
            go_meet
            case rel => exact ⟨congrArg Value.bool (by rw [HH.out]; rfl), HJ3.out⟩
        · rw [decide_eq_false h2, Bool.false_and] at HH
          have l2 : decide (2147483647 < dq) = true := decide_eq_true (by omega)
          refine wp_region_class (l := _ :: _ :: _ :: _ :: _ :: _ :: _ :: _ :: _ :: _ :: _ :: _ :: _ :: _ :: _ :: _ :: _ :: _ :: _ :: _ :: _ :: _ :: _ :: _ :: _ :: _ :: _ :: _ :: _ :: _ :: _ :: _ :: _ :: _ :: _ :: _ :: []) (C := fun w' => CB w w.heap.size dA deps #[.int .i64 ds, .int .i64 dq, .slice dA deps.length dc, .int .i64 kind, .int .i64 it, .int .i64 is, .int .i64 rt, .int .i64 rs, .string text, .slice gA gl gc, .int .i64 site] w') (by kernel_rfl) (by kernel_rfl) HZ.out.drew ?_
          repeat
            first | go_big_quiet_skip | (go_big_quiet_want; first | (go_big_quiet_op; go_big_quiet_on) | (apply Exists.intro; refine ⟨fun w' hS => ?_, ?_⟩; (have HJ := hS; obtain ⟨d0, d1, d2, d3, d4, d5, d6, d7, d8, d9, d10⟩ := CB.S hS; go_simp; first | rfl | exact ⟨rfl, rfl⟩ | ((with_reducible refine (HST.out _).mono ?_); unfold BoolPost; rintro e w2 ⟨rfl, hk⟩; exact ⟨rfl, CB.fresh HJ hk⟩)); (try simp only [Act.put, List.setIfInBounds_toArray, List.set_cons_zero, List.set_cons_succ]); go_big_quiet_on))
          refine wpQuiet_nil ?_
          intro w3 hJ
          have HJ3 := Lib.hid hJ
          clear hJ HZ
          go_wp2
          go_meet
          case rel => exact ⟨congrArg Value.bool (by rw [HH.out]; rfl), HJ3.out⟩
      · rw [decide_eq_false h1, Bool.false_and] at HH
        have l1 : decide (dq < 1) = true := decide_eq_true (by omega)
        refine wp_region_class (l := _ :: _ :: _ :: _ :: _ :: _ :: _ :: _ :: _ :: _ :: _ :: _ :: _ :: _ :: _ :: _ :: _ :: _ :: _ :: _ :: _ :: _ :: _ :: _ :: _ :: _ :: _ :: _ :: _ :: _ :: _ :: _ :: _ :: _ :: _ :: _ :: []) (C := fun w' => CB w w.heap.size dA deps #[.int .i64 ds, .int .i64 dq, .slice dA deps.length dc, .int .i64 kind, .int .i64 it, .int .i64 is, .int .i64 rt, .int .i64 rs, .string text, .slice gA gl gc, .int .i64 site] w') (by kernel_rfl) (by kernel_rfl) HZ.out.drew ?_
        repeat
          first | go_big_quiet_skip | (go_big_quiet_want; first | (go_big_quiet_op; go_big_quiet_on) | (apply Exists.intro; refine ⟨fun w' hS => ?_, ?_⟩; (have HJ := hS; obtain ⟨d0, d1, d2, d3, d4, d5, d6, d7, d8, d9, d10⟩ := CB.S hS; go_simp; first | rfl | exact ⟨rfl, rfl⟩ | ((with_reducible refine (HST.out _).mono ?_); unfold BoolPost; rintro e w2 ⟨rfl, hk⟩; exact ⟨rfl, CB.fresh HJ hk⟩)); (try simp only [Act.put, List.setIfInBounds_toArray, List.set_cons_zero, List.set_cons_succ]); go_big_quiet_on))
        refine wpQuiet_nil ?_
        intro w3 hJ
        have HJ3 := Lib.hid hJ
        clear hJ HZ
        go_wp2
        go_meet
        case rel => exact ⟨congrArg Value.bool (by rw [HH.out]; rfl), HJ3.out⟩
  case rest =>
    obtain ⟨rfl, hz⟩ := hcut
    have HZ1 := Lib.hid hz
    clear hz HZ HH HST HC HG
    obtain ⟨c0, c1, c2, c3, c4, c5, c6, c7, c8, c9, c10⟩ := HZ1.out.S
    cases hb with
    | false =>
      obtain rfl : res = 10 := by rw [HRES.out]; rfl
      clear HRES
      go_wp2
      go_ret
      exact ⟨rfl, HZ1.out.k⟩
    | true =>
      go_upto_region 3 with (fail)
      go_cut [3] (fun v wx => v = .bool bare ∧ CB w w.heap.size dA deps #[.int .i64 ds, .int .i64 dq, .slice dA deps.length dc, .int .i64 kind, .int .i64 it, .int .i64 is, .int .i64 rt, .int .i64 rs, .string text, .slice gA gl gc, .int .i64 site] wx)
      case first =>
        clear HRB HI HR
        by_cases h1 : it = 0 ∧ is = 0
        · rw [decide_eq_true h1, Bool.true_and] at HB
          have q1 := fun W => eql_id it is 0 0 W
          rw [decide_eq_true h1] at q1
          clear h1
          by_cases h2 : rt = 0 ∧ rs = 0
          · rw [decide_eq_true h2, Bool.true_and] at HB
            have q2 := fun W => eql_id rt rs 0 0 W
            rw [decide_eq_true h2] at q2
            clear h2
            by_cases h3 : text.toList = []
            · rw [decide_eq_true h3] at HB
              go_wp2_with (fail)
              all_goals first | exact absurd ‹text.toList = []› h3 | exact absurd (List.isEmpty_iff.1 ‹text.toList.isEmpty = true›) h3 | exact absurd h3 ‹¬ text.toList = []› | skip
              go_meet
              case rel => exact ⟨by first | exact congrArg Value.bool HB.out.symm | exact congrArg Value.bool ((show text.toList.isEmpty = false by simpa using h3).trans HB.out.symm), HZ1.out⟩
            · rw [decide_eq_false h3] at HB
              go_wp2_with (fail)
              all_goals first | exact absurd ‹text.toList = []› h3 | exact absurd (List.isEmpty_iff.1 ‹text.toList.isEmpty = true›) h3 | exact absurd h3 ‹¬ text.toList = []› | skip
              go_meet
              case rel => exact ⟨by first | exact congrArg Value.bool HB.out.symm | exact congrArg Value.bool ((show text.toList.isEmpty = false by simpa using h3).trans HB.out.symm), HZ1.out⟩
          · rw [decide_eq_false h2, Bool.false_and] at HB
            have q2 := fun W => eql_id rt rs 0 0 W
            rw [decide_eq_false h2] at q2
            clear h2
            go_wp2_with (fail)
            go_meet
            case rel => exact ⟨by first | exact congrArg Value.bool HB.out.symm | exact congrArg Value.bool ((show text.toList.isEmpty = false by simpa using h3).trans HB.out.symm), HZ1.out⟩
        · rw [decide_eq_false h1, Bool.false_and] at HB
          have q1 := fun W => eql_id it is 0 0 W
          rw [decide_eq_false h1] at q1
          clear h1
          go_wp2_with (fail)
          go_meet
          case rel => exact ⟨by first | exact congrArg Value.bool HB.out.symm | exact congrArg Value.bool ((show text.toList.isEmpty = false by simpa using h3).trans HB.out.symm), HZ1.out⟩
      case rest =>
        obtain ⟨rfl, hz⟩ := hcut
        have HZ2 := Lib.hid hz
        clear hz HZ1 HB c0 c1 c2 c3 c4 c5 c6 c7 c8 c9 c10
        obtain ⟨c0, c1, c2, c3, c4, c5, c6, c7, c8, c9, c10⟩ := HZ2.out.S
        by_cases k1 : kind = 1
        · subst k1
          rw [if_pos rfl] at HRB
          obtain rfl := HRB.out
          clear HRB
          go_wp2_with (fail)
          refine (HI.out _).mono ?_
          unfold BoolPost
          rintro e hz3 ⟨rfl, hk⟩
          have HZ3 := Lib.hid (HZ2.out.fresh hk)
          clear hk HZ2 c0 c1 c2 c3 c4 c5 c6 c7 c8 c9 c10
          obtain ⟨c0, c1, c2, c3, c4, c5, c6, c7, c8, c9, c10⟩ := HZ3.out.S
          cases rb with
          | false =>
            obtain rfl : res = 10 := by rw [HRES.out]; rfl
            clear HRES
            go_wp2
            go_ret
            exact ⟨rfl, HZ3.out.k⟩
          | true =>
            obtain rfl : res = 0 := by rw [HRES.out]; rfl
            clear HRES
            go_wp2
            go_ret
            exact ⟨rfl, HZ3.out.k⟩
        rw [if_neg k1] at HRB
        by_cases k2 : kind = 2
        · subst k2
          rw [if_pos rfl] at HRB
          cases bare with
          | false =>
            rw [Bool.false_and] at HRB
            obtain rfl : rb = false := by rw [HRB.out]
            clear HRB
            obtain rfl : res = 10 := by rw [HRES.out]; rfl
            clear HRES
            go_wp2
            go_ret
            exact ⟨rfl, HZ2.out.k⟩
          | true =>
            rw [Bool.true_and] at HRB
            by_cases s0 : site = 0
            · subst s0
              rw [decide_eq_true (rfl : (0 : Int) = 0), Bool.true_and] at HRB
              by_cases l1 : 1 ≤ gl
              · rw [decide_eq_true l1, Bool.true_and] at HRB
                by_cases l2 : gl ≤ 1024
                · rw [decide_eq_true l2, Bool.true_and] at HRB
                  go_wp2_with (fail)
                  refine (HR.out _ HZ2.out.k).mono ?_
                  unfold IntPost
                  rintro e hz3 ⟨rfl, hk⟩
                  have HZ3 := Lib.hid (HZ2.out.fresh hk)
                  clear hk HZ2 c0 c1 c2 c3 c4 c5 c6 c7 c8 c9 c10
                  obtain ⟨c0, c1, c2, c3, c4, c5, c6, c7, c8, c9, c10⟩ := HZ3.out.S
                  by_cases z0 : z = 0
                  · subst z0
                    obtain rfl : rb = true := by rw [HRB.out]; rfl
                    clear HRB
                    obtain rfl : res = 0 := by rw [HRES.out]; rfl
                    clear HRES
                    go_wp2
                    go_ret
                    exact ⟨rfl, HZ3.out.k⟩
                  · rw [decide_eq_false z0] at HRB
                    have z0' : (z == 0) = false := beq_eq_false_iff_ne.2 z0
                    clear z0
                    obtain rfl : rb = false := by rw [HRB.out]
                    clear HRB
                    obtain rfl : res = 10 := by rw [HRES.out]; rfl
                    clear HRES
                    go_wp2
                    go_ret
                    exact ⟨rfl, HZ3.out.k⟩
                · rw [decide_eq_false l2, Bool.false_and] at HRB
                  obtain rfl : rb = false := by rw [HRB.out]
                  clear HRB
                  obtain rfl : res = 10 := by rw [HRES.out]; rfl
                  clear HRES
                  go_wp2
                  go_ret
                  exact ⟨rfl, HZ2.out.k⟩
              · rw [decide_eq_false l1, Bool.false_and] at HRB
                obtain rfl : rb = false := by rw [HRB.out]
                clear HRB
                obtain rfl : res = 10 := by rw [HRES.out]; rfl
                clear HRES
                go_wp2
                go_ret
                exact ⟨rfl, HZ2.out.k⟩
            · rw [decide_eq_false s0, Bool.false_and] at HRB
              have s0' : (site == 0) = false := beq_eq_false_iff_ne.2 s0
              clear s0
              obtain rfl : rb = false := by rw [HRB.out]
              clear HRB
              obtain rfl : res = 10 := by rw [HRES.out]; rfl
              clear HRES
              go_wp2
              go_ret
              exact ⟨rfl, HZ2.out.k⟩
        rw [if_neg k2] at HRB
        by_cases k3 : kind = 3
        · subst k3
          rw [if_pos rfl] at HRB
          cases bare with
          | false =>
            rw [Bool.false_and] at HRB
            obtain rfl : rb = false := by rw [HRB.out]
            clear HRB
            obtain rfl : res = 10 := by rw [HRES.out]; rfl
            clear HRES
            go_wp2
            go_ret
            exact ⟨rfl, HZ2.out.k⟩
          | true =>
            rw [Bool.true_and] at HRB
            by_cases g0 : gl = 0
            · subst g0
              rw [decide_eq_true (rfl : (0 : Nat) = 0), Bool.true_and] at HRB
              go_wp2_with (fail)
              refine (RSite_any site _).mono ?_
              unfold BoolPost
              rintro e hz3 ⟨rfl, hk⟩
              have HZ3 := Lib.hid (HZ2.out.fresh hk)
              clear hk HZ2 c0 c1 c2 c3 c4 c5 c6 c7 c8 c9 c10
              obtain ⟨c0, c1, c2, c3, c4, c5, c6, c7, c8, c9, c10⟩ := HZ3.out.S
              obtain rfl := HRB.out
              clear HRB
              generalize siteB site = rb at HRES ⊢
              cases rb with
              | false =>
                obtain rfl : res = 10 := by rw [HRES.out]; rfl
                clear HRES
                go_wp2
                go_ret
                exact ⟨rfl, HZ3.out.k⟩
              | true =>
                obtain rfl : res = 0 := by rw [HRES.out]; rfl
                clear HRES
                go_wp2
                go_ret
                exact ⟨rfl, HZ3.out.k⟩
            · rw [decide_eq_false g0, Bool.false_and] at HRB
              have g0' : ((gl : Int) == 0) = false := beq_eq_false_iff_ne.2 (by omega)
              obtain rfl : rb = false := by rw [HRB.out]
              clear HRB
              obtain rfl : res = 10 := by rw [HRES.out]; rfl
              clear HRES
              go_wp2
              go_ret
              exact ⟨rfl, HZ2.out.k⟩
        rw [if_neg k3] at HRB
        by_cases k4 : kind = 4
        · subst k4
          rw [if_pos rfl] at HRB
          cases bare with
          | false =>
            rw [Bool.false_and] at HRB
            obtain rfl : rb = false := by rw [HRB.out]
            clear HRB
            obtain rfl : res = 10 := by rw [HRES.out]; rfl
            clear HRES
            go_wp2
            go_ret
            exact ⟨rfl, HZ2.out.k⟩
          | true =>
            rw [Bool.true_and] at HRB
            by_cases g0 : gl = 0
            · subst g0
              rw [decide_eq_true (rfl : (0 : Nat) = 0), Bool.true_and] at HRB
              by_cases s0 : site = 0
              · subst s0
                obtain rfl : rb = true := by rw [HRB.out]; rfl
                clear HRB
                obtain rfl : res = 0 := by rw [HRES.out]; rfl
                clear HRES
                go_wp2
                go_ret
                exact ⟨rfl, HZ2.out.k⟩
              · rw [decide_eq_false s0] at HRB
                have s0' : (site == 0) = false := beq_eq_false_iff_ne.2 s0
                clear s0
                obtain rfl : rb = false := by rw [HRB.out]
                clear HRB
                obtain rfl : res = 10 := by rw [HRES.out]; rfl
                clear HRES
                go_wp2
                go_ret
                exact ⟨rfl, HZ2.out.k⟩
            · rw [decide_eq_false g0, Bool.false_and] at HRB
              have g0' : ((gl : Int) == 0) = false := beq_eq_false_iff_ne.2 (by omega)
              obtain rfl : rb = false := by rw [HRB.out]
              clear HRB
              obtain rfl : res = 10 := by rw [HRES.out]; rfl
              clear HRES
              go_wp2
              go_ret
              exact ⟨rfl, HZ2.out.k⟩
        rw [if_neg k4] at HRB
        have k1' : (kind == 1) = false := beq_eq_false_iff_ne.2 k1
        have k2' : (kind == 2) = false := beq_eq_false_iff_ne.2 k2
        have k3' : (kind == 3) = false := beq_eq_false_iff_ne.2 k3
        have k4' : (kind == 4) = false := beq_eq_false_iff_ne.2 k4
        clear k1 k2 k3 k4
        obtain rfl : rb = false := by rw [HRB.out]
        clear HRB
        obtain rfl : res = 10 := by rw [HRES.out]; rfl
        clear HRES
        go_wp2
        go_ret
        exact ⟨rfl, HZ2.out.k⟩
theorem RefCheck_any (o : Opr) (dA gA : Option Addr) (dc gc : Nat) (w : World) (h : OprAt w dA gA o) : Calls Try.prog 16 #[.agg (o.cells dA dc gA gc)] w (IntPost w (opE o)) := by
  have hi := fun W => RInsert_any o dA gA dc gc W h.tl
  have hr := fun W (hk : Kept (fun _ => False) w W) => RRCheck_any gA o.gone gc W (h.runs.kept hk fun _ _ _ => id) h.counts h.gl
  have hd := h.dots
  have hdl := h.dl
  have hgl := h.gl
  clear h
  have hok : okOp o = ((siteB o.dot.site && (decide (1 ≤ o.dot.seq) && (decide (o.dot.seq ≤ 2147483647) && (decide (checkV o.deps = 0) && decide (getV o.deps o.dot.site = o.dot.seq - 1))))) &&
      (if o.kind = 1 then insB o else if o.kind = 2 then (decide (o.id.time = 0 ∧ o.id.site = 0) && (decide (o.ref.time = 0 ∧ o.ref.site = 0) && decide (o.text.toList = []))) && (decide (o.site = 0) && (decide (1 ≤ o.gone.length) && (decide (o.gone.length ≤ 1024) && decide (chkR [] o.gone = 0))))
        else if o.kind = 3 then (decide (o.id.time = 0 ∧ o.id.site = 0) && (decide (o.ref.time = 0 ∧ o.ref.site = 0) && decide (o.text.toList = []))) && (decide (o.gone.length = 0) && siteB o.site)
        else if o.kind = 4 then (decide (o.id.time = 0 ∧ o.id.site = 0) && (decide (o.ref.time = 0 ∧ o.ref.site = 0) && decide (o.text.toList = []))) && (decide (o.gone.length = 0) && decide (o.site = 0)) else false)) := by
    have e1 : decide (o.id.time = 0 ∧ o.id.site = 0) = decide (o.id = noId) := id_dec o.id noId
    have e2 : decide (o.ref.time = 0 ∧ o.ref.site = 0) = decide (o.ref = noId) := id_dec o.ref noId
    have e3 : decide (o.text.toList = []) = decide (o.text = ⟨#[]⟩) := decide_eq_decide.2 (toList_nil _)
    rw [e1, e2, e3]
    unfold okOp rightB removeB joinB bareB sameRest siteB
    rw [Bool.eq_iff_iff]
    simp only [Bool.and_eq_true, decide_eq_true_eq]
    split
    · simp only [and_assoc]
    · split
      · simp only [Bool.and_eq_true, decide_eq_true_eq, and_assoc]
        exact Iff.rfl
      · split
        · simp only [Bool.and_eq_true, decide_eq_true_eq, and_assoc]
          constructor
          · rintro ⟨a, b, c, d, e, f, g, h, i, j, -, k⟩; exact ⟨a, b, c, d, e, f, h, i, j, g, k⟩
          · rintro ⟨a, b, c, d, e, f, h, i, j, g, k⟩; exact ⟨a, b, c, d, e, f, g, h, i, j, trivial, k⟩
        · split
          · simp only [Bool.and_eq_true, decide_eq_true_eq, and_assoc]
            constructor
            · rintro ⟨a, b, c, d, e, f, g, h, i, j, k⟩; exact ⟨a, b, c, d, e, f, h, i, j, g, k⟩
            · rintro ⟨a, b, c, d, e, f, h, i, j, g, k⟩; exact ⟨a, b, c, d, e, f, g, h, i, j, k⟩
          · simp
  unfold opE
  rw [hok]
  obtain ⟨⟨ds, dq⟩, deps, kind, ⟨it, is⟩, ⟨rt, rs⟩, text, gone, site⟩ := o
  exact r8chk ds dq kind it is rt rs site deps text dA gA dc gone.length gc w _ _ _ _ _ _ _ _ _ (Lib.hid rfl) (Lib.hid hi) (Lib.hid hr) (Lib.hid fun W => RSite_any ds W) (Lib.hid fun W h => RCheck_any dA deps dc W h (Nat.le_trans hdl (by decide))) (Lib.hid fun W h => RGet_any dA deps dc ds W h (Nat.le_trans hdl (by decide))) hd hgl (Lib.hid rfl) (Lib.hid rfl) (Lib.hid rfl)
end Go.Proofs.Ytnlklhlnnoihiaa

namespace Go.Proofs.Ytnlklhlnnoihiaa
open Go Go.RowKit

def maxG (t : Int) (l : List Rn) : Int := l.foldl (fun t r => max t (r.id.time + r.count - 1)) t
/-- The latest time that stands in an operation. -/
def lastO (o : Opr) : Int := if okOp o = true then (if o.kind = 1 then o.id.time + cnt o.text - 1 else maxG 0 o.gone) else 0
theorem maxG_snoc (l : List Rn) (k : Nat) (h : k < l.length) : maxG 0 (l.take (k + 1)) = max (maxG 0 (l.take k)) (l[k].id.time + l[k].count - 1) := by
  unfold maxG
  rw [List.take_succ_eq_append_getElem h, List.foldl_append]
  rfl
theorem held_takeG {P : Program} {ops : Array Oper} {md : Region.Mode} {Q : Exit → Act → World → Prop} {S : World → Prop} {i : Nat} {oi : Oper} {v : Value} {fuel : Nat} {listed : Array Bool} {a : Act} {w : World} (t : Tmp) (hi : ops[i]? = some oi) (hd : oi.dst = some t)
    (hs : Region.noSelect ops = true) (hf : Region.free md ops listed i = true) (hr : (Region.ready md ops listed).contains i = true)
    (hQ : ∀ c a w, Q (.panic c) (a.put (some t) v) w → Q (.panic c) a w) (hg : Region.wanted oi (yielded ops a.tmps) = true) (hS : S w) (hy : ∀ w, S w → (execOp a.eval oi).run P w = .ok (.value v) w)
    (h : wpAnyH P md ops Q S fuel (listed.setIfInBounds i true) { a with tmps := a.tmps.setIfInBounds t v } w) : wpAnyH P md ops Q S (fuel + 1) listed a w :=
  wpAnyH_take hi hs hf hr (by rw [hd]; exact hQ) (.inl ⟨hg, hy⟩) hS (by rw [hd]; exact h)
theorem maxG_bd (l : List Rn) (h : ∀ r ∈ l, okRn r = true) : ∀ k, k ≤ l.length → 0 ≤ maxG 0 (l.take k) ∧ maxG 0 (l.take k) ≤ 2147483647 := by
  intro k
  induction k with
  | zero => intro _; simp [maxG]
  | succ k ih =>
    intro hk
    obtain ⟨h1, h2⟩ := ih (by omega)
    have hr := h l[k] (List.getElem_mem (by omega))
    rw [okRn_iff, okId_iff] at hr
    rw [maxG_snoc l k (by omega)]
    omega
set_option maxRecDepth 100000 in
set_option maxHeartbeats 1600000 in
theorem latestI_any (it is rt rs : Int) (text : ByteArray) (w : World) (ht : text.size ≤ 1000000) (h1 : 0 ≤ it) (h2 : it ≤ 2147483647) (hc : cnt text ≤ 1024) (hc0 : 0 < cnt text) :
    Calls Try.prog 98 #[.agg #[.int .i64 it, .int .i64 is, .int .i64 rt, .int .i64 rs, .string text]] w (IntPost w (it + cnt text - 1)) := by
  have HB := Lib.hid (Box.new w 114 #[.int .i64 it, .int .i64 is, .int .i64 rt, .int .i64 rs, .string text])
  have HK := Lib.hid ((Kept.refl (fun _ => False) w).alloc (.cells #[.int .i64 it, .int .i64 is, .int .i64 rt, .int .i64 rs, .string text] 114))
  have HC := Lib.hid (fun W => Count_any text W (by omega))
  obtain ⟨n, hn⟩ : ∃ n, cnt text = n := ⟨_, rfl⟩
  rw [hn] at HC hc hc0 ⊢
  have hw1 : IntKind.i64.wrap (it + (n : Int)) = it + (n : Int) := IntWalk.i64_in _ ⟨by omega, by omega⟩
  have hw2 : IntKind.i64.wrap (it + (n : Int) - 1) = it + (n : Int) - 1 := IntWalk.i64_in _ ⟨by omega, by omega⟩
  clear hn
  go_enter Try.func98, Try.ntmps98
  go_upto_region 1 with (fail)
  have HB1 := Lib.hid (HB.out.kept (Kept.refl (fun _ => False) _).drew id)
  have HK1 := Lib.hid (HK.out.trans (Kept.refl (fun _ => False) _).drew fun _ _ e => e)
  clear HB HK
  refine wp_region_held_drew (S := fun Wz => Kept (fun _ => False) (w.alloc (.cells #[.int .i64 it, .int .i64 is, .int .i64 rt, .int .i64 rs, .string text] 114)).drew Wz) (by kernel_rfl) (Kept.refl _ _) fun hS => ?_
  generalize (w.alloc (.cells #[.int .i64 it, .int .i64 is, .int .i64 rt, .int .i64 rs, .string text] 114)).drew = w1 at HB1 HK1 hS ⊢
  refine held_takeTo 3 (i := 0) (v := .pointer (some ⟨w.heap.size, 0, none⟩)) rfl rfl (by kernel_rfl) (by kernel_rfl) (by kernel_rfl) (fun _ _ _ h => h) rfl hS (fun Wz hW => by go_simp) ?_
  simp only [List.setIfInBounds_toArray, List.set_cons_zero, List.set_cons_succ]
  refine held_takeTo 4 (i := 1) (v := .pointer (some ⟨w.heap.size, 0, none⟩)) rfl rfl (by kernel_rfl) (by kernel_rfl) (by kernel_rfl) (fun _ _ _ h => h) rfl hS (fun Wz hW => by go_simp) ?_
  simp only [List.setIfInBounds_toArray, List.set_cons_zero, List.set_cons_succ]
  refine held_takeTo 5 (i := 2) (v := .int .i64 it) rfl rfl (by kernel_rfl) (by kernel_rfl) (by kernel_rfl) (fun _ _ _ h => h) rfl hS (fun Wz hW => by (have h0 : Wz.cell? ⟨w.heap.size, 0, none⟩ = some (.int .i64 it) := (by simpa using (HB1.out.kept hW id).cell 0); go_simp)) ?_
  simp only [List.setIfInBounds_toArray, List.set_cons_zero, List.set_cons_succ]
  refine held_takeTo 6 (i := 3) (v := .pointer (some ⟨w.heap.size, 4, none⟩)) rfl rfl (by kernel_rfl) (by kernel_rfl) (by kernel_rfl) (fun _ _ _ h => h) rfl hS (fun Wz hW => by go_simp) ?_
  simp only [List.setIfInBounds_toArray, List.set_cons_zero, List.set_cons_succ]
  refine held_takeTo 7 (i := 4) (v := .string text) rfl rfl (by kernel_rfl) (by kernel_rfl) (by kernel_rfl) (fun _ _ _ h => h) rfl hS (fun Wz hW => by (have h0 : Wz.cell? ⟨w.heap.size, 4, none⟩ = some (.string text) := (by simpa using (HB1.out.kept hW id).cell 4); go_simp)) ?_
  simp only [List.setIfInBounds_toArray, List.set_cons_zero, List.set_cons_succ]
  refine held_one (i := 5) (by kernel_rfl) rfl fun K hK => ?_
  go_wp2_with (fail)
  refine (HC.out w1).mono ?_
  unfold IntPost
  rintro e w3 ⟨rfl, hk3⟩
  go_wp2_with (fail)
  refine hK.out _ _ hk3 fun _ => ?_
  clear hK K
  refine held_one (i := 6) (by kernel_rfl) rfl fun K hK => ?_
  go_wp2_with (fail)
  refine hK.out _ _ hk3 fun _ => ?_
  clear hK K
  refine held_one (i := 7) (by kernel_rfl) rfl fun K hK => ?_
  go_wp2_with (fail)
  refine hK.out _ _ hk3 fun _ => ?_
  clear hK K
  refine held_one (i := 8) (by kernel_rfl) rfl fun K hK => ?_
  go_wp2_with (fail)
  refine hK.out _ _ hk3 fun _ => ?_
  clear hK K
  refine wpAnyH_done (by kernel_rfl) ?_ _
  have HK3 := Lib.hid (HK1.out.trans hk3 fun _ _ e => e)
  clear hS hk3
  go_wp2_with (fail)
  go_ret
  exact ⟨rfl, HK3.out⟩
set_option maxRecDepth 100000 in
set_option maxHeartbeats 1600000 in
theorem latestR_any (A : Option Addr) (gone : List Rn) (c : Nat) (w : World) (hr : RunsAt w A gone) (hk : ∀ r ∈ gone, okRn r = true) (hl : gone.length ≤ 1024) :
    Calls Try.prog 110 #[.agg #[.slice A gone.length c]] w (IntPost w (maxG 0 gone)) := by
  have hk0 : Kept (fun _ => False) w (w.alloc (.cells #[.slice A gone.length c] 116)) := (Kept.refl _ _).alloc _
  have HK := Lib.hid hk0
  have HR := Lib.hid (hr.fresh hk0)
  have HB := Lib.hid (Box.new w 116 #[.slice A gone.length c])
  have HOKR := Lib.hid hk
  clear hr hk hk0
  go_enter Try.func110, Try.ntmps110
  go_upto_region 1 with (fail)
  generalize w.alloc (.cells #[.slice A gone.length c] 116) = w0 at HK HR HB ⊢
  have b0 : w0.cell? ⟨w.heap.size, 0, none⟩ = some (.slice A gone.length c) := by simpa using HB.out.cell 0
  go_wp2_with (fail)
  go_loopw [9, 3] (fun i t wr => ∃ k : Nat, i = .int .i64 k ∧ t = .int .i64 (maxG 0 (gone.take k)) ∧ k ≤ gone.length ∧ Kept (fun _ => False) w0 wr) (fun i _ _ => gone.length - (intOf i).toNat)
  case atStart => exact ⟨0, rfl, rfl, Nat.zero_le _, Kept.refl _ _⟩
  case round =>
    obtain ⟨k, rfl, rfl, hk, hkk⟩ := hrel
    have HKK := Lib.hid hkk
    clear b0
    by_cases hlt : k < gone.length
    · obtain ⟨ad, rfl, x0, x1, x2⟩ := (HR.out.fresh hkk) k hlt
      have hsn := maxG_snoc gone k hlt
      have hok := HOKR.out gone[k] (List.getElem_mem hlt)
      obtain ⟨hb0, hb1⟩ := maxG_bd gone HOKR.out k (by omega)
      generalize gone[k] = q at x0 x1 x2 hsn hok
      obtain ⟨⟨t, s⟩, n⟩ := q
      simp only at x0 x1 x2 hsn
      rw [okRn_iff, okId_iff] at hok
      simp only at hok
      have HSN := Lib.hid hsn
      generalize maxG 0 (gone.take k) = mx at hb0 hb1 HSN ⊢
      have hw1 : IntKind.i64.wrap (t + n) = t + n := IntWalk.i64_in _ ⟨by omega, by omega⟩
      have hw2 : IntKind.i64.wrap (t + n - 1) = t + n - 1 := IntWalk.i64_in _ ⟨by omega, by omega⟩
      have HK2 := Lib.hid (hkk.trans ((Kept.refl (fun _ => False) wr).alloc (.cells #[.int .i64 t, .int .i64 s, .int .i64 n] 32)) fun _ _ e => e)
      clear hsn hkk HKK
      go_wp2_with (fail)
      go_roundw
      case rel => exact ⟨k + 1, by go_num, by rw [HSN.out]; try rfl, by omega, HK2.out⟩
      case measure => simp [intOf]; omega
    · obtain rfl : k = gone.length := by omega
      rw [List.take_length]
      clear hkk
      have HK2 := Lib.hid (HK.out.trans HKK.out fun _ _ e => e)
      clear HKK HK
      go_wp2_with (fail)
      go_ret
      exact ⟨rfl, HK2.out⟩
set_option maxRecDepth 100000 in
theorem latestJ_any (s : Int) (w : World) : Calls Try.prog 120 #[.agg #[.int .i64 s]] w (IntPost w 0) := by
  have HK := Lib.hid ((Kept.refl (fun _ => False) w).alloc (.cells #[.int .i64 s] 118))
  go_enter Try.func120, Try.ntmps120
  go_wp2_with (fail)
  go_ret
  exact ⟨rfl, HK.out⟩
set_option maxRecDepth 100000 in
theorem latestL_any (w : World) : Calls Try.prog 124 #[.agg #[]] w (IntPost w 0) := by
  have HK := Lib.hid ((Kept.refl (fun _ => False) w).alloc (.cells #[] 120))
  go_enter Try.func124, Try.ntmps124
  go_wp2_with (fail)
  go_ret
  exact ⟨rfl, HK.out⟩
set_option maxRecDepth 100000 in
set_option maxHeartbeats 1600000 in
theorem Last_no (x : Lop) (w : World) (hx : x.At w) (hs : x.o.Small) (hok : okOp x.o = false) : Calls Try.prog 17 #[.agg x.c] w (IntPost w 0) := by
  have hk0 : Kept (fun _ => False) w (w.alloc (.cells x.c 30)) := (Kept.refl _ _).alloc _
  have HK0 := Lib.hid hk0
  have HC := Lib.hid (fun W (hW : x.At W) => OpCheck_any x.o x.dA x.gA x.dc x.gc W (hW.opr hs))
  have HXC := Lib.hid (show x.o.cells x.dA x.dc x.gA x.gc = x.c from rfl)
  have HE := Lib.hid (show opE x.o = 10 by unfold opE; rw [hok]; rfl)
  have HB := Lib.hid (Box.new w 30 x.c)
  have HX := Lib.hid (hx.fresh hk0)
  obtain ⟨cs, hcs⟩ : ∃ cs, x.c = cs := ⟨_, rfl⟩
  have HSZ := Lib.hid (show cs.size = 11 by rw [← hcs]; rfl)
  rw [hcs] at HXC HB HX HK0 ⊢
  clear hx hs hok hk0 hcs
  go_enter Try.func17, Try.ntmps17
  go_upto_region 1 with (fail)
  generalize w.alloc (.cells cs 30) = w0 at HK0 HB HX ⊢
  go_wp2_with (refine wpList_load_op rfl _ rfl w.heap.size rfl _ cs HSZ.out HB.out ?_)
  have hcall := HC.out w0 HX.out
  rw [HXC.out, HE.out] at hcall
  refine hcall.mono ?_
  unfold IntPost
  rintro r1 w1 ⟨rfl, hk1⟩
  have HK1 := Lib.hid (HK0.out.trans hk1 fun _ _ e => e)
  clear hk1 hcall
  go_wp2_with (fail)
  go_ret
  exact ⟨rfl, HK1.out⟩
set_option maxRecDepth 100000 in
set_option maxHeartbeats 1600000 in
theorem Last_kind (x : Lop) (w : World) (T : TypeId) (v : Value) (K : Nat) (r : Value) (n : Int) (hx : x.At w) (hs : x.o.Small) (hok : okOp x.o = true)
    (HOF : Hid (∀ W, Calls Try.prog 45 #[.agg x.c] W (OfPost W (.iface T v))))
    (hm : ∀ W : World, (method 270 T v "hearsay/op.latest").run Try.prog W = .ok (K, r) W) (hcf : ∀ (W : World) (a : Array Value), (callFunc K a).run Try.prog W = .ok (.enter K a) W)
    (HP : Hid (∀ W : World, x.At W → Calls Try.prog K #[r] W (IntPost W n))) : Calls Try.prog 17 #[.agg x.c] w (IntPost w n) := by
  have hk0 : Kept (fun _ => False) w (w.alloc (.cells x.c 30)) := (Kept.refl _ _).alloc _
  have HK0 := Lib.hid hk0
  have HC := Lib.hid (fun W (hW : x.At W) => OpCheck_any x.o x.dA x.gA x.dc x.gc W (hW.opr hs))
  have HXC := Lib.hid (show x.o.cells x.dA x.dc x.gA x.gc = x.c from rfl)
  have HE := Lib.hid (show opE x.o = 0 by unfold opE; rw [hok]; rfl)
  have HB := Lib.hid (Box.new w 30 x.c)
  have HX := Lib.hid (hx.fresh hk0)
  obtain ⟨cs, hcs⟩ : ∃ cs, x.c = cs := ⟨_, rfl⟩
  have HSZ := Lib.hid (show cs.size = 11 by rw [← hcs]; rfl)
  rw [hcs] at HXC HB HX HK0 HOF ⊢
  clear hx hs hok hk0 hcs
  go_enter Try.func17, Try.ntmps17
  go_upto_region 1 with (fail)
  generalize w.alloc (.cells cs 30) = w0 at HK0 HB HX ⊢
  go_wp2_with (refine wpList_load_op rfl _ rfl w.heap.size rfl _ cs HSZ.out HB.out ?_)
  have hcall := HC.out w0 HX.out
  rw [HXC.out, HE.out] at hcall
  refine hcall.mono ?_
  unfold IntPost
  rintro r1 w1 ⟨rfl, hk1⟩
  have HK1 := Lib.hid (HK0.out.trans hk1 fun _ _ e => e)
  have HB1 := Lib.hid (HB.out.kept hk1 id)
  have HX1 := Lib.hid (HX.out.fresh hk1)
  clear hk1 hcall HC HXC HE HK0 HB HX
  go_wp2_with (refine wpList_load_op rfl _ rfl w.heap.size rfl _ cs HSZ.out HB1.out ?_)
  refine (HOF.out w1).mono ?_
  unfold OfPost
  rintro r2 w2 ⟨rfl, hk2⟩
  have HK2 := Lib.hid (HK1.out.trans hk2 fun _ _ e => e)
  have hcall := HP.out w2 (HX1.out.fresh hk2)
  clear hk2 HK1 HB1 HX1
  go_wp2_with (fail)
  refine hcall.mono ?_
  unfold IntPost
  rintro r3 w3 ⟨rfl, hk3⟩
  have HK3 := Lib.hid (HK2.out.trans hk3 fun _ _ e => e)
  clear hk3 hcall
  go_wp2_with (fail)
  go_ret
  exact ⟨rfl, HK3.out⟩
theorem OpLast_any (x : Lop) (w : World) (hx : x.At w) (hs : x.o.Small) : Calls Try.prog 17 #[.agg x.c] w (IntPost w (lastO x.o)) := by
  unfold lastO
  cases hok : okOp x.o with
  | false => exact Last_no x w hx hs hok
  | true =>
    rw [if_pos rfl]
    have hf := okOp_f hok
    have hof := fun W => opof_any x.o x.dA x.gA x.dc x.gc W
    unfold ofV at hof
    rcases hf.kd with ⟨k1, hgo, hsi, hc0, hc1, hb, his, hid, hti, href, hlt⟩ | ⟨k2, hid, href, htx, hsi, hg0, hg1, hck⟩ | ⟨k3, hgo, hid, href, htx, hs1, hs2⟩ | ⟨k4, hgo, hid, href, htx, hsi⟩
    · simp only [if_pos k1] at hof
      rw [if_pos k1]
      rw [okId_iff] at hid
      exact Last_kind x w _ _ 98 (.agg #[.int .i64 x.o.id.time, .int .i64 x.o.id.site, .int .i64 x.o.ref.time, .int .i64 x.o.ref.site, .string x.o.text]) _ hx hs hok (Lib.hid hof) (fun _ => by kernel_rfl) (fun _ _ => by kernel_rfl) (Lib.hid fun W _ => latestI_any _ _ _ _ x.o.text W hs.tl (by omega) (by omega) hc1 hc0)
    · simp only [k2, if_true, if_neg (show ¬ (2 : Int) = 1 by decide)] at hof
      rw [if_neg (by rw [k2]; decide)]
      exact Last_kind x w _ _ 110 (.agg #[.slice x.gA x.o.gone.length x.gc]) _ hx hs hok (Lib.hid hof) (fun _ => by kernel_rfl) (fun _ _ => by kernel_rfl) (Lib.hid fun W hxW => latestR_any x.gA x.o.gone x.gc W hxW.g (chkR_all _ _ hck) hg1)
    · simp only [k3, if_true, if_neg (show ¬ (3 : Int) = 1 by decide), if_neg (show ¬ (3 : Int) = 2 by decide)] at hof
      rw [if_neg (by rw [k3]; decide), hgo]
      exact Last_kind x w _ _ 120 (.agg #[.int .i64 x.o.site]) _ hx hs hok (Lib.hid hof) (fun _ => by kernel_rfl) (fun _ _ => by kernel_rfl) (Lib.hid fun W _ => latestJ_any x.o.site W)
    · simp only [k4, if_true, if_neg (show ¬ (4 : Int) = 1 by decide), if_neg (show ¬ (4 : Int) = 2 by decide), if_neg (show ¬ (4 : Int) = 3 by decide)] at hof
      rw [if_neg (by rw [k4]; decide), hgo]
      exact Last_kind x w _ _ 124 (.agg #[]) _ hx hs hok (Lib.hid hof) (fun _ => by kernel_rfl) (fun _ _ => by kernel_rfl) (Lib.hid fun W _ => latestL_any W)

set_option maxRecDepth 100000 in
set_option maxHeartbeats 3200000 in
theorem RLast_any (x : Lop) (w : World) (hx : x.At w) (hs : x.o.Small) : Calls Try.prog 18 #[.agg x.c] w (IntPost w (lastO x.o)) := by
  have hk0 : Kept (fun _ => False) w (w.alloc (.cells x.c 30)) := (Kept.refl _ _).alloc _
  have HK0 := Lib.hid hk0
  have HC := Lib.hid (fun W (hW : x.At W) => RefCheck_any x.o x.dA x.gA x.dc x.gc W (hW.opr hs))
  have HXC := Lib.hid (show x.o.cells x.dA x.dc x.gA x.gc = x.c from rfl)
  have HB := Lib.hid (Box.new w 30 x.c)
  have HX := Lib.hid (hx.fresh hk0)
  have hdl := hs.gl
  have HCN := Lib.hid (fun W => RCount_any x.o.text W hs.tl)
  obtain ⟨cs, hcs⟩ : ∃ cs, x.c = cs := ⟨_, rfl⟩
  have HSZ := Lib.hid (show cs.size = 11 by rw [← hcs]; rfl)
  have HC3 := Lib.hid (show cs[3]? = some (.int .i64 x.o.kind) by rw [← hcs]; rfl)
  have HC4 := Lib.hid (show cs[4]? = some (.int .i64 x.o.id.time) by rw [← hcs]; rfl)
  have HC8 := Lib.hid (show cs[8]? = some (.string x.o.text) by rw [← hcs]; rfl)
  have HC9 := Lib.hid (show cs[9]? = some (.slice x.gA x.o.gone.length x.gc) by rw [← hcs]; rfl)
  rw [hcs] at HXC HB HX HK0 ⊢
  obtain ⟨res, hres⟩ : ∃ res, lastO x.o = res := ⟨_, rfl⟩
  have HRES := Lib.hid hres
  rw [hres]
  cases hok : okOp x.o with
  | false =>
    have HE := Lib.hid (show opE x.o = 10 by unfold opE; rw [hok]; rfl)
    have HR0 := Lib.hid (show (0 : Int) = res by rw [← hres]; unfold lastO; rw [hok]; rfl)
    clear hx hs hok hk0 hcs hres
    go_enter Try.func18, Try.ntmps18
    go_upto_region 1 with (fail)
    generalize w.alloc (.cells cs 30) = w0 at HK0 HB HX ⊢
    go_wp2_with (refine wpList_load_op rfl _ rfl w.heap.size rfl _ cs HSZ.out HB.out ?_)
    have hcall := HC.out w0 HX.out
    rw [HXC.out, HE.out] at hcall
    refine hcall.mono ?_
    unfold IntPost
    rintro r1 w1 ⟨rfl, hk1⟩
    have HK1 := Lib.hid (HK0.out.trans hk1 fun _ _ e => e)
    clear hk1 hcall
    go_wp2_with (fail)
    go_ret
    rw [← HR0.out]
    exact ⟨rfl, HK1.out⟩
  | true =>
    have HE := Lib.hid (show opE x.o = 0 by unfold opE; rw [hok]; rfl)
    have hf := okOp_f hok
    have hr : (if x.o.kind = 1 then x.o.id.time + cnt x.o.text - 1 else maxG 0 x.o.gone) = res := by rw [← hres]; unfold lastO; rw [hok, if_pos rfl]
    clear hx hs hok hk0 hcs hres
    go_enter Try.func18, Try.ntmps18
    go_upto_region 1 with (fail)
    generalize w.alloc (.cells cs 30) = w0 at HK0 HB HX ⊢
    go_wp2_with (refine wpList_load_op rfl _ rfl w.heap.size rfl _ cs HSZ.out HB.out ?_)
    have hcall := HC.out w0 HX.out
    rw [HXC.out, HE.out] at hcall
    refine hcall.mono ?_
    unfold IntPost
    rintro r1 w1 ⟨rfl, hk1⟩
    have HK1 := Lib.hid (HK0.out.trans hk1 fun _ _ e => e)
    have HB1 := Lib.hid (HB.out.kept hk1 id)
    have HX1 := Lib.hid (HX.out.fresh hk1)
    clear hk1 hcall HC HXC HE HK0 HB HX
    have b3 : w1.cell? ⟨w.heap.size, 3, none⟩ = some (.int .i64 x.o.kind) := (HB1.out.cell 3).trans HC3.out
    by_cases k1 : x.o.kind = 1
    · rw [if_pos k1] at hr
      obtain ⟨hid, hc0, hc1, hti⟩ : okId x.o.id = true ∧ 0 < cnt x.o.text ∧ cnt x.o.text ≤ 1024 ∧ (cnt x.o.text : Int) - 1 ≤ 2147483647 - x.o.id.time := by
        rcases hf.kd with ⟨-, -, -, hc0, hc1, -, -, hid, hti, -⟩ | ⟨k, -⟩ | ⟨k, -⟩ | ⟨k, -⟩
        · exact ⟨hid, hc0, hc1, hti⟩
        all_goals (rw [k1] at k; exact absurd k (by decide))
      rw [okId_iff] at hid
      rw [k1] at b3
      have HR := Lib.hid hr
      generalize cnt x.o.text = n at HCN HR hc0 hc1 hti
      obtain ⟨it, hit⟩ : ∃ it, x.o.id.time = it := ⟨_, rfl⟩
      rw [hit] at hid hti HR HC4
      have hw1 : IntKind.i64.wrap (it + (n : Int)) = it + (n : Int) := IntWalk.i64_in _ ⟨by omega, by omega⟩
      have hw2 : IntKind.i64.wrap (it + (n : Int) - 1) = it + (n : Int) - 1 := IntWalk.i64_in _ ⟨by omega, by omega⟩
      clear hr hf hit k1
      go_upto_region 4 with (fail)
      have HB2 := Lib.hid (HB1.out.kept (Kept.refl (fun _ => False) _).drew id)
      have HK2 := Lib.hid (HK1.out.trans (Kept.refl (fun _ => False) _).drew fun _ _ e => e)
      clear HB1 HK1 HX1 b3
      refine wp_region_held_drew (S := fun Wz => Kept (fun _ => False) w1.drew Wz) (by kernel_rfl) (Kept.refl _ _) fun hS => ?_
      generalize w1.drew = w2 at HB2 HK2 hS ⊢
      refine held_takeTo 12 (i := 0) (v := .pointer (some ⟨w.heap.size, 4, none⟩)) rfl rfl (by kernel_rfl) (by kernel_rfl) (by kernel_rfl) (fun _ _ _ h => h) rfl hS (fun Wz hW => by go_simp) ?_
      simp only [List.setIfInBounds_toArray, List.set_cons_zero, List.set_cons_succ]
      refine held_takeTo 13 (i := 1) (v := .pointer (some ⟨w.heap.size, 4, none⟩)) rfl rfl (by kernel_rfl) (by kernel_rfl) (by kernel_rfl) (fun _ _ _ h => h) rfl hS (fun Wz hW => by go_simp) ?_
      simp only [List.setIfInBounds_toArray, List.set_cons_zero, List.set_cons_succ]
      refine held_takeTo 14 (i := 2) (v := .int .i64 it) rfl rfl (by kernel_rfl) (by kernel_rfl) (by kernel_rfl) (fun _ _ _ h => h) rfl hS (fun Wz hW => by (have h0 : Wz.cell? ⟨w.heap.size, 4, none⟩ = some (.int .i64 it) := ((HB2.out.kept hW id).cell 4).trans HC4.out; go_simp)) ?_
      simp only [List.setIfInBounds_toArray, List.set_cons_zero, List.set_cons_succ]
      refine held_takeTo 15 (i := 3) (v := .pointer (some ⟨w.heap.size, 8, none⟩)) rfl rfl (by kernel_rfl) (by kernel_rfl) (by kernel_rfl) (fun _ _ _ h => h) rfl hS (fun Wz hW => by go_simp) ?_
      simp only [List.setIfInBounds_toArray, List.set_cons_zero, List.set_cons_succ]
      refine held_takeTo 16 (i := 4) (v := .string x.o.text) rfl rfl (by kernel_rfl) (by kernel_rfl) (by kernel_rfl) (fun _ _ _ h => h) rfl hS (fun Wz hW => by (have h0 : Wz.cell? ⟨w.heap.size, 8, none⟩ = some (.string x.o.text) := ((HB2.out.kept hW id).cell 8).trans HC8.out; go_simp)) ?_
      simp only [List.setIfInBounds_toArray, List.set_cons_zero, List.set_cons_succ]
      refine held_one (i := 5) (by kernel_rfl) rfl fun K hK => ?_
      go_wp2_with (fail)
      refine (HCN.out w2).mono ?_
      unfold IntPost
      rintro e w3 ⟨rfl, hk3⟩
      go_wp2_with (fail)
      refine hK.out _ _ hk3 fun _ => ?_
      clear hK K
      refine held_one (i := 6) (by kernel_rfl) rfl fun K hK => ?_
      go_wp2_with (fail)
      refine hK.out _ _ hk3 fun _ => ?_
      clear hK K
      refine held_one (i := 7) (by kernel_rfl) rfl fun K hK => ?_
      go_wp2_with (fail)
      refine hK.out _ _ hk3 fun _ => ?_
      clear hK K
      refine held_one (i := 8) (by kernel_rfl) rfl fun K hK => ?_
      go_wp2_with (fail)
      refine hK.out _ _ hk3 fun _ => ?_
      clear hK K
      refine wpAnyH_done (by kernel_rfl) ?_ _
      have HK3 := Lib.hid (HK2.out.trans hk3 fun _ _ e => e)
      clear hS hk3
      go_wp2_with (fail)
      go_ret
      rw [← HR.out]
      exact ⟨rfl, HK3.out⟩
    · rw [if_neg k1] at hr
      have HR := Lib.hid hr
      have hokr : ∀ r ∈ x.o.gone, okRn r = true := by
        rcases hf.kd with ⟨k, -⟩ | ⟨-, -, -, -, -, -, -, hck⟩ | ⟨-, hgo, -⟩ | ⟨-, hgo, -⟩
        · exact absurd k k1
        · exact chkR_all _ _ hck
        · rw [hgo]; exact fun r hr => absurd hr (by simp)
        · rw [hgo]; exact fun r hr => absurd hr (by simp)
      have HOKR := Lib.hid hokr
      have hne : (x.o.kind == 1) = false := beq_eq_false_iff_ne.2 k1
      have HG := Lib.hid HX1.out.g
      have b9 : w1.cell? ⟨w.heap.size, 9, none⟩ = some (.slice x.gA x.o.gone.length x.gc) := (HB1.out.cell 9).trans HC9.out
      clear hr hf hokr
      go_wp2_with (fail)
      go_loopw [3, 4] (fun t i wr => ∃ k : Nat, i = .int .i64 k ∧ t = .int .i64 (maxG 0 (x.o.gone.take k)) ∧ k ≤ x.o.gone.length ∧ Kept (fun _ => False) w1 wr) (fun _ i _ => x.o.gone.length - (intOf i).toNat)
      case atStart => exact ⟨0, rfl, rfl, Nat.zero_le _, Kept.refl _ _⟩
      case round =>
        obtain ⟨k, rfl, rfl, hk, hkk⟩ := hrel
        have HKK := Lib.hid hkk
        clear b3 b9
        have b9 : wr.cell? ⟨w.heap.size, 9, none⟩ = some (.slice x.gA x.o.gone.length x.gc) := ((HB1.out.kept hkk id).cell 9).trans HC9.out
        by_cases hlt : k < x.o.gone.length
        · obtain ⟨ad, hA, x0, x1, x2⟩ := (HG.out.fresh hkk) k hlt
          rw [hA] at b9
          have hsn := maxG_snoc x.o.gone k hlt
          have hokk := HOKR.out x.o.gone[k] (List.getElem_mem hlt)
          obtain ⟨hb0, hb1⟩ := maxG_bd x.o.gone HOKR.out k (by omega)
          generalize x.o.gone[k] = q at x0 x1 x2 hsn hokk
          obtain ⟨⟨t, s⟩, n⟩ := q
          simp only at x0 x1 x2 hsn
          rw [okRn_iff, okId_iff] at hokk
          simp only at hokk
          have HSN := Lib.hid hsn
          generalize maxG 0 (x.o.gone.take k) = mx at hb0 hb1 HSN ⊢
          have hw1 : IntKind.i64.wrap (t + n) = t + n := IntWalk.i64_in _ ⟨by omega, by omega⟩
          have hw2 : IntKind.i64.wrap (t + n - 1) = t + n - 1 := IntWalk.i64_in _ ⟨by omega, by omega⟩
          have hk0 : (0 : Int) ≤ (k : Int) := by omega
          have hk1' : (k : Int) < (x.o.gone.length : Int) := by omega
          have hk2 : ¬ ((x.o.gone.length : Int) ≤ (k : Int)) := by omega
          clear hsn hkk hA
          go_upto_region 9 with (fail)
          go_quiet (fail)
          have HK2 := Lib.hid (HKK.out.trans ((Kept.refl (fun _ => False) wr).drewN nq) fun _ _ e => e)
          by_cases hgt : mx < t + n - 1
          · have HM := Lib.hid (show max mx (t + n - 1) = t + n - 1 by omega)
            go_wp2_with (fail)
            go_roundw
            case rel => exact ⟨k + 1, by go_num, by rw [HSN.out, HM.out], by omega, HK2.out⟩
            case measure => simp [intOf]; omega
          · have HM := Lib.hid (show max mx (t + n - 1) = mx by omega)
            go_wp2_with (fail)
            go_roundw
            case rel => exact ⟨k + 1, by go_num, by rw [HSN.out, HM.out], by omega, HK2.out⟩
            case measure => simp [intOf]; omega
        · obtain rfl : k = x.o.gone.length := by omega
          rw [List.take_length]
          clear hkk
          have HK2 := Lib.hid (HK1.out.trans HKK.out fun _ _ e => e)
          clear HKK HK1
          go_wp2_with (fail)
          go_ret
          rw [← HR.out]
          exact ⟨rfl, HK2.out⟩
end Go.Proofs.Ytnlklhlnnoihiaa
