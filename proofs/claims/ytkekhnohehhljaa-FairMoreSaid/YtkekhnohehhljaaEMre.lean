/- FairMore walked. Conditions: the lists lie in memory; the last steps are ints. -/
import Derived.Test.YtkekhnohehhljaaETwo
import Derived.BigQuiet
import Derived.Great.Walk
namespace Go.Proofs.Ytkekhnohehhljaa
open Go Go.Shelf Go.RowKit Go.Lib Go.Sort

theorem wpList_unguard {P : Program} {ops : Array Oper} {Q : Exit → Act → World → Prop} {a : Act} {w : World} {rest : List Oper} {o : Oper} (hw : Region.wanted o (yielded ops a.tmps) = true) (h : wpList P ops Q ({ o with guard := none } :: rest) a w) : wpList P ops Q (o :: rest) a w := by
  unfold wpList at h ⊢
  rw [if_pos hw]
  rw [if_pos (by rfl)] at h
  exact h
theorem built_ev (e : Ev) : Try.prog.builtSlice 35 1 [(0, .agg #[.int .i64 e.step, .int .i64 e.kind, .int .i64 e.copy, .int .i64 e.src, .int .i64 e.dst, .int .i64 e.sent, .bool e.bad])] = some #[.int .i64 e.step, .int .i64 e.kind, .int .i64 e.copy, .int .i64 e.src, .int .i64 e.dst, .int .i64 e.sent, .bool e.bad] := by
  obtain ⟨i, z, hi, hz, hsz, hby, hzs⟩ := eltEvs.info
  obtain ⟨i', hi', hz', _⟩ := info_parts info_ev
  obtain rfl : i = i' := by rw [hi] at hi'; injection hi'
  obtain rfl := Option.some.inj (hz.symm.trans hz')
  unfold Program.builtSlice
  simp only [hi, hz, hsz]
  rw [if_neg (by decide)]
  kernel_rfl
theorem wpList_one_ev {ops : Array Oper} {rest : List Oper} {o : Oper} {a : Act} {w : World} {Q : Exit → Act → World → Prop} (hg : o.guard = none) (x0 : Operand)
    (ho : o.op = .buildSlice 25 1 #[(0, x0)]) (e : Ev) (h0 : a.eval x0 = .agg #[.int .i64 e.step, .int .i64 e.kind, .int .i64 e.copy, .int .i64 e.src, .int .i64 e.dst, .int .i64 e.sent, .bool e.bad])
    (h : wpList Try.prog ops Q rest (a.put o.dst (.slice (some ⟨w.heap.size, 0, none⟩) 1 1)) (w.alloc (.cells #[.int .i64 e.step, .int .i64 e.kind, .int .i64 e.copy, .int .i64 e.src, .int .i64 e.dst, .int .i64 e.sent, .bool e.bad] 35))) :
    wpList Try.prog ops Q (o :: rest) a w := by
  refine Great.wpList_buildSliceTo hg _ 35 1 _ ho _ rfl _ rfl Try.underlying25 _ ?_ h
  have e' : (#[(0, x0)].map fun ((i, x) : Nat × Operand) => (i, a.eval x)).toList = [(0, a.eval x0)] := by simp
  rw [e', h0]
  exact built_ev ..
theorem evs_app (l r : List Ev) : evs (l ++ r) = evs l ++ evs r := by simp [evs]
theorem ints_app (l r : List Int) : ints (l ++ r) = ints l ++ ints r := by simp [ints]
theorem CellsAt.none_nil {w : World} {A : Option Addr} {xs : List Value} (h : CellsAt w A xs) (e : A = none) : xs = [] := by
  subst e
  cases xs with
  | nil => rfl
  | cons x l =>
    obtain ⟨_, e, _⟩ := h 0 x rfl
    cases e
theorem evs_none {w : World} {A : Option Addr} {l : List Ev} {c : Nat} (h : CellsAt w A (evs l)) (hn : A = none → c = 0) : A = none → l.length = 0 ∧ c = 0 := fun e => ⟨by
  have := congrArg List.length (h.none_nil e)
  rw [evs_len] at this
  simp at this
  omega, hn e⟩
theorem ints_none {w : World} {A : Option Addr} {l : List Int} {c : Nat} (h : CellsAt w A (ints l)) (hn : A = none → c = 0) : A = none → l.length = 0 ∧ c = 0 := fun e => ⟨by
  have := congrArg List.length (h.none_nil e)
  rw [ints_len] at this
  simpa using this, hn e⟩
theorem Wins.le {es es' : List Ev} {live live' : List Int} {s lim lim' : Int} {W W' : List (Int × Int)} (h : Wins es live s lim W) (h' : Wins es' live' s lim' W') (he : ∀ e ∈ es, e ∈ es') (hs : ∀ x ∈ live', x ∈ live) (h2 : Two live → Two live') (hl : lim ≤ lim') : W.length ≤ W'.length := by
  by_cases ht : Two live
  · exact Chain.le hl (fun _ _ _ _ a b hf => hf.mono he hs a b) (Int.le_refl _) (h.1 ht) (h'.1 (h2 ht))
  · rw [h.2 ht]
    exact Nat.zero_le _
theorem Wins.same {es es' : List Ev} {live live' : List Int} {s lim : Int} {W W' : List (Int × Int)} (h : Wins es live s lim W) (h' : Wins es' live' s lim W') (he : ∀ e, e ∈ es ↔ e ∈ es') (hs : ∀ x, x ∈ live ↔ x ∈ live') : W = W' := by
  have ht : Two live ↔ Two live' := ⟨fun ⟨x, hx, y, hy, e⟩ => ⟨x, (hs x).1 hx, y, (hs y).1 hy, e⟩, fun ⟨x, hx, y, hy, e⟩ => ⟨x, (hs x).2 hx, y, (hs y).2 hy, e⟩⟩
  by_cases h2 : Two live
  · exact Chain.unique (fun _ _ => Fit.congr he hs _ _) (h.1 h2) (h'.1 (ht.1 h2))
  · rw [h.2 h2, h'.2 fun c => h2 (ht.2 c)]
/-- The sites but one. -/
def fewOf (l : List Int) (x : Int) : List Int := l.filter fun y => y != x
theorem few_step {l : List Int} {k : Nat} (hk : k < l.length) (x : Int) : fewOf (l.take (k + 1)) x = if l[k] = x then fewOf (l.take k) x else fewOf (l.take k) x ++ [l[k]] := by
  rw [List.take_succ_eq_append_getElem hk]
  unfold fewOf
  rw [List.filter_append]
  by_cases h : l[k] = x
  · simp [h]
  · simp [h]
theorem two_snoc (F : List Int) (x : Int) : Two (F ++ [x]) ↔ (Two F ∨ x ≠ (F ++ [x]).getD 0 0) := by
  rw [← two_to (F ++ [x]) (k := F.length + 1) (by simp), ← two_to F (Nat.le_refl _), TwoTo.step (by simp)]
  have e1 : (F ++ [x]).getD F.length 0 = x := by simp [List.getD]
  rw [e1]
  refine or_congr_left ⟨?_, ?_⟩
  · rintro ⟨j, h1, _, h3⟩
    refine ⟨j, h1, h1, ?_⟩
    simp only [List.getD] at h3 ⊢
    rwa [List.getElem?_append_left h1, List.getElem?_append_left (by omega)] at h3
  · rintro ⟨j, h1, _, h3⟩
    refine ⟨j, h1, by simp; omega, ?_⟩
    simp only [List.getD] at h3 ⊢
    rwa [List.getElem?_append_left h1, List.getElem?_append_left (by omega)]

set_option maxRecDepth 100000 in
set_option maxHeartbeats 4000000 in
theorem More_walk (AE AM AL : Option Addr) (es more : List Ev) (live : List Int) (cE cM cL : Nat) (other s lim later : Int) (w : World) (hE : CellsAt w AE (evs es)) (hM : CellsAt w AM (evs more)) (hL : CellsAt w AL (ints live))
    (nE : AE = none → cE = 0) (nM : AM = none → cM = 0) (nL : AL = none → cL = 0) (hlim : lim ≤ 9223372036854775807) (hlat : later ≤ 9223372036854775807) :
    Calls Try.prog 6 #[.slice AE es.length cE, .slice AM more.length cM, .slice AL live.length cL, .int .i64 other, .int .i64 s, .int .i64 lim, .int .i64 later] w fun r w' => r = .returned (.bool true) ∧ Kept (fun _ => False) w w' := by
  have HE := Lib.hid hE
  have HM := Lib.hid hM
  have HL := Lib.hid hL
  have NE := Lib.hid (evs_none hE nE)
  have NM := Lib.hid (evs_none hM nM)
  have NL := Lib.hid (ints_none hL nL)
  have HLIM := Lib.hid hlim
  have HLAT := Lib.hid hlat
  have HAW := Lib.hid (fun W => Awake_any W)
  have HG1 := Lib.hid (large_any AE AL es.length cE live.length cL)
  have HG2 := Lib.hid (large_any AM AL more.length cM live.length cL)
  obtain ⟨N, hN⟩ : ∃ N, live.length = N := ⟨_, rfl⟩
  obtain ⟨E, hE'⟩ : ∃ E, es.length = E := ⟨_, rfl⟩
  obtain ⟨M, hM'⟩ : ∃ M, more.length = M := ⟨_, rfl⟩
  rw [hN, hE'] at HG1
  rw [hN, hM'] at HG2
  rw [hE'] at NE
  rw [hM'] at NM
  rw [hN] at NL
  rw [hN, hE', hM']
  have HN := Lib.hid hN
  have HEE := Lib.hid hE'
  have HMM := Lib.hid hM'
  clear hE hM hL nE nM nL hlim hlat hN hE' hM'
  obtain ⟨b1, hb1⟩ : ∃ b1, (decide (300 < E) || decide (40 < N)) = b1 := ⟨_, rfl⟩
  obtain ⟨b2, hb2⟩ : ∃ b2, (decide (300 < M) || decide (40 < N)) = b2 := ⟨_, rfl⟩
  rw [hb1] at HG1
  rw [hb2] at HG2
  have HB1 := Lib.hid hb1
  have HB2 := Lib.hid hb2
  clear hb1 hb2
  go_enter Try.func6, Try.ntmps6
  go_wp2_with (fail)
  refine (HG1.out w).mono ?_
  rintro r w1 ⟨rfl, hw1⟩
  subst hw1
  cases b1 with
  | true =>
    as_aux_lemma =>
    go_wp2_with (fail)
    refine (HAW.out _).mono ?_
    rintro r w2 ⟨rfl, hk⟩
    have HK := Lib.hid hk
    clear hk
    go_wp2_with (fail)
    go_ret
    exact ⟨rfl, HK.out⟩
  | false =>
  go_wp2_with (fail)
  refine (HG2.out _).mono ?_
  rintro r w2 ⟨rfl, hw2⟩
  subst hw2
  cases b2 with
  | true =>
    as_aux_lemma =>
    go_wp2_with (fail)
    refine (HAW.out _).mono ?_
    rintro r w3 ⟨rfl, hk⟩
    have HK := Lib.hid hk
    clear hk
    go_wp2_with (fail)
    go_ret
    exact ⟨rfl, HK.out⟩
  | false =>
    as_aux_lemma =>
    have hb1 := HB1.out
    have hb2 := HB2.out
    simp only [Bool.or_eq_false_iff, decide_eq_false_iff_not, Nat.not_lt] at hb1 hb2
    have HB := Lib.hid (show E ≤ 300 ∧ M ≤ 300 ∧ N ≤ 40 from ⟨hb1.1, hb2.1, hb1.2⟩)
    have HW := Lib.hid (Windows_any AE AL es live cE cL s lim w2 HE.out HL.out (by rw [HN.out]; omega) (by rw [HEE.out]; omega) HLIM.out)
    rw [HN.out, HEE.out] at HW
    clear hb1 hb2 HB1 HB2 HG1 HG2
    go_wp2_with (fail)
    refine HW.out.mono ?_
    rintro r w3 ⟨W, A, c, rfl, hw, hwl, ho, hk⟩
    have HWS := Lib.hid hw
    have HCW := Lib.hid (CellsAt.of_own ho)
    have HK := Lib.hid hk
    have hwl3 : W.length ≤ 300 := by have := HB.out; rw [HEE.out] at hwl; omega
    obtain ⟨n, hn⟩ : ∃ n, W.length = n := ⟨_, rfl⟩
    have HNN := Lib.hid hn
    rw [hn] at hwl3 ⊢
    have HNB := Lib.hid hwl3
    have HE3 := Lib.hid (HE.out.fresh hk)
    have HM3 := Lib.hid (HM.out.fresh hk)
    have HL3 := Lib.hid (HL.out.fresh hk)
    have HEM := Lib.hid (World.ownsRow_made (e := 35) (size := 7) (base := w3.heap.size) w3 #[] 0 (Nat.le_refl _) (Nat.zero_le _) rfl)
    have HKM := Lib.hid ((Kept.refl (fun _ => False) w3).alloc (.cells #[] 35))
    clear hw ho hk hn HW hwl hwl3
    go_wp2_with (at_builtin; refine wpList_append_kit eltEvs rfl _ _ rfl w3.heap.size _ 0 [] rfl HEM.out AM M cM (evs more) rfl NM.out (by rw [evs_len, HMM.out]) (fun j u hj => by (obtain ⟨ad', e, h0⟩ := HM3.out j u hj; exact ⟨ad', e, HKM.out.cellF h0⟩)) (evs_one more) (by have := HB.out; omega) (by simp) ?_; intro A' c' w4 HO4 HK4 HG4; refine Hid.out ?_)
    refine Lib.hid ?_
    have hk4 : Kept (fun _ => False) w3 w4 := HKM.out.trans HK4.out fun k hk e => by
      have e' : w3.heap.size = k := by injection e
      omega
    have HE4 := Lib.hid (HE3.out.fresh hk4)
    have ho4 := HO4.out
    rw [List.nil_append, Nat.zero_add] at ho4
    try simp only [Nat.zero_add]
    have HO4' := Lib.hid ho4
    have HK4' := Lib.hid hk4
    clear HEM HKM HK4 HG4 HO4 hk4 ho4
    go_wp2_with (at_builtin; refine wpList_append_kit eltEvs rfl _ _ rfl w3.heap.size _ M (evs more) rfl HO4'.out AE E cE (evs es) rfl NE.out (by rw [evs_len, HEE.out]) HE4.out (evs_one es) (by have := HB.out; omega) HK4'.out.size ?_; intro A5 c5 w5 HO5 HK5 HG5; refine Hid.out ?_)
    refine Lib.hid ?_
    have hk5 : Kept (fun _ => False) w3 w5 := HK4'.out.trans HK5.out fun k hk e => by
      have := (HO4'.out.lt k e).1
      omega
    have ho5 := HO5.out
    rw [← evs_app] at ho5
    have HAL := Lib.hid (CellsAt.of_own ho5)
    have HK5' := Lib.hid hk5
    have HW2 := Lib.hid (Windows_any A5 AL (more ++ es) live c5 cL s lim w5 HAL.out (HL3.out.fresh hk5) (by rw [HN.out]; have := HB.out; omega) (by rw [List.length_append, HEE.out, HMM.out]; have := HB.out; omega) HLIM.out)
    rw [HN.out, List.length_append, HEE.out, HMM.out] at HW2
    clear HO4' HK4' HO5 HK5 HG5 hk5 ho5 HE4
    go_wp2_with (fail)
    refine HW2.out.mono ?_
    rintro r w6 ⟨V, B, c6, rfl, hv, hvl, ho6, hk6⟩
    have hle : n ≤ V.length := by
      rw [← HNN.out]
      exact Wins.le HWS.out hv (fun e he => List.mem_append_right _ he) (fun _ h => h) id (Int.le_refl _)
    rw [List.length_append, HEE.out, HMM.out] at hvl
    have hle2 : ¬ V.length < n := by omega
    have HK6 := Lib.hid (HK5'.out.trans hk6 fun _ _ e => e)
    obtain ⟨vl, hvl'⟩ : ∃ vl, V.length = vl := ⟨_, rfl⟩
    rw [hvl'] at hle2 ⊢
    clear hv hvl ho6 hk6 hle hvl' HW2 HAL HK5'
    go_upto_region 7 with (fail)
    clear hle2
    go_cut [63] (fun v wx => v = .bool false ∧ Kept (fun _ => False) w3 wx)
    case first =>
      by_cases hlt : later ≥ lim
      · as_aux_lemma =>
        have HW7 := Lib.hid (Windows_any AE AL es live cE cL s later w6 (HE3.out.fresh HK6.out) (HL3.out.fresh HK6.out) (by rw [HN.out]; have := HB.out; omega) (by rw [HEE.out]; have := HB.out; omega) HLAT.out)
        rw [HN.out, HEE.out] at HW7
        go_wp2_with (fail)
        refine HW7.out.mono ?_
        rintro r w7 ⟨V, B, c6, rfl, hv, hvl, ho6, hk6⟩
        have hle : n ≤ V.length := by
          rw [← HNN.out]
          exact Wins.le HWS.out hv (fun e he => he) (fun _ h => h) id hlt
        have hle2 : ¬ V.length < n := by omega
        have HK7 := Lib.hid (HK6.out.trans hk6 fun _ _ e => e)
        obtain ⟨vl, hvl'⟩ : ∃ vl, V.length = vl := ⟨_, rfl⟩
        rw [hvl'] at hle2 ⊢
        clear hv hvl ho6 hk6 hle hvl' HW7
        go_wp2_with (fail)
        go_meet
        case rel => exact ⟨by simp, HK7.out⟩
      · as_aux_lemma =>
        go_wp2_with (fail)
        go_meet
        case rel => exact ⟨rfl, HK6.out⟩
    case rest =>
      obtain ⟨rfl, hkc⟩ := hcut
      have HKC := Lib.hid hkc
      clear hkc HK6
      obtain ⟨w8, hw8⟩ : ∃ w8 : World, w8 = wc := ⟨_, rfl⟩
      subst hw8
      have hw0 : IntKind.i64.wrap ((E : Int) - 1) = (E : Int) - 1 := IntWalk.i64_in _ ⟨by omega, by have := HB.out; omega⟩
      go_wp2_with (fail)
      clear hw0
      go_loopw [17, 18] (fun v i wr => ∃ (k : Nat) (p : Int) (A : Option Addr) (c : Nat), v = .slice A k c ∧ i = .int .i64 p ∧ (-1 ≤ p ∧ p + 1 + k = E) ∧ wr.ownsRow w8.heap.size 35 7 (.slice A k c) k (evs (es.reverse.take k)) ∧ Kept (fun _ => False) w8 wr) (fun _ i _ => (intOf i + 1).toNat)
      case atStart => exact ⟨0, (E : Int) - 1, none, 0, rfl, rfl, ⟨by omega, by omega⟩, World.ownsRow_nil _ _ _ _, Kept.refl _ _⟩
      case round =>
        obtain ⟨k, p, A9, c9, rfl, rfl, hp, ho9, hk9⟩ := hrel
        have HO9 := Lib.hid ho9
        have HK9 := Lib.hid hk9
        have HP := Lib.hid hp
        have HE300 := HB.out.1
        clear ho9 hk9 hp
        by_cases hlt : k < E
        · as_aux_lemma =>
          obtain ⟨P, rfl⟩ : ∃ P : Nat, p = P := ⟨p.toNat, by have := HP.out; omega⟩
          have hPE' : P < E := by have := HP.out; omega
          have hP : P < es.length := by rw [HEE.out]; exact hPE'
          have hge : (P : Int) ≥ 0 := by omega
          have hPE : (P : Int) < (E : Int) := by omega
          obtain ⟨b', f', hAE, hce⟩ := HE3.out.some_ (by rw [evs_len]; omega)
          subst hAE
          have hr := ev_range (w := wr) (fun j u hj => HK9.out.cellF (HKC.out.cellF (hce j u hj))) P hP
          obtain ⟨e, he⟩ : ∃ e, es[P] = e := ⟨_, rfl⟩
          have HST := Lib.hid (show es.reverse.take (k + 1) = es.reverse.take k ++ [e] by
            have hkr : k < es.reverse.length := by rw [List.length_reverse, HEE.out]; exact hlt
            rw [List.take_succ_eq_append_getElem hkr, List.getElem_reverse, ← he]
            congr 2
            have : es.length - 1 - k = P := by rw [HEE.out]; have := HP.out; omega
            simp [this])
          rw [he] at hr
          have HR := Lib.hid hr
          have hwp : IntKind.i64.wrap ((P : Int) - 1) = (P : Int) - 1 := IntWalk.i64_in _ ⟨by omega, by omega⟩
          clear hr he hce
          go_wp2_with (first | refine load_ev rfl _ rfl b' (f' + P * 7) rfl e HR.out ?_ | refine wpList_one_ev rfl _ rfl e rfl ?_ | (at_builtin; refine Hid.out ?_))
          refine Lib.hid ?_
          refine wpList_append_new eltEvs rfl _ _ rfl w8.heap.size _ k (evs (es.reverse.take k)) rfl HO9.out 1 1 rfl rfl rfl (by have := HB.out; omega) HK9.out.size ?_
          intro A' c' w10 HO10 HK10 HG10
          have ho10 : w10.ownsRow w8.heap.size 35 7 (.slice A' (k + 1) c') (k + 1) (evs (es.reverse.take (k + 1))) := by
            rw [HST.out, evs_app, show evs [e] = e.cs from by simp [evs]]
            exact HO10.out
          have hk10 : Kept (fun _ => False) w8 w10 := HK9.out.trans HK10.out fun j hj h => by
            have := (HO9.out.lt j h).1
            omega
          have HO11 := Lib.hid ho10
          have HK11 := Lib.hid hk10
          clear ho10 hk10 HO10 HK10 HG10 HR HO9 HK9
          go_wp2_with (fail)
          go_roundw
          case rel => exact ⟨k + 1, (P : Int) - 1, A', c', rfl, rfl, ⟨by omega, by have := HP.out; omega⟩, HO11.out, HK11.out⟩
          case measure => simp [intOf]
        · as_aux_lemma =>
          have hkE : k = E := by have := HP.out; omega
          subst hkE
          have hge : ¬ p ≥ 0 := by have := HP.out; omega
          have ho9 := HO9.out
          rw [List.take_of_length_le (by rw [List.length_reverse, HEE.out]; exact Nat.le_refl _)] at ho9
          have HK12 := Lib.hid (HKC.out.trans HK9.out fun _ _ e => e)
          have HW9 := Lib.hid (Windows_any A9 AL es.reverse live c9 cL s lim wr (CellsAt.of_own ho9) (HL3.out.fresh HK12.out) (by rw [HN.out]; have := HB.out; omega) (by rw [List.length_reverse, HEE.out]; have := HB.out; omega) HLIM.out)
          rw [HN.out, List.length_reverse, HEE.out] at HW9
          clear ho9 HO9 HK9 HKC
          go_wp2_with (fail)
          refine HW9.out.mono ?_
          rintro r w10 ⟨V, B, cB, rfl, hv, hvl, ho10, hk10⟩
          obtain rfl : W = V := Wins.same HWS.out hv (fun e => List.mem_reverse.symm) (fun _ => Iff.rfl)
          have HK13 := Lib.hid (HK12.out.trans hk10 fun _ _ e => e)
          have HS := Lib.hid (same_any B A W W cB c w10 (CellsAt.of_own ho10) (HCW.out.fresh HK13.out) (by rw [HNN.out]; have := HNB.out; omega))
          rw [decide_eq_true rfl, HNN.out] at HS
          rw [HNN.out]
          clear hv hvl ho10 hk10 HW9 HK12
          go_wp2_with (fail)
          refine HS.out.mono ?_
          rintro r w11 ⟨rfl, q, hq⟩
          have HK14 := Lib.hid (show Kept (fun _ => False) w3 w11 from hq ▸ HK13.out.drewN q)
          clear hq HS HK13
          have HEI := Lib.hid (World.ownsRow_made (e := 3) (size := 1) (base := w11.heap.size) w11 #[] 0 (Nat.le_refl _) (Nat.zero_le _) rfl)
          have HKI := Lib.hid ((Kept.refl (fun _ => False) w11).alloc (.cells #[] 3))
          have HL11 := Lib.hid (HL3.out.fresh HK14.out)
          go_wp2_with (at_builtin; refine Hid.out ?_)
          refine Lib.hid ?_
          refine wpList_unguard rfl ?_
          refine wpList_append_kit eltInts rfl _ _ rfl w11.heap.size _ 0 [] rfl HEI.out AL N cL (ints live) rfl NL.out (by rw [ints_len, HN.out]; try omega) (fun j u hj => by (obtain ⟨ad', e, h0⟩ := HL11.out j u hj; exact ⟨ad', e, HKI.out.cellF h0⟩)) (ints_one live) (by have := HB.out; omega) (by simp) ?_
          intro A' c' w12 HO12 HK12 HG12
          have hk12 : Kept (fun _ => False) w11 w12 := HKI.out.trans HK12.out fun k hk e => by
            have e' : w11.heap.size = k := by injection e
            omega
          have HL12 := Lib.hid (HL11.out.fresh hk12)
          have ho12 := HO12.out
          rw [List.nil_append, Nat.zero_add] at ho12
          try simp only [Nat.zero_add]
          have HO12' := Lib.hid ho12
          have HK12' := Lib.hid hk12
          clear HEI HKI HK12 HG12 HO12 hk12 ho12
          go_wp2_with (at_builtin; refine Hid.out ?_)
          refine Lib.hid ?_
          refine wpList_unguard rfl ?_
          refine wpList_append_kit eltInts rfl _ _ rfl w11.heap.size _ N (ints live) rfl HO12'.out AL N cL (ints live) rfl NL.out (by rw [ints_len, HN.out]; try omega) HL12.out (ints_one live) (by have := HB.out; omega) HK12'.out.size ?_
          intro A13 c13 w13 HO13 HK13 HG13
          have hk13 : Kept (fun _ => False) w11 w13 := HK12'.out.trans HK13.out fun k hk e => by
            have := (HO12'.out.lt k e).1
            omega
          have ho13 := HO13.out
          rw [← ints_app] at ho13
          have HK15 := Lib.hid (HK14.out.trans hk13 fun _ _ e => e)
          have HW13 := Lib.hid (Windows_any AE A13 es (live ++ live) cE c13 s lim w13 (HE3.out.fresh HK15.out) (CellsAt.of_own ho13) (by rw [List.length_append, HN.out]; have := HB.out; omega) (by rw [HEE.out]; have := HB.out; omega) HLIM.out)
          rw [List.length_append, HN.out, HEE.out] at HW13
          clear hk13 ho13 HO13 HK13 HG13 HO12' HK12' HL12 HL11 HK14
          go_wp2_with (fail)
          refine HW13.out.mono ?_
          rintro r w14 ⟨V, B2, cB2, rfl, hv, hvl, ho14, hk14⟩
          obtain rfl : W = V := Wins.same HWS.out hv (fun e => Iff.rfl) (fun x => by simp)
          have HK16 := Lib.hid (HK15.out.trans hk14 fun _ _ e => e)
          have HS := Lib.hid (same_any B2 A W W cB2 c w14 (CellsAt.of_own ho14) (HCW.out.fresh HK16.out) (by rw [HNN.out]; have := HNB.out; omega))
          rw [decide_eq_true rfl, HNN.out] at HS
          rw [HNN.out]
          clear hv hvl ho14 hk14 HW13 HK15
          go_wp2_with (fail)
          refine HS.out.mono ?_
          rintro r w15 ⟨rfl, q, hq⟩
          have HK17 := Lib.hid (show Kept (fun _ => False) w3 w15 from hq ▸ HK16.out.drewN q)
          clear hq HS HK16
          go_wp2_with (fail)
          obtain ⟨wo, hwo⟩ : ∃ wo : World, wo = w15 := ⟨_, rfl⟩
          subst hwo
          go_loopw [19, 20, 21] (fun v t i wr => ∃ (k : Nat) (F : List Int) (A : Option Addr) (c : Nat) (fd : Bool), v = .slice A F.length c ∧ t = .bool fd ∧ i = .int .i64 k ∧ k ≤ N ∧ F = fewOf (live.take k) other ∧ F.length ≤ k ∧ (fd = true ↔ Two F) ∧ wr.ownsRow wo.heap.size 3 1 (.slice A F.length c) F.length (ints F) ∧ Kept (fun _ => False) wo wr) (fun _ _ i _ => N - (intOf i).toNat)
          case atStart => exact ⟨0, [], none, 0, false, rfl, rfl, rfl, Nat.zero_le _, rfl, Nat.le_refl _, ⟨fun h => (by cases h), fun ⟨x, hx, _⟩ => absurd hx (by simp)⟩, World.ownsRow_nil _ _ _ _, Kept.refl _ _⟩
          case round =>
            obtain ⟨k, F, A9, c9, fd, rfl, rfl, rfl, hk, hF, hFk, hfd, ho, hkw⟩ := hrel
            obtain ⟨fl, hfl⟩ : ∃ fl, F.length = fl := ⟨_, rfl⟩
            rw [hfl] at ho hFk ⊢
            have HFL := Lib.hid hfl
            have HF := Lib.hid hF
            have HFD := Lib.hid hfd
            have HO := Lib.hid ho
            have HKW := Lib.hid hkw
            have HKX := Lib.hid (HK17.out.trans hkw fun _ _ e => e)
            have HN40 := HB.out.2.2
            clear hfl hF hfd ho hkw
            by_cases hlk : k < N
            · have hin : (k : Int) < (N : Int) := by omega
              have hkl : k < live.length := by rw [HN.out]; exact hlk
              obtain ⟨b, f, hAL, hc⟩ := ints_cell HL3.out (by omega)
              subst hAL
              have c1 := HKX.out.cellF (hc k hkl)
              obtain ⟨x, hx⟩ : ∃ x, live[k] = x := ⟨_, rfl⟩
              rw [hx] at c1
              have HST := Lib.hid (few_step hkl other)
              rw [hx] at HST
              have HX := Lib.hid hx
              clear hx
              by_cases hxo : x = other
              · as_aux_lemma =>
                have hbo : (x == other) = true := by rw [beq_iff_eq]; exact hxo
                have hbn : (x != other) = false := by simp [hxo]
                have HST2 := Lib.hid (HST.out.trans (if_pos hxo))
                clear hxo hc HST
                go_wp2_with (fail)
                go_roundw
                case rel => exact ⟨k + 1, F, A9, c9, fd, by rw [HFL.out], rfl, by go_num, by omega, by rw [HST2.out]; exact HF.out, by rw [HFL.out]; omega, HFD.out, by rw [HFL.out]; exact HO.out, HKW.out⟩
                case measure => simp [intOf]; omega
              · as_aux_lemma =>
                have hbo : (x == other) = false := by rw [beq_eq_false_iff_ne]; exact hxo
                have hbn : (x != other) = true := by simp [hxo]
                have HST2 := Lib.hid (HST.out.trans (if_neg hxo))
                clear hxo HST
                go_wp2_with (at_builtin; refine Hid.out ?_)
                refine Lib.hid ?_
                refine wpList_append_new eltInts rfl _ _ rfl wo.heap.size _ fl (ints F) rfl HO.out 1 1 rfl rfl rfl (by omega) HKW.out.size ?_
                intro A' c' w18 HO18 HK18 HG18
                have ho18 : w18.ownsRow wo.heap.size 3 1 (.slice A' (fl + 1) c') (fl + 1) (ints (F ++ [x])) := by
                  rw [ints_app]
                  exact HO18.out
                have hk18 : Kept (fun _ => False) wo w18 := HKW.out.trans HK18.out fun j hj h => by
                  have := (HO.out.lt j h).1
                  omega
                have HO19 := Lib.hid ho18
                have HK19 := Lib.hid hk18
                have HL19 := Lib.hid (show (F ++ [x]).length = fl + 1 by rw [List.length_append, HFL.out]; rfl)
                obtain ⟨g, rfl, -, hcg, -⟩ := own_cells ho18 (by omega)
                have hg0 : (F ++ [x])[0]? = some ((F ++ [x]).getD 0 0) := by
                  rw [List.getD, List.getElem?_eq_getElem (by rw [HL19.out]; omega)]
                  rfl
                have d2 : w18.cell? ⟨g, 0, none⟩ = some (.int .i64 ((F ++ [x]).getD 0 0)) := hcg 0 _ (by unfold ints; rw [List.getElem?_map, hg0]; rfl)
                have d1 := (HK17.out.trans hk18 fun _ _ e => e).cellF (hc k hkl)
                rw [HX.out] at d1
                obtain ⟨y, hy⟩ : ∃ y, (F ++ [x]).getD 0 0 = y := ⟨_, rfl⟩
                rw [hy] at d2
                have HTW := Lib.hid (two_snoc F x)
                rw [hy] at HTW
                clear hbo hbn hy hg0 hcg ho18 hk18 HO18 HK18 HG18 c1 hc
                cases fd with
                | true =>
                  as_aux_lemma =>
                  go_upto_region 23 with (fail)
                  go_quiet (fail)
                  go_wp2_with (fail)
                  go_roundw
                  case rel => exact ⟨k + 1, F ++ [x], _, c', true, by rw [HL19.out], rfl, by go_num, by omega, by rw [HST2.out, HF.out], by rw [HL19.out]; omega, by simp [HTW.out, HFD.out.1 rfl], by rw [HL19.out]; exact HO19.out, HK19.out.drewN nq⟩
                  case measure => simp [intOf]; omega
                | false =>
                  as_aux_lemma =>
                  go_upto_region 23 with (fail)
                  go_quiet (fail)
                  go_wp2_with (fail)
                  go_roundw
                  case rel => exact ⟨k + 1, F ++ [x], _, c', _, by rw [HL19.out], rfl, by go_num, by omega, by rw [HST2.out, HF.out], by rw [HL19.out]; omega, by rw [HTW.out]; simp [show ¬ Two F from fun h => by cases HFD.out.2 h], by rw [HL19.out]; exact HO19.out, HK19.out.drewN nq⟩
                  case measure => simp [intOf]; omega
            · have hin : ¬ (k : Int) < (N : Int) := by omega
              have hkN : k = N := by omega
              have hF : F = fewOf live other := by rw [HF.out, List.take_of_length_le (by rw [HN.out]; omega)]
              have HF2 := Lib.hid hF
              clear hkN hF
              cases fd with
              | false =>
                as_aux_lemma =>
                go_wp2_with (fail)
                refine (HAW.out _).mono ?_
                rintro r w20 ⟨rfl, hk20⟩
                have HK20 := Lib.hid hk20
                clear hk20
                go_wp2_with (fail)
                go_ret
                exact ⟨rfl, (HK.out.trans HKX.out fun _ _ e => e).trans HK20.out fun _ _ e => e⟩
              | true =>
                as_aux_lemma =>
                have HW19 := Lib.hid (Windows_any AE A9 es F cE c9 s lim wr (HE3.out.fresh HKX.out) (CellsAt.of_own (by rw [← HFL.out] at HO; exact HO.out)) (by rw [HFL.out]; omega) (by rw [HEE.out]; have := HB.out; omega) HLIM.out)
                rw [HFL.out, HEE.out] at HW19
                go_wp2_with (fail)
                refine HW19.out.mono ?_
                rintro r w20 ⟨V, B3, cB3, rfl, hv, hvl, ho20, hk20⟩
                have hle : n ≤ V.length := by
                  rw [← HNN.out]
                  exact Wins.le HWS.out hv (fun _ h => h) (fun x hx => by rw [HF2.out] at hx; exact (List.mem_filter.1 hx).1) (fun _ => HFD.out.1 (by trivial)) (Int.le_refl _)
                have HK20 := Lib.hid (HKX.out.trans hk20 fun _ _ e => e)
                obtain ⟨vl, hvl'⟩ : ∃ vl, V.length = vl := ⟨_, rfl⟩
                rw [hvl'] at hle ⊢
                have hle2 : (vl : Int) ≥ (n : Int) := by omega
                clear hv hvl ho20 hk20 hvl' HW19
                go_wp2_with (fail)
                refine (HAW.out _).mono ?_
                rintro r w21 ⟨rfl, hk21⟩
                have HK21 := Lib.hid hk21
                clear hk21
                go_wp2_with (fail)
                go_ret
                exact ⟨rfl, (HK.out.trans HK20.out fun _ _ e => e).trans HK21.out fun _ _ e => e⟩
end Go.Proofs.Ytkekhnohehhljaa
