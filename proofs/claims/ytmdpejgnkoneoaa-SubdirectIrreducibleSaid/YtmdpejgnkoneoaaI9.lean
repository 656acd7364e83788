/- Part 9 of the proof that the law SubdirectIrreducible holds: words and lemmas it rests on. No condition. -/
import Derived.Test.YtmdpejgnkoneoaaI6
import Derived.Test.YtmdpejgnkoneoaaI8
import Derived.Test.YtmdpejgnkoneoaaI7
set_option linter.unusedSimpArgs false
set_option linter.unusedVariables false
set_option linter.unnecessarySimpa false
set_option linter.unusedSectionVars false
set_option maxRecDepth 100000
set_option maxHeartbeats 4000000
namespace Go.Proofs.Ytmdpejgnkoneoaa.Pu
open Go Go.AM Go.Proofs.Ytmdpejgnkoneoaa.Code

noncomputable def P_congr_forest_join_l96 (side : Int) (t : List (List Int)) (x22 : Int × Int) (k98 : Nat) (x97 : List (Int × Int)) : Option ((List (Int × Int))) :=
  if !decide (side = 2) then
    Option.bind (gi t (k98 : Int)) fun x110 =>
    Option.bind (gi x110 x22.1) fun x119 =>
    Option.bind (gi x110 x22.2) fun x128 =>
    Option.bind (pus 16 x97 [(x119, x128)]) fun x147 =>
    if !decide (side = 1) then
      Option.bind (gi t x22.1) fun x158 =>
      Option.bind (gi x158 (k98 : Int)) fun x165 =>
      Option.bind (gi t x22.2) fun x174 =>
      Option.bind (gi x174 (k98 : Int)) fun x181 =>
      Option.bind (pus 16 x147 [(x165, x181)]) fun x200 =>
      some x200
    else
      some x147
  else
    if !decide (side = 1) then
      Option.bind (gi t x22.1) fun x211 =>
      Option.bind (gi x211 (k98 : Int)) fun x218 =>
      Option.bind (gi t x22.2) fun x227 =>
      Option.bind (gi x227 (k98 : Int)) fun x234 =>
      Option.bind (pus 16 x97 [(x218, x234)]) fun x253 =>
      some x253
    else
      some x97
noncomputable def P_congr_forest_join_l1 (side : Int) (t : List (List Int)) (work9 : List (Int × Int)) (x10 : List Int) : Option (Lp ((List (Int × Int)) × (List Int)) (Empty)) :=
  if decide (0 < (work9.length : Int)) then
    Option.bind (gi work9 (w64 ((work9.length : Int) - 1))) fun x22 =>
    Option.bind (sub work9 none (some (w64 ((work9.length : Int) - 1)))) fun x38 =>
    Option.bind (P_congr_forest_findF x10 x22.1) fun r45 =>
    Option.bind (P_congr_forest_findF x10 x22.2) fun r53 =>
    if decide (r45 = r53) then
      some (.go (x38, x10))
    else
      Option.bind (fset x10 r45 r53) fun x87 =>
      Option.bind (forS t.length (fun k x => P_congr_forest_join_l96 side t x22 k x) x38) fun z102 =>
      some (.go (z102, x87))
  else
    some (.br (work9, x10))
noncomputable def P_congr_forest_join (f : List Int) (t : List (List Int)) (side : Int) (work : List (Int × Int)) : Option ((List Int)) :=
  Option.bind (loopO (fun x => P_congr_forest_join_l1 side t x.1 x.2) (work, f)) fun z7 =>
  match z7 with
  | .inl x265 =>
    some x265.2
  | .inr b => b.elim
theorem R_congr_forest_join {G : List Frag} {W H : AH} {v_0 v_1 v_3 : AV} {g_0 g_3 : Frag} {f : List Int} {t : List (List Int)} {side : Int} {work : List (Int × Int)} (hst : St (g_0 :: g_3 :: G) W H) (o_0 : OwF W v_0 g_0 f) (h_1 : Rp.rv W v_1 t) (o_3 : OwS W v_3 g_3 work) {r : (List Int)} (hp : P_congr_forest_join f t side work = some r) :
    wpc E0 N_congr_forest_join [v_0, v_1, .int .i64 side, v_3] H fun rv H' => ∃ W', Wle W W' ∧ ∃ (gi0 : Frag), St (gi0 :: G) W' H' ∧ rv = .tup [] ∧ OwF W' v_0 gi0 r := by
  refine enterN (F := f_congr_forest_join) rfl (Nat.le_of_ble_eq_true rfl) fun s hl hg => ?_
  replace hl : s.length = 91 := hl
  have g0 : gt s 0 = v_0 := hg 0 (Nat.le_of_ble_eq_true rfl)
  have g1 : gt s 1 = v_1 := hg 1 (Nat.le_of_ble_eq_true rfl)
  have g2 : gt s 2 = .int .i64 side := hg 2 (Nat.le_of_ble_eq_true rfl)
  have g3 : gt s 3 = v_3 := hg 3 (Nat.le_of_ble_eq_true rfl)
  clear hg
  unfold P_congr_forest_join at hp
  show wp E0 c_congr_forest_join s H _
  unfold c_congr_forest_join
  obtain ⟨z7, e8, hp⟩ := bn hp
  refine loop_ref hp0 (fun x => P_congr_forest_join_l1 side t x.1 x.2) (fun x s H' => ∃ (W' : AH) (w3 : AV) (q3 : Frag) (qo1 : Frag), s.length = 91 ∧ gt s 3 = w3 ∧ gt s 0 = v_0 ∧ gt s 1 = v_1 ∧ gt s 2 = .int .i64 side ∧  Wle W W' ∧ St (q3 :: qo1 :: G) W' H' ∧ OwS W' w3 q3 (x.1 : List (Int × Int)) ∧ OwF W' v_0 qo1 (x.2 : List Int)) (fun x s H' => ∃ (W' : AH) (qo1 : Frag), s.length = 91 ∧  Wle W W' ∧ St (qo1 :: G) W' H' ∧ OwF W' v_0 qo1 (x.2 : List Int)) e8 ?_ ?_ ?_
  · replace hst := hst.p1
    exact ⟨W, _, _, _, hl, g3, g0, g1, g2, .refl _, hst, o_3, o_0⟩
  · intro x2 y4 s H hI hy5 hx6
    obtain ⟨work9, x10⟩ := x2
    dsimp only at hI
    change P_congr_forest_join_l1 side t work9 x10 = some y4 at hy5
    unfold P_congr_forest_join_l1 at hy5
    obtain ⟨W, v12, fg13, fg15, hl, g3, g0, g1, g2, w11, hst, o14, o16⟩ := hI
    replace h_1 := Rp.mono w11 h_1
    refine AM.wp_seq hp0 ?_
    refine AM.wp_seq hp0 ?_
    refine AM.wp_reg hp0 ?_
    have f17 := ow_ln o14
    have b18 := ow_big o14
    refine wpo_seg hp0 3 (fun s H' => s.length = 91 ∧ gt s 0 = v_0 ∧ gt s 1 = v_1 ∧ gt s 2 = .int .i64 side ∧ gt s 3 = v12 ∧ gt s 14 = .bool (decide (0 < (work9.length : Int))) ∧ H = H') (by simp (maxSteps := 1000000) only [↓runs, isCall, ↓reduceIte, ↓gd_true, ↓gd_false, evs, AV.cells, Nat.reduceEqDiff, Nat.reduceLT, reduceCtorEq, Nat.reduceAdd, sy, f17, g0, g1, g2, g3, hl]) ?_
    rintro s _ ⟨hl, g0, g1, g2, g3, g14, rfl⟩
    refine wpo_nil ?_
    refine then_n ?_
    rcases Bool.eq_false_or_eq_true (decide (0 < (work9.length : Int))) with c19 | c19
    · replace hy5 := ifT c19 hy5
      refine AM.wp_condT (by simp only [ev_t, ev_c, g14, c19]) ?_
      refine AM.wp_skip ?_
      refine then_n ?_
      refine AM.wp_block ?_
      refine AM.wp_seq hp0 ?_
      refine AM.wp_reg hp0 ?_
      have f20 := ow_ln o14
      have b21 := ow_big o14
      obtain ⟨x22, e23, hy5⟩ := bn hy5
      obtain ⟨p24, y25, f26, f27, h28⟩ := ow_atA (k := .i64) 2 rfl hst (.head _) o14 e23 rfl
      obtain rfl := pr_ii h28
      obtain ⟨p29, H30, W, f32, f33, w31, hst⟩ := bx_new' hst [.int .i64 0, .int .i64 0]
      replace h_1 := Rp.mono w31 h_1
      replace o16 := o16.mono w31
      replace o14 := o14.mono w31
      obtain ⟨H34, f35, hst⟩ := bx_st (y := .agg [.int .i64 x22.1, .int .i64 x22.2]) (n := 2) hst rfl rfl rfl
      simp only [AV.cells] at hst
      refine wpo_seg hp0 8 (fun s H' => s.length = 91 ∧ gt s 0 = v_0 ∧ gt s 1 = v_1 ∧ gt s 2 = .int .i64 side ∧ gt s 3 = v12 ∧ gt s 8 = .ptr p29 0 ∧ H34 = H') (by simp (maxSteps := 1000000) only [↓runs, isCall, ↓reduceIte, ↓gd_true, ↓gd_false, evs, AV.cells, Nat.reduceEqDiff, Nat.reduceLT, reduceCtorEq, Nat.reduceAdd, sy, f20, f26, f27, f32, f33, f35, g0, g1, g2, g3, g14, hl]) ?_
      rintro s _ ⟨hl, g0, g1, g2, g3, g8, rfl⟩
      refine wpo_nil ?_
      refine then_n ?_
      refine AM.wp_seq hp0 ?_
      refine AM.wp_reg hp0 ?_
      have f36 := ow_ln o14
      have b37 := ow_big o14
      obtain ⟨x38, e39, hy5⟩ := bn hy5
      obtain ⟨v40, f41, o42⟩ := ow_cut (n := 2) (kk := .i64) rfl o14 e39
      refine wpo_seg hp0 6 (fun s H' => s.length = 91 ∧ gt s 0 = v_0 ∧ gt s 1 = v_1 ∧ gt s 2 = .int .i64 side ∧ gt s 3 = v40 ∧ gt s 8 = .ptr p29 0 ∧ H34 = H') (by simp (maxSteps := 1000000) only [↓runs, isCall, ↓reduceIte, ↓gd_true, ↓gd_false, evs, AV.cells, Nat.reduceEqDiff, Nat.reduceLT, reduceCtorEq, Nat.reduceAdd, sy, f36, f41, g0, g1, g2, g3, g8, hl]) ?_
      rintro s _ ⟨hl, g0, g1, g2, g3, g8, rfl⟩
      refine wpo_nil ?_
      refine then_n ?_
      refine AM.wp_seq hp0 ?_
      obtain ⟨r45, e46, hy5⟩ := bn hy5
      obtain ⟨r53, e54, hy5⟩ := bn hy5
      refine AM.wp_regsK hp0 (fun s H' => ∃ (W' : AH) (qo1 : Frag), s.length = 91 ∧ gt s 9 = .int .i64 r45 ∧ gt s 10 = .int .i64 r53 ∧ gt s 0 = v_0 ∧ gt s 1 = v_1 ∧ gt s 2 = .int .i64 side ∧ gt s 3 = v40 ∧ gt s 8 = .ptr p29 0 ∧  Wle W W' ∧ St ([(p29, .row [.int .i64 x22.1, .int .i64 x22.2] true)] :: fg13 :: qo1 :: G) W' H' ∧ OwF W' v_0 qo1 (x10 : List Int)) (by simp) ?_ ?_
      · intro l hl'; simp only [List.mem_cons, List.not_mem_nil, or_false] at hl'
        rcases hl' with rfl | rfl
        · have f59 : iaA 2 1 (.ptr p29 0) (.int .i64 0) = some (.ptr p29 0) := by simp [iaA]
          have f60 := bx_ld (i := 0) hst (.head _) rfl
          refine wpo_seg hp0 3 (fun s H' => s.length = 91 ∧ gt s 0 = v_0 ∧ gt s 1 = v_1 ∧ gt s 2 = .int .i64 side ∧ gt s 3 = v40 ∧ gt s 8 = .ptr p29 0 ∧ gt s 26 = v_0 ∧ gt s 28 = .int .i64 x22.1 ∧ H34 = H') (by simp (maxSteps := 1000000) only [↓runs, isCall, ↓reduceIte, ↓gd_true, ↓gd_false, evs, AV.cells, Nat.reduceEqDiff, Nat.reduceLT, reduceCtorEq, Nat.reduceAdd, sy, f59, f60, g0, g1, g2, g3, g8, hl]) ?_
          rintro s _ ⟨hl, g0, g1, g2, g3, g8, g26, g28, rfl⟩
          replace hst := hst.p2
          refine wpo_callK hp0 rfl (ys := [v_0, .int .i64 x22.1]) (by simp only [evs, List.map_cons, List.map_nil, ev_t, ev_c, g26, g28]) (R_congr_forest_findF hst o16 e46) ?_
          rintro rv61 H ⟨W, w62, fg63, hst, rfl, o64⟩
          replace h_1 := Rp.mono w62 h_1
          replace o42 := o42.mono w62
          have f65 : iaA 2 1 (.ptr p29 0) (.int .i64 1) = some (.ptr p29 1) := by simp [iaA]
          have f66 := bx_ld (i := 1) hst (.tail _ (.head _)) rfl
          refine wpo_seg hp0 3 (fun s H' => s.length = 91 ∧ gt s 0 = v_0 ∧ gt s 1 = v_1 ∧ gt s 2 = .int .i64 side ∧ gt s 3 = v40 ∧ gt s 8 = .ptr p29 0 ∧ gt s 29 = .int .i64 r45 ∧ gt s 30 = v_0 ∧ gt s 32 = .int .i64 x22.2 ∧ H = H') (by simp (maxSteps := 1000000) only [↓runs, isCall, ↓reduceIte, ↓gd_true, ↓gd_false, evs, AV.cells, Nat.reduceEqDiff, Nat.reduceLT, reduceCtorEq, Nat.reduceAdd, sy, gt_other, f65, f66, g0, g1, g2, g3, g8, g26, g28, hl]) ?_
          rintro s _ ⟨hl, g0, g1, g2, g3, g8, g29, g30, g32, rfl⟩
          refine wpo_callK hp0 rfl (ys := [v_0, .int .i64 x22.2]) (by simp only [evs, List.map_cons, List.map_nil, ev_t, ev_c, g30, g32]) (R_congr_forest_findF hst o64 e54) ?_
          rintro rv67 H ⟨W, w68, fg69, hst, rfl, o70⟩
          replace h_1 := Rp.mono w68 h_1
          replace o42 := o42.mono w68
          refine wpo_seg hp0 2 (fun s H' => s.length = 91 ∧ gt s 0 = v_0 ∧ gt s 1 = v_1 ∧ gt s 2 = .int .i64 side ∧ gt s 3 = v40 ∧ gt s 8 = .ptr p29 0 ∧ gt s 9 = .int .i64 r45 ∧ gt s 10 = .int .i64 r53 ∧ H = H') (by simp (maxSteps := 1000000) only [↓runs, isCall, ↓reduceIte, ↓gd_true, ↓gd_false, evs, AV.cells, Nat.reduceEqDiff, Nat.reduceLT, reduceCtorEq, Nat.reduceAdd, sy, gt_other, g0, g1, g2, g3, g8, g29, g30, g32, hl]) ?_
          rintro s _ ⟨hl, g0, g1, g2, g3, g8, g9, g10, rfl⟩
          refine wpo_nil ?_
          replace hst := hst.p2
          replace hst := hst.p2
          exact ⟨W, _, hl, g9, g10, g0, g1, g2, g3, g8, (w62.trans w68), hst, o70⟩
        · have f71 : iaA 2 1 (.ptr p29 0) (.int .i64 0) = some (.ptr p29 0) := by simp [iaA]
          have f72 := bx_ld (i := 0) hst (.head _) rfl
          have f73 : iaA 2 1 (.ptr p29 0) (.int .i64 1) = some (.ptr p29 1) := by simp [iaA]
          have f74 := bx_ld (i := 1) hst (.head _) rfl
          refine wpo_seg hp0 6 (fun s H' => s.length = 91 ∧ gt s 0 = v_0 ∧ gt s 1 = v_1 ∧ gt s 2 = .int .i64 side ∧ gt s 3 = v40 ∧ gt s 8 = .ptr p29 0 ∧ gt s 26 = v_0 ∧ gt s 28 = .int .i64 x22.1 ∧ gt s 30 = v_0 ∧ gt s 32 = .int .i64 x22.2 ∧ H34 = H') (by simp (maxSteps := 1000000) only [↓runs, isCall, ↓reduceIte, ↓gd_true, ↓gd_false, evs, AV.cells, Nat.reduceEqDiff, Nat.reduceLT, reduceCtorEq, Nat.reduceAdd, sy, f71, f72, f73, f74, g0, g1, g2, g3, g8, hl]) ?_
          rintro s _ ⟨hl, g0, g1, g2, g3, g8, g26, g28, g30, g32, rfl⟩
          replace hst := hst.p2
          refine wpo_callK hp0 rfl (ys := [v_0, .int .i64 x22.1]) (by simp only [evs, List.map_cons, List.map_nil, ev_t, ev_c, g26, g28]) (R_congr_forest_findF hst o16 e46) ?_
          rintro rv75 H ⟨W, w76, fg77, hst, rfl, o78⟩
          replace h_1 := Rp.mono w76 h_1
          replace o42 := o42.mono w76
          refine wpo_seg hp0 0 (fun s H' => s.length = 91 ∧ gt s 0 = v_0 ∧ gt s 1 = v_1 ∧ gt s 2 = .int .i64 side ∧ gt s 3 = v40 ∧ gt s 8 = .ptr p29 0 ∧ gt s 29 = .int .i64 r45 ∧ gt s 30 = v_0 ∧ gt s 32 = .int .i64 x22.2 ∧ H = H') (by simp (maxSteps := 1000000) only [↓runs, isCall, ↓reduceIte, ↓gd_true, ↓gd_false, evs, AV.cells, Nat.reduceEqDiff, Nat.reduceLT, reduceCtorEq, Nat.reduceAdd, sy, gt_other, g0, g1, g2, g3, g8, g26, g28, g30, g32, hl]) ?_
          rintro s _ ⟨hl, g0, g1, g2, g3, g8, g29, g30, g32, rfl⟩
          refine wpo_callK hp0 rfl (ys := [v_0, .int .i64 x22.2]) (by simp only [evs, List.map_cons, List.map_nil, ev_t, ev_c, g30, g32]) (R_congr_forest_findF hst o78 e54) ?_
          rintro rv79 H ⟨W, w80, fg81, hst, rfl, o82⟩
          replace h_1 := Rp.mono w80 h_1
          replace o42 := o42.mono w80
          refine wpo_seg hp0 2 (fun s H' => s.length = 91 ∧ gt s 0 = v_0 ∧ gt s 1 = v_1 ∧ gt s 2 = .int .i64 side ∧ gt s 3 = v40 ∧ gt s 8 = .ptr p29 0 ∧ gt s 9 = .int .i64 r45 ∧ gt s 10 = .int .i64 r53 ∧ H = H') (by simp (maxSteps := 1000000) only [↓runs, isCall, ↓reduceIte, ↓gd_true, ↓gd_false, evs, AV.cells, Nat.reduceEqDiff, Nat.reduceLT, reduceCtorEq, Nat.reduceAdd, sy, gt_other, g0, g1, g2, g3, g8, g29, g30, g32, hl]) ?_
          rintro s _ ⟨hl, g0, g1, g2, g3, g8, g9, g10, rfl⟩
          refine wpo_nil ?_
          replace hst := hst.p2
          replace hst := hst.p2
          exact ⟨W, _, hl, g9, g10, g0, g1, g2, g3, g8, (w76.trans w80), hst, o82⟩
      · rintro s H ⟨W, fg84, hl, g9, g10, g0, g1, g2, g3, g8, w83, hst, o85⟩
        replace h_1 := Rp.mono w83 h_1
        replace o42 := o42.mono w83
        refine then_n ?_
        refine AM.wp_seq hp0 ?_
        refine AM.wp_seq hp0 ?_
        refine AM.wp_reg hp0 ?_
        refine wpo_seg hp0 3 (fun s H' => s.length = 91 ∧ gt s 0 = v_0 ∧ gt s 1 = v_1 ∧ gt s 2 = .int .i64 side ∧ gt s 3 = v40 ∧ gt s 8 = .ptr p29 0 ∧ gt s 9 = .int .i64 r45 ∧ gt s 10 = .int .i64 r53 ∧ gt s 36 = .bool (decide (r45 = r53)) ∧ H = H') (by simp (maxSteps := 1000000) only [↓runs, isCall, ↓reduceIte, ↓gd_true, ↓gd_false, evs, AV.cells, Nat.reduceEqDiff, Nat.reduceLT, reduceCtorEq, Nat.reduceAdd, sy, g0, g1, g2, g3, g8, g9, g10, hl]) ?_
        rintro s _ ⟨hl, g0, g1, g2, g3, g8, g9, g10, g36, rfl⟩
        refine wpo_nil ?_
        refine then_n ?_
        rcases Bool.eq_false_or_eq_true (decide (r45 = r53)) with c86 | c86
        · replace hy5 := ifT c86 hy5
          refine AM.wp_condT (by simp only [ev_t, ev_c, g36, c86]) ?_
          refine AM.wp_exit ?_
          refine then_x ?_
          refine blk_h rfl ?_
          refine then_n ?_
          obtain rfl := Option.some.inj hy5
          replace hst := hst.drop
          replace hst := hst.p1
          replace hst := hst.p1
          exact ⟨_, rfl, ⟨W, _, _, _, hl, g3, g0, g1, g2, ((w11.trans w31).trans w83), hst, o42, o85⟩⟩
        · replace hy5 := ifF c86 hy5
          refine AM.wp_condF (by simp only [ev_t, ev_c, g36, c86]) ?_
          refine AM.wp_skip ?_
          refine then_n ?_
          refine AM.wp_seq hp0 ?_
          refine AM.wp_reg hp0 ?_
          obtain ⟨x87, e88, hy5⟩ := bn hy5
          replace hst := hst.p2
          obtain ⟨p89, H90, fg91, f92, f93, hst, o94⟩ := of_set (k := .i64) hst o85 e88
          refine wpo_seg hp0 5 (fun s H' => s.length = 91 ∧ gt s 0 = v_0 ∧ gt s 1 = v_1 ∧ gt s 2 = .int .i64 side ∧ gt s 3 = v40 ∧ gt s 8 = .ptr p29 0 ∧ H90 = H') (by simp (maxSteps := 1000000) only [↓runs, isCall, ↓reduceIte, ↓gd_true, ↓gd_false, evs, AV.cells, Nat.reduceEqDiff, Nat.reduceLT, reduceCtorEq, Nat.reduceAdd, sy, f92, f93, g0, g1, g2, g3, g8, g9, g10, g36, hl]) ?_
          rintro s _ ⟨hl, g0, g1, g2, g3, g8, rfl⟩
          refine wpo_nil ?_
          refine then_n ?_
          refine AM.wp_seq hp0 ?_
          refine AM.wp_reg hp0 ?_
          have f95 := fz_ln h_1
          refine wpo_seg hp0 3 (fun s H' => s.length = 91 ∧ gt s 0 = v_0 ∧ gt s 1 = v_1 ∧ gt s 2 = .int .i64 side ∧ gt s 3 = v40 ∧ gt s 8 = .ptr p29 0 ∧ gt s 42 = .int .i64 (t.length : Int) ∧ gt s 43 = .int .i64 0 ∧ H90 = H') (by simp (maxSteps := 1000000) only [↓runs, isCall, ↓reduceIte, ↓gd_true, ↓gd_false, evs, AV.cells, Nat.reduceEqDiff, Nat.reduceLT, reduceCtorEq, Nat.reduceAdd, sy, f95, g0, g1, g2, g3, g8, hl]) ?_
          rintro s _ ⟨hl, g0, g1, g2, g3, g8, g42, g43, rfl⟩
          refine wpo_nil ?_
          refine then_n ?_
          obtain ⟨z102, e103, hy5⟩ := bn hy5
          refine rangeS_ref hp0 91 t.length (fun k x => P_congr_forest_join_l96 side t x22 k x) (fun _ x s H' => ∃ (W' : AH) (w3 : AV) (q3 : Frag), s.length = 91 ∧ gt s 3 = w3 ∧ gt s 0 = v_0 ∧ gt s 1 = v_1 ∧ gt s 2 = .int .i64 side ∧ gt s 8 = .ptr p29 0 ∧  Wle W W' ∧ St (q3 :: fg91 :: [(p29, .row [.int .i64 x22.1, .int .i64 x22.2] true)] :: G) W' H' ∧ OwS W' w3 q3 (x : List (Int × Int))) e103 (fz_big h_1) rfl ?_ ?_ hl g43 g42 ?_ ?_
          · intro k x s H d v hd h; rcases hd with rfl | rfl | rfl <;> simpa only [gt_other, pt_length, Nat.reduceEqDiff, not_false_eq_true] using h
          · replace hst := hst.p1
            replace hst := hst.p1
            replace hst := hst.p2
            exact ⟨W, _, _, hl, g3, g0, g1, g2, g8, .refl _, hst, o42⟩
          · intro k98 x97 y99 s H hk hI hl g43 g42 hy100
            change P_congr_forest_join_l96 side t x22 k98 x97 = some y99 at hy100
            unfold P_congr_forest_join_l96 at hy100
            obtain ⟨W, v106, fg107, hl, g3, g0, g1, g2, g8, w105, hst, o108⟩ := hI
            replace h_1 := Rp.mono w105 h_1
            replace o94 := o94.mono w105
            refine AM.wp_seq hp0 ?_
            refine AM.wp_reg hp0 ?_
            refine wpo_seg hp0 2 (fun s H' => s.length = 91 ∧ gt s 0 = v_0 ∧ gt s 1 = v_1 ∧ gt s 2 = .int .i64 side ∧ gt s 3 = v106 ∧ gt s 8 = .ptr p29 0 ∧ gt s 11 = .int .i64 (k98 : Int) ∧ gt s 42 = .int .i64 (t.length : Int) ∧ gt s 43 = .int .i64 (k98 : Int) ∧ H = H') (by simp (maxSteps := 1000000) only [↓runs, isCall, ↓reduceIte, ↓gd_true, ↓gd_false, evs, AV.cells, Nat.reduceEqDiff, Nat.reduceLT, reduceCtorEq, Nat.reduceAdd, sy, g0, g1, g2, g3, g8, g42, g43, hl]) ?_
            rintro s _ ⟨hl, g0, g1, g2, g3, g8, g11, g42, g43, rfl⟩
            refine wpo_nil ?_
            refine then_n ?_
            refine AM.wp_seq hp0 ?_
            refine AM.wp_seq hp0 ?_
            refine AM.wp_reg hp0 ?_
            refine wpo_seg hp0 2 (fun s H' => s.length = 91 ∧ gt s 0 = v_0 ∧ gt s 1 = v_1 ∧ gt s 2 = .int .i64 side ∧ gt s 3 = v106 ∧ gt s 8 = .ptr p29 0 ∧ gt s 11 = .int .i64 (k98 : Int) ∧ gt s 42 = .int .i64 (t.length : Int) ∧ gt s 43 = .int .i64 (k98 : Int) ∧ gt s 47 = .bool (!decide (side = 2)) ∧ H = H') (by simp (maxSteps := 1000000) only [↓runs, isCall, ↓reduceIte, ↓gd_true, ↓gd_false, evs, AV.cells, Nat.reduceEqDiff, Nat.reduceLT, reduceCtorEq, Nat.reduceAdd, sy, g0, g1, g2, g3, g8, g11, g42, g43, hl]) ?_
            rintro s _ ⟨hl, g0, g1, g2, g3, g8, g11, g42, g43, g47, rfl⟩
            refine wpo_nil ?_
            refine then_n ?_
            rcases Bool.eq_false_or_eq_true (!decide (side = 2)) with c109 | c109
            · replace hy100 := ifT c109 hy100
              refine AM.wp_condT (by simp only [ev_t, ev_c, g47, c109]) ?_
              refine AM.wp_reg hp0 ?_
              obtain ⟨x110, e111, hy100⟩ := bn hy100
              obtain ⟨p112, y113, f114, f115, h116⟩ := fz_at (k := .i64) hst h_1 e111 rfl
              have f117 : iaA 2 1 (.ptr p29 0) (.int .i64 0) = some (.ptr p29 0) := by simp [iaA]
              have f118 := bx_ld (i := 0) hst (.tail _ (.tail _ (.head _))) rfl
              obtain ⟨x119, e120, hy100⟩ := bn hy100
              obtain ⟨p121, _, f123, f124, rfl⟩ := fz_at (k := .i64) hst h116 e120 rfl
              have f126 : iaA 2 1 (.ptr p29 0) (.int .i64 1) = some (.ptr p29 1) := by simp [iaA]
              have f127 := bx_ld (i := 1) hst (.tail _ (.tail _ (.head _))) rfl
              obtain ⟨x128, e129, hy100⟩ := bn hy100
              obtain ⟨p130, _, f132, f133, rfl⟩ := fz_at (k := .i64) hst h116 e129 rfl
              have f135 : fillA [.int .i64 0, .int .i64 0] [(0, 1, .int .i64 x119), (1, 1, .int .i64 x128)] = some [.int .i64 x119, .int .i64 x128] := by simp [fillA, splice, AV.cells]
              obtain ⟨v136, l137, H138, fg139, W, f141, f142, f143, w140, hst, o144⟩ := ow_lit' (n := 2) (k := 1) (z := [.int .i64 0, .int .i64 0]) (ys := [.agg [.int .i64 x119, .int .i64 x128]]) (M := ([(x119, x128)] : List (Int × Int))) [(0, 2, .agg [.int .i64 x119, .int .i64 x128])] rfl rfl hst (sc_cons (show Rp.rv _ (.agg [.int .i64 x119, .int .i64 x128]) ((x119, x128) : Int × Int) from (mk_ii _ _ _)) (sc_nil)) ((List.forall_mem_cons.2 ⟨(Rp.cells (show Rp.rv W (.agg [.int .i64 x119, .int .i64 x128]) ((x119, x128) : Int × Int) from (mk_ii _ _ _))), fun _ h => (List.not_mem_nil h).elim⟩)) rfl rfl rfl (by decide)
              replace h_1 := Rp.mono w140 h_1
              replace h116 := Rp.mono w140 h116
              replace o94 := o94.mono w140
              replace o108 := o108.mono w140
              obtain ⟨c145, sn146⟩ := ow_sn hst (.head _) o144
              obtain ⟨x147, e148, hy100⟩ := bn hy100
              replace hst := hst.p1
              obtain ⟨v149, H150, fg151, W, f153, w152, hst, o154⟩ := ow_apps [.int .i64 0, .int .i64 0] rfl hst o108 sn146 e148
              replace h_1 := Rp.mono w152 h_1
              replace h116 := Rp.mono w152 h116
              replace o94 := o94.mono w152
              replace o144 := o144.mono w152
              refine wpo_seg hp0 21 (fun s H' => s.length = 91 ∧ gt s 0 = v_0 ∧ gt s 1 = v_1 ∧ gt s 2 = .int .i64 side ∧ gt s 3 = v149 ∧ gt s 8 = .ptr p29 0 ∧ gt s 11 = .int .i64 (k98 : Int) ∧ gt s 42 = .int .i64 (t.length : Int) ∧ gt s 43 = .int .i64 (k98 : Int) ∧ H150 = H') (by simp (maxSteps := 1000000) only [↓runs, isCall, ↓reduceIte, ↓gd_true, ↓gd_false, evs, AV.cells, Nat.reduceEqDiff, Nat.reduceLT, reduceCtorEq, Nat.reduceAdd, sy, f114, f115, f117, f118, f123, f124, f126, f127, f132, f133, f135, f141, f142, f143, f153, g0, g1, g2, g3, g8, g11, g42, g43, g47, hl]) ?_
              rintro s _ ⟨hl, g0, g1, g2, g3, g8, g11, g42, g43, rfl⟩
              refine wpo_nil ?_
              refine then_n ?_
              refine AM.wp_seq hp0 ?_
              refine AM.wp_reg hp0 ?_
              refine wpo_seg hp0 2 (fun s H' => s.length = 91 ∧ gt s 0 = v_0 ∧ gt s 1 = v_1 ∧ gt s 2 = .int .i64 side ∧ gt s 3 = v149 ∧ gt s 8 = .ptr p29 0 ∧ gt s 11 = .int .i64 (k98 : Int) ∧ gt s 42 = .int .i64 (t.length : Int) ∧ gt s 43 = .int .i64 (k98 : Int) ∧ gt s 69 = .bool (!decide (side = 1)) ∧ H150 = H') (by simp (maxSteps := 1000000) only [↓runs, isCall, ↓reduceIte, ↓gd_true, ↓gd_false, evs, AV.cells, Nat.reduceEqDiff, Nat.reduceLT, reduceCtorEq, Nat.reduceAdd, sy, g0, g1, g2, g3, g8, g11, g42, g43, hl]) ?_
              rintro s _ ⟨hl, g0, g1, g2, g3, g8, g11, g42, g43, g69, rfl⟩
              refine wpo_nil ?_
              refine then_n ?_
              rcases Bool.eq_false_or_eq_true (!decide (side = 1)) with c155 | c155
              · replace hy100 := ifT c155 hy100
                refine AM.wp_condT (by simp only [ev_t, ev_c, g69, c155]) ?_
                refine AM.wp_reg hp0 ?_
                have f156 : iaA 2 1 (.ptr p29 0) (.int .i64 0) = some (.ptr p29 0) := by simp [iaA]
                have f157 := bx_ld (i := 0) hst (.tail _ (.tail _ (.tail _ (.head _)))) rfl
                obtain ⟨x158, e159, hy100⟩ := bn hy100
                obtain ⟨p160, y161, f162, f163, h164⟩ := fz_at (k := .i64) hst h_1 e159 rfl
                obtain ⟨x165, e166, hy100⟩ := bn hy100
                obtain ⟨p167, _, f169, f170, rfl⟩ := fz_at (k := .i64) hst h164 e166 rfl
                have f172 : iaA 2 1 (.ptr p29 0) (.int .i64 1) = some (.ptr p29 1) := by simp [iaA]
                have f173 := bx_ld (i := 1) hst (.tail _ (.tail _ (.tail _ (.head _)))) rfl
                obtain ⟨x174, e175, hy100⟩ := bn hy100
                obtain ⟨p176, y177, f178, f179, h180⟩ := fz_at (k := .i64) hst h_1 e175 rfl
                obtain ⟨x181, e182, hy100⟩ := bn hy100
                obtain ⟨p183, _, f185, f186, rfl⟩ := fz_at (k := .i64) hst h180 e182 rfl
                have f188 : fillA [.int .i64 0, .int .i64 0] [(0, 1, .int .i64 x165), (1, 1, .int .i64 x181)] = some [.int .i64 x165, .int .i64 x181] := by simp [fillA, splice, AV.cells]
                obtain ⟨v189, l190, H191, fg192, W, f194, f195, f196, w193, hst, o197⟩ := ow_lit' (n := 2) (k := 1) (z := [.int .i64 0, .int .i64 0]) (ys := [.agg [.int .i64 x165, .int .i64 x181]]) (M := ([(x165, x181)] : List (Int × Int))) [(0, 2, .agg [.int .i64 x165, .int .i64 x181])] rfl rfl hst (sc_cons (show Rp.rv _ (.agg [.int .i64 x165, .int .i64 x181]) ((x165, x181) : Int × Int) from (mk_ii _ _ _)) (sc_nil)) ((List.forall_mem_cons.2 ⟨(Rp.cells (show Rp.rv W (.agg [.int .i64 x165, .int .i64 x181]) ((x165, x181) : Int × Int) from (mk_ii _ _ _))), fun _ h => (List.not_mem_nil h).elim⟩)) rfl rfl rfl (by decide)
                replace h_1 := Rp.mono w193 h_1
                replace h116 := Rp.mono w193 h116
                replace h164 := Rp.mono w193 h164
                replace h180 := Rp.mono w193 h180
                replace o94 := o94.mono w193
                replace o154 := o154.mono w193
                replace o144 := o144.mono w193
                obtain ⟨c198, sn199⟩ := ow_sn hst (.head _) o197
                obtain ⟨x200, e201, hy100⟩ := bn hy100
                replace hst := hst.p1
                obtain ⟨v202, H203, fg204, W, f206, w205, hst, o207⟩ := ow_apps [.int .i64 0, .int .i64 0] rfl hst o154 sn199 e201
                replace h_1 := Rp.mono w205 h_1
                replace h116 := Rp.mono w205 h116
                replace h164 := Rp.mono w205 h164
                replace h180 := Rp.mono w205 h180
                replace o94 := o94.mono w205
                replace o144 := o144.mono w205
                replace o197 := o197.mono w205
                refine wpo_seg hp0 21 (fun s H' => s.length = 91 ∧ gt s 0 = v_0 ∧ gt s 1 = v_1 ∧ gt s 2 = .int .i64 side ∧ gt s 3 = v202 ∧ gt s 8 = .ptr p29 0 ∧ gt s 42 = .int .i64 (t.length : Int) ∧ gt s 43 = .int .i64 (k98 : Int) ∧ H203 = H') (by simp (maxSteps := 1000000) only [↓runs, isCall, ↓reduceIte, ↓gd_true, ↓gd_false, evs, AV.cells, Nat.reduceEqDiff, Nat.reduceLT, reduceCtorEq, Nat.reduceAdd, sy, f156, f157, f162, f163, f169, f170, f172, f173, f178, f179, f185, f186, f188, f194, f195, f196, f206, g0, g1, g2, g3, g8, g11, g42, g43, g69, hl]) ?_
                rintro s _ ⟨hl, g0, g1, g2, g3, g8, g42, g43, rfl⟩
                refine wpo_nil ?_
                refine rnd_n ?_
                obtain rfl := Option.some.inj hy100
                replace hst := hst.p1
                replace hst := hst.drop
                replace hst := hst.p1
                replace hst := hst.drop
                replace hst := hst.p2
                replace hst := hst.p2
                replace hst := hst.p2
                exact ⟨hl, g43, g42, ⟨W, _, _, hl, g3, g0, g1, g2, g8, ((((w105.trans w140).trans w152).trans w193).trans w205), hst, o207⟩⟩
              · replace hy100 := ifF c155 hy100
                refine AM.wp_condF (by simp only [ev_t, ev_c, g69, c155]) ?_
                refine AM.wp_skip ?_
                refine rnd_n ?_
                obtain rfl := Option.some.inj hy100
                replace hst := hst.p1
                replace hst := hst.drop
                replace hst := hst.p2
                replace hst := hst.p2
                replace hst := hst.p2
                exact ⟨hl, g43, g42, ⟨W, _, _, hl, g3, g0, g1, g2, g8, ((w105.trans w140).trans w152), hst, o154⟩⟩
            · replace hy100 := ifF c109 hy100
              refine AM.wp_condF (by simp only [ev_t, ev_c, g47, c109]) ?_
              refine AM.wp_skip ?_
              refine then_n ?_
              refine AM.wp_seq hp0 ?_
              refine AM.wp_reg hp0 ?_
              refine wpo_seg hp0 2 (fun s H' => s.length = 91 ∧ gt s 0 = v_0 ∧ gt s 1 = v_1 ∧ gt s 2 = .int .i64 side ∧ gt s 3 = v106 ∧ gt s 8 = .ptr p29 0 ∧ gt s 11 = .int .i64 (k98 : Int) ∧ gt s 42 = .int .i64 (t.length : Int) ∧ gt s 43 = .int .i64 (k98 : Int) ∧ gt s 69 = .bool (!decide (side = 1)) ∧ H = H') (by simp (maxSteps := 1000000) only [↓runs, isCall, ↓reduceIte, ↓gd_true, ↓gd_false, evs, AV.cells, Nat.reduceEqDiff, Nat.reduceLT, reduceCtorEq, Nat.reduceAdd, sy, g0, g1, g2, g3, g8, g11, g42, g43, g47, hl]) ?_
              rintro s _ ⟨hl, g0, g1, g2, g3, g8, g11, g42, g43, g69, rfl⟩
              refine wpo_nil ?_
              refine then_n ?_
              rcases Bool.eq_false_or_eq_true (!decide (side = 1)) with c208 | c208
              · replace hy100 := ifT c208 hy100
                refine AM.wp_condT (by simp only [ev_t, ev_c, g69, c208]) ?_
                refine AM.wp_reg hp0 ?_
                have f209 : iaA 2 1 (.ptr p29 0) (.int .i64 0) = some (.ptr p29 0) := by simp [iaA]
                have f210 := bx_ld (i := 0) hst (.tail _ (.tail _ (.head _))) rfl
                obtain ⟨x211, e212, hy100⟩ := bn hy100
                obtain ⟨p213, y214, f215, f216, h217⟩ := fz_at (k := .i64) hst h_1 e212 rfl
                obtain ⟨x218, e219, hy100⟩ := bn hy100
                obtain ⟨p220, _, f222, f223, rfl⟩ := fz_at (k := .i64) hst h217 e219 rfl
                have f225 : iaA 2 1 (.ptr p29 0) (.int .i64 1) = some (.ptr p29 1) := by simp [iaA]
                have f226 := bx_ld (i := 1) hst (.tail _ (.tail _ (.head _))) rfl
                obtain ⟨x227, e228, hy100⟩ := bn hy100
                obtain ⟨p229, y230, f231, f232, h233⟩ := fz_at (k := .i64) hst h_1 e228 rfl
                obtain ⟨x234, e235, hy100⟩ := bn hy100
                obtain ⟨p236, _, f238, f239, rfl⟩ := fz_at (k := .i64) hst h233 e235 rfl
                have f241 : fillA [.int .i64 0, .int .i64 0] [(0, 1, .int .i64 x218), (1, 1, .int .i64 x234)] = some [.int .i64 x218, .int .i64 x234] := by simp [fillA, splice, AV.cells]
                obtain ⟨v242, l243, H244, fg245, W, f247, f248, f249, w246, hst, o250⟩ := ow_lit' (n := 2) (k := 1) (z := [.int .i64 0, .int .i64 0]) (ys := [.agg [.int .i64 x218, .int .i64 x234]]) (M := ([(x218, x234)] : List (Int × Int))) [(0, 2, .agg [.int .i64 x218, .int .i64 x234])] rfl rfl hst (sc_cons (show Rp.rv _ (.agg [.int .i64 x218, .int .i64 x234]) ((x218, x234) : Int × Int) from (mk_ii _ _ _)) (sc_nil)) ((List.forall_mem_cons.2 ⟨(Rp.cells (show Rp.rv W (.agg [.int .i64 x218, .int .i64 x234]) ((x218, x234) : Int × Int) from (mk_ii _ _ _))), fun _ h => (List.not_mem_nil h).elim⟩)) rfl rfl rfl (by decide)
                replace h_1 := Rp.mono w246 h_1
                replace h217 := Rp.mono w246 h217
                replace h233 := Rp.mono w246 h233
                replace o94 := o94.mono w246
                replace o108 := o108.mono w246
                obtain ⟨c251, sn252⟩ := ow_sn hst (.head _) o250
                obtain ⟨x253, e254, hy100⟩ := bn hy100
                replace hst := hst.p1
                obtain ⟨v255, H256, fg257, W, f259, w258, hst, o260⟩ := ow_apps [.int .i64 0, .int .i64 0] rfl hst o108 sn252 e254
                replace h_1 := Rp.mono w258 h_1
                replace h217 := Rp.mono w258 h217
                replace h233 := Rp.mono w258 h233
                replace o94 := o94.mono w258
                replace o250 := o250.mono w258
                refine wpo_seg hp0 21 (fun s H' => s.length = 91 ∧ gt s 0 = v_0 ∧ gt s 1 = v_1 ∧ gt s 2 = .int .i64 side ∧ gt s 3 = v255 ∧ gt s 8 = .ptr p29 0 ∧ gt s 42 = .int .i64 (t.length : Int) ∧ gt s 43 = .int .i64 (k98 : Int) ∧ H256 = H') (by simp (maxSteps := 1000000) only [↓runs, isCall, ↓reduceIte, ↓gd_true, ↓gd_false, evs, AV.cells, Nat.reduceEqDiff, Nat.reduceLT, reduceCtorEq, Nat.reduceAdd, sy, f209, f210, f215, f216, f222, f223, f225, f226, f231, f232, f238, f239, f241, f247, f248, f249, f259, g0, g1, g2, g3, g8, g11, g42, g43, g69, hl]) ?_
                rintro s _ ⟨hl, g0, g1, g2, g3, g8, g42, g43, rfl⟩
                refine wpo_nil ?_
                refine rnd_n ?_
                obtain rfl := Option.some.inj hy100
                replace hst := hst.p1
                replace hst := hst.drop
                replace hst := hst.p2
                replace hst := hst.p2
                replace hst := hst.p2
                exact ⟨hl, g43, g42, ⟨W, _, _, hl, g3, g0, g1, g2, g8, ((w105.trans w246).trans w258), hst, o260⟩⟩
              · replace hy100 := ifF c208 hy100
                refine AM.wp_condF (by simp only [ev_t, ev_c, g69, c208]) ?_
                refine AM.wp_skip ?_
                refine rnd_n ?_
                obtain rfl := Option.some.inj hy100
                replace hst := hst.p2
                replace hst := hst.p2
                replace hst := hst.p2
                exact ⟨hl, g43, g42, ⟨W, _, _, hl, g3, g0, g1, g2, g8, w105, hst, o108⟩⟩
          · rintro s H hI _
            obtain ⟨W, v262, fg263, hl, g3, g0, g1, g2, g8, w261, hst, o264⟩ := hI
            replace h_1 := Rp.mono w261 h_1
            replace o94 := o94.mono w261
            refine blk_n ?_
            refine then_n ?_
            obtain rfl := Option.some.inj hy5
            replace hst := hst.p2
            replace hst := hst.drop
            replace hst := hst.p1
            replace hst := hst.p1
            exact ⟨_, rfl, ⟨W, _, _, _, hl, g3, g0, g1, g2, (((w11.trans w31).trans w83).trans w261), hst, o264, o94⟩⟩
    · replace hy5 := ifF c19 hy5
      refine AM.wp_condF (by simp only [ev_t, ev_c, g14, c19]) ?_
      refine AM.wp_exit ?_
      refine then_x ?_
      refine then_x (rnd_c rfl ?_)
      obtain rfl := Option.some.inj hy5
      replace hst := hst.drop
      exact ⟨_, rfl, ⟨W, _, hl, w11, hst, o16⟩⟩
  · rintro x265 s H hz hI
    subst hz
    dsimp only at hp hI
    obtain ⟨W, fg267, hl, w266, hst, o268⟩ := hI
    replace h_1 := Rp.mono w266 h_1
    obtain rfl := Option.some.inj hp
    refine body_norm (vs := []) (by simp only [rvs, f_congr_forest_join, Option.map_some]) ?_
    exact ⟨W, w266, _, hst, rfl, o268⟩

end Go.Proofs.Ytmdpejgnkoneoaa.Pu
set_option maxRecDepth 100000
set_option maxHeartbeats 4000000
namespace Go.Proofs.Ytmdpejgnkoneoaa.Pu
open Go Go.AM Go.Proofs.Ytmdpejgnkoneoaa.Code

noncomputable def P_congr_forest_partition_l14 (f : List Int) (k16 : Nat) (x15 : List Int) : Option ((List Int)) :=
  Option.bind (P_congr_forest_findF f (k16 : Int)) fun r28 =>
  Option.bind (si x15 (k16 : Int) r28) fun x34 =>
  some x34
noncomputable def P_congr_forest_partition (f : List Int) : Option ((List Int)) :=
  Option.bind (mkz (α := Int) 8 (f.length : Int) (f.length : Int) 0) fun x3 =>
  Option.bind (forS x3.length (fun k x => P_congr_forest_partition_l14 f k x) x3) fun z20 =>
  Option.bind (P_partition_Canonical z20) fun r49 =>
  some r49
theorem R_congr_forest_partition {G : List Frag} {W H : AH} {v_0 : AV} {g_0 : Frag} {f : List Int} (hst : St (g_0 :: G) W H) (o_0 : OwF W v_0 g_0 f) {r : (List Int)} (hp : P_congr_forest_partition f = some r) :
    wpc E0 N_congr_forest_partition [v_0] H fun rv H' => ∃ W', Wle W W' ∧ ∃ (g0 : Frag), ∃ (gi0 : Frag), St (g0 :: gi0 :: G) W' H' ∧ OwS W' rv g0 (r : List Int) ∧ OwF W' v_0 gi0 f := by
  refine enterN (F := f_congr_forest_partition) rfl (Nat.le_of_ble_eq_true rfl) fun s hl hg => ?_
  replace hl : s.length = 22 := hl
  have g0 : gt s 0 = v_0 := hg 0 (Nat.le_of_ble_eq_true rfl)
  clear hg
  unfold P_congr_forest_partition at hp
  show wp E0 c_congr_forest_partition s H _
  unfold c_congr_forest_partition
  refine AM.wp_seq hp0 ?_
  refine AM.wp_reg hp0 ?_
  refine wpo_seg hp0 1 (fun s H' => s.length = 22 ∧ gt s 0 = v_0 ∧ H = H') (by simp (maxSteps := 1000000) only [↓runs, isCall, ↓reduceIte, ↓gd_true, ↓gd_false, evs, AV.cells, Nat.reduceEqDiff, Nat.reduceLT, reduceCtorEq, Nat.reduceAdd, sy, g0, hl]) ?_
  rintro s _ ⟨hl, g0, rfl⟩
  refine wpo_nil ?_
  refine then_n ?_
  refine AM.wp_seq hp0 ?_
  refine AM.wp_reg hp0 ?_
  have f1 := of_ln o_0
  have b2 := of_big o_0
  obtain ⟨x3, e4, hp⟩ := bn hp
  obtain ⟨v5, H6, fg7, W, f10, w9, hst, o11⟩ := ow_mk (kn := .i64) (kc := .i64) hst (show Rp.rv _ (.int .i64 0) (0 : Int) from rfl) [.int .i64 0] rfl e4
  replace o_0 := o_0.mono w9
  refine wpo_seg hp0 4 (fun s H' => s.length = 22 ∧ gt s 0 = v_0 ∧ gt s 3 = v5 ∧ H6 = H') (by simp (maxSteps := 1000000) only [↓runs, isCall, ↓reduceIte, ↓gd_true, ↓gd_false, evs, AV.cells, Nat.reduceEqDiff, Nat.reduceLT, reduceCtorEq, Nat.reduceAdd, sy, f1, f10, g0, hl]) ?_
  rintro s _ ⟨hl, g0, g3, rfl⟩
  refine wpo_nil ?_
  refine then_n ?_
  refine AM.wp_seq hp0 ?_
  refine AM.wp_seq hp0 ?_
  refine AM.wp_reg hp0 ?_
  have f12 := ow_ln o11
  have b13 := ow_big o11
  refine wpo_seg hp0 3 (fun s H' => s.length = 22 ∧ gt s 0 = v_0 ∧ gt s 3 = v5 ∧ gt s 9 = .int .i64 (x3.length : Int) ∧ gt s 10 = .int .i64 0 ∧ H6 = H') (by simp (maxSteps := 1000000) only [↓runs, isCall, ↓reduceIte, ↓gd_true, ↓gd_false, evs, AV.cells, Nat.reduceEqDiff, Nat.reduceLT, reduceCtorEq, Nat.reduceAdd, sy, f12, g0, g3, hl]) ?_
  rintro s _ ⟨hl, g0, g3, g9, g10, rfl⟩
  refine wpo_nil ?_
  refine then_n ?_
  obtain ⟨z20, e21, hp⟩ := bn hp
  refine rangeS_ref hp0 22 x3.length (fun k x => P_congr_forest_partition_l14 f k x) (fun _ x s H' => ∃ (W' : AH) (qo2 : Frag) (qo1 : Frag), s.length = 22 ∧ gt s 0 = v_0 ∧ gt s 3 = v5 ∧  Wle W W' ∧ St (qo2 :: qo1 :: G) W' H' ∧ OwS W' v5 qo2 (x : List Int) ∧ OwF W' v_0 qo1 (f : List Int)) e21 (b13) rfl ?_ ?_ hl g10 g9 ?_ ?_
  · intro k x s H d v hd h; rcases hd with rfl | rfl | rfl <;> simpa only [gt_other, pt_length, Nat.reduceEqDiff, not_false_eq_true] using h
  · replace hst := hst.p1
    replace hst := hst.p1
    exact ⟨W, _, _, hl, g0, g3, .refl _, hst, o11, o_0⟩
  · intro k16 x15 y17 s H hk hI hl g10 g9 hy18
    change P_congr_forest_partition_l14 f k16 x15 = some y17 at hy18
    unfold P_congr_forest_partition_l14 at hy18
    obtain ⟨W, fg24, fg26, hl, g0, g3, w23, hst, o25, o27⟩ := hI
    refine AM.wp_seq hp0 ?_
    refine AM.wp_reg hp0 ?_
    refine wpo_seg hp0 2 (fun s H' => s.length = 22 ∧ gt s 0 = v_0 ∧ gt s 3 = v5 ∧ gt s 4 = .int .i64 (k16 : Int) ∧ gt s 9 = .int .i64 (x3.length : Int) ∧ gt s 10 = .int .i64 (k16 : Int) ∧ H = H') (by simp (maxSteps := 1000000) only [↓runs, isCall, ↓reduceIte, ↓gd_true, ↓gd_false, evs, AV.cells, Nat.reduceEqDiff, Nat.reduceLT, reduceCtorEq, Nat.reduceAdd, sy, g0, g3, g9, g10, hl]) ?_
    rintro s _ ⟨hl, g0, g3, g4, g9, g10, rfl⟩
    refine wpo_nil ?_
    refine then_n ?_
    refine AM.wp_reg hp0 ?_
    refine wpo_seg hp0 4 (fun s H' => s.length = 22 ∧ gt s 0 = v_0 ∧ gt s 3 = v5 ∧ gt s 9 = .int .i64 (x3.length : Int) ∧ gt s 10 = .int .i64 (k16 : Int) ∧ gt s 13 = v5 ∧ gt s 14 = .int .i64 (k16 : Int) ∧ gt s 15 = v_0 ∧ gt s 16 = .int .i64 (k16 : Int) ∧ H = H') (by simp (maxSteps := 1000000) only [↓runs, isCall, ↓reduceIte, ↓gd_true, ↓gd_false, evs, AV.cells, Nat.reduceEqDiff, Nat.reduceLT, reduceCtorEq, Nat.reduceAdd, sy, g0, g3, g4, g9, g10, hl]) ?_
    rintro s _ ⟨hl, g0, g3, g9, g10, g13, g14, g15, g16, rfl⟩
    obtain ⟨r28, e29, hy18⟩ := bn hy18
    replace hst := hst.p1
    refine wpo_callK hp0 rfl (ys := [v_0, .int .i64 (k16 : Int)]) (by simp only [evs, List.map_cons, List.map_nil, ev_t, ev_c, g15, g16]) (R_congr_forest_findF hst o27 e29) ?_
    rintro rv30 H ⟨W, w31, fg32, hst, rfl, o33⟩
    replace o25 := o25.mono w31
    obtain ⟨x34, e35, hy18⟩ := bn hy18
    replace hst := hst.p1
    obtain ⟨p36, H37, fg38, f39, f40, hst, o41⟩ := ow_set (k := .i64) 1 rfl hst o25 (show Rp.rv W (.int .i64 r28) (r28 : Int) from rfl) e35
    refine wpo_seg hp0 2 (fun s H' => s.length = 22 ∧ gt s 0 = v_0 ∧ gt s 3 = v5 ∧ gt s 9 = .int .i64 (x3.length : Int) ∧ gt s 10 = .int .i64 (k16 : Int) ∧ H37 = H') (by simp (maxSteps := 1000000) only [↓runs, isCall, ↓reduceIte, ↓gd_true, ↓gd_false, evs, AV.cells, Nat.reduceEqDiff, Nat.reduceLT, reduceCtorEq, Nat.reduceAdd, sy, gt_other, f39, f40, g0, g3, g9, g10, g13, g14, g15, g16, hl]) ?_
    rintro s _ ⟨hl, g0, g3, g9, g10, rfl⟩
    refine wpo_nil ?_
    refine rnd_n ?_
    obtain rfl := Option.some.inj hy18
    replace hst := hst.p1
    replace hst := hst.p1
    exact ⟨hl, g10, g9, ⟨W, _, _, hl, g0, g3, (w23.trans w31), hst, o41, o33⟩⟩
  · rintro s H hI _
    obtain ⟨W, fg43, fg45, hl, g0, g3, w42, hst, o44, o46⟩ := hI
    refine then_n ?_
    refine AM.wp_seq hp0 ?_
    refine AM.wp_reg hp0 ?_
    refine wpo_seg hp0 1 (fun s H' => s.length = 22 ∧ gt s 20 = v5 ∧ H = H') (by simp (maxSteps := 1000000) only [↓runs, isCall, ↓reduceIte, ↓gd_true, ↓gd_false, evs, AV.cells, Nat.reduceEqDiff, Nat.reduceLT, reduceCtorEq, Nat.reduceAdd, sy, g0, g3, hl]) ?_
    rintro s _ ⟨hl, g20, rfl⟩
    obtain ⟨W, w48, hst, h47⟩ := ow_frz hst o44
    replace o46 := o46.mono w48
    obtain ⟨r49, e50, hp⟩ := bn hp
    refine wpo_callK hp0 rfl (ys := [v5]) (by simp only [evs, List.map_cons, List.map_nil, ev_t, ev_c, g20]) (R_partition_Canonical hst h47 e50) ?_
    rintro rv51 H ⟨W, w52, fg53, hst, o54⟩
    replace h47 := Rp.mono w52 h47
    replace o46 := o46.mono w52
    refine wpo_seg hp0 1 (fun s H' => s.length = 22 ∧ gt s 2 = rv51 ∧ H = H') (by simp (maxSteps := 1000000) only [↓runs, isCall, ↓reduceIte, ↓gd_true, ↓gd_false, evs, AV.cells, Nat.reduceEqDiff, Nat.reduceLT, reduceCtorEq, Nat.reduceAdd, sy, gt_other, g20, hl]) ?_
    rintro s _ ⟨hl, g2, rfl⟩
    refine wpo_nil ?_
    refine then_n ?_
    refine AM.wp_ret ?_
    obtain rfl := Option.some.inj hp
    replace hst := hst.p1
    replace hst := hst.p1
    refine body_ret (vs := [rv51]) (by simp only [rvs, f_congr_forest_partition, Option.map_some, g2]) ?_
    exact ⟨W, (((w9.trans w42).trans w48).trans w52), _, _, hst, o54, o46⟩

end Go.Proofs.Ytmdpejgnkoneoaa.Pu
set_option maxRecDepth 100000
set_option maxHeartbeats 4000000
namespace Go.Proofs.Ytmdpejgnkoneoaa.Pu
open Go Go.AM Go.Proofs.Ytmdpejgnkoneoaa.Code

noncomputable def P_congr_generated (t : List (List Int)) (pairs : List (Int × Int)) (side : Int) : Option ((List Int)) :=
  Option.bind (P_partition_Discrete (t.length : Int)) fun r2 =>
  Option.bind (pus 16 [] pairs) fun x19 =>
  Option.bind (fnew r2) fun x27 =>
  Option.bind (P_congr_forest_join x27 t side x19) fun r30 =>
  Option.bind (P_congr_forest_partition r30) fun r36 =>
  some r36
theorem R_congr_generated {G : List Frag} {W H : AH} {v_0 v_1 : AV} {t : List (List Int)} {pairs : List (Int × Int)} {side : Int} (hst : St G W H) (h_0 : Rp.rv W v_0 t) (h_1 : Rp.rv W v_1 pairs) {r : (List Int)} (hp : P_congr_generated t pairs side = some r) :
    wpc E0 N_congr_generated [v_0, v_1, .int .i64 side] H fun rv H' => ∃ W', Wle W W' ∧ ∃ (g0 : Frag), St (g0 :: G) W' H' ∧ OwS W' rv g0 (r : List Int) := by
  refine enterN (F := f_congr_generated) rfl (Nat.le_of_ble_eq_true rfl) fun s hl hg => ?_
  replace hl : s.length = 20 := hl
  have g0 : gt s 0 = v_0 := hg 0 (Nat.le_of_ble_eq_true rfl)
  have g1 : gt s 1 = v_1 := hg 1 (Nat.le_of_ble_eq_true rfl)
  have g2 : gt s 2 = .int .i64 side := hg 2 (Nat.le_of_ble_eq_true rfl)
  clear hg
  unfold P_congr_generated at hp
  show wp E0 c_congr_generated s H _
  unfold c_congr_generated
  refine AM.wp_seq hp0 ?_
  refine AM.wp_reg hp0 ?_
  refine wpo_seg hp0 1 (fun s H' => s.length = 20 ∧ gt s 0 = v_0 ∧ gt s 1 = v_1 ∧ gt s 2 = .int .i64 side ∧ H = H') (by simp (maxSteps := 1000000) only [↓runs, isCall, ↓reduceIte, ↓gd_true, ↓gd_false, evs, AV.cells, Nat.reduceEqDiff, Nat.reduceLT, reduceCtorEq, Nat.reduceAdd, sy, g0, g1, g2, hl]) ?_
  rintro s _ ⟨hl, g0, g1, g2, rfl⟩
  refine wpo_nil ?_
  refine then_n ?_
  refine AM.wp_seq hp0 ?_
  refine AM.wp_reg hp0 ?_
  have f1 := fz_ln h_0
  refine wpo_seg hp0 2 (fun s H' => s.length = 20 ∧ gt s 0 = v_0 ∧ gt s 1 = v_1 ∧ gt s 2 = .int .i64 side ∧ gt s 9 = .int .i64 (t.length : Int) ∧ H = H') (by simp (maxSteps := 1000000) only [↓runs, isCall, ↓reduceIte, ↓gd_true, ↓gd_false, evs, AV.cells, Nat.reduceEqDiff, Nat.reduceLT, reduceCtorEq, Nat.reduceAdd, sy, f1, g0, g1, g2, hl]) ?_
  rintro s _ ⟨hl, g0, g1, g2, g9, rfl⟩
  obtain ⟨r2, e3, hp⟩ := bn hp
  refine wpo_callK hp0 rfl (ys := [.int .i64 (t.length : Int)]) (by simp only [evs, List.map_cons, List.map_nil, ev_t, ev_c, g9]) (R_partition_Discrete hst e3) ?_
  rintro rv4 H ⟨W, w5, fg6, hst, o7⟩
  replace h_0 := Rp.mono w5 h_0
  replace h_1 := Rp.mono w5 h_1
  refine wpo_seg hp0 1 (fun s H' => s.length = 20 ∧ gt s 0 = v_0 ∧ gt s 1 = v_1 ∧ gt s 2 = .int .i64 side ∧ gt s 7 = rv4 ∧ H = H') (by simp (maxSteps := 1000000) only [↓runs, isCall, ↓reduceIte, ↓gd_true, ↓gd_false, evs, AV.cells, Nat.reduceEqDiff, Nat.reduceLT, reduceCtorEq, Nat.reduceAdd, sy, gt_other, g0, g1, g2, g9, hl]) ?_
  rintro s _ ⟨hl, g0, g1, g2, g7, rfl⟩
  refine wpo_nil ?_
  refine then_n ?_
  refine AM.wp_seq hp0 ?_
  refine AM.wp_reg hp0 ?_
  obtain ⟨v8, l9, H10, fg11, W, f13, f14, f15, w12, hst, o16⟩ := ow_lit' (n := 2) (k := 0) (z := []) (ys := []) (M := ([] : List (Int × Int))) [] rfl rfl hst (sc_nil) ( fun _ h => (List.not_mem_nil h).elim) rfl rfl rfl (by decide)
  replace h_0 := Rp.mono w12 h_0
  replace h_1 := Rp.mono w12 h_1
  replace o7 := o7.mono w12
  obtain ⟨c17, sn18⟩ := fz_sn hst h_1
  obtain ⟨x19, e20, hp⟩ := bn hp
  obtain ⟨v21, H22, fg23, W, f25, w24, hst, o26⟩ := ow_apps [.int .i64 0, .int .i64 0] rfl hst o16 sn18 e20
  replace h_0 := Rp.mono w24 h_0
  replace h_1 := Rp.mono w24 h_1
  replace o7 := o7.mono w24
  refine wpo_seg hp0 6 (fun s H' => s.length = 20 ∧ gt s 7 = rv4 ∧ gt s 11 = rv4 ∧ gt s 12 = v_0 ∧ gt s 13 = .int .i64 side ∧ gt s 16 = v21 ∧ H22 = H') (by simp (maxSteps := 1000000) only [↓runs, isCall, ↓reduceIte, ↓gd_true, ↓gd_false, evs, AV.cells, Nat.reduceEqDiff, Nat.reduceLT, reduceCtorEq, Nat.reduceAdd, sy, f13, f14, f15, f25, g0, g1, g2, g7, hl]) ?_
  rintro s _ ⟨hl, g7, g11, g12, g13, g16, rfl⟩
  obtain ⟨x27, e28, hp⟩ := bn hp
  have o29 := of_new o7 e28
  obtain ⟨r30, e31, hp⟩ := bn hp
  replace hst := hst.p1
  refine wpo_callK hp0 rfl (ys := [rv4, v_0, .int .i64 side, v21]) (by simp only [evs, List.map_cons, List.map_nil, ev_t, ev_c, g11, g12, g13, g16]) (R_congr_forest_join hst o29 h_0 o26 e31) ?_
  rintro rv32 H ⟨W, w33, fg34, hst, rfl, o35⟩
  replace h_0 := Rp.mono w33 h_0
  replace h_1 := Rp.mono w33 h_1
  refine wpo_seg hp0 0 (fun s H' => s.length = 20 ∧ gt s 7 = rv4 ∧ H = H') (by simp (maxSteps := 1000000) only [↓runs, isCall, ↓reduceIte, ↓gd_true, ↓gd_false, evs, AV.cells, Nat.reduceEqDiff, Nat.reduceLT, reduceCtorEq, Nat.reduceAdd, sy, gt_other, g7, g11, g12, g13, g16, hl]) ?_
  rintro s _ ⟨hl, g7, rfl⟩
  refine wpo_nil ?_
  refine then_n ?_
  refine AM.wp_seq hp0 ?_
  refine AM.wp_reg hp0 ?_
  refine wpo_seg hp0 1 (fun s H' => s.length = 20 ∧ gt s 18 = rv4 ∧ H = H') (by simp (maxSteps := 1000000) only [↓runs, isCall, ↓reduceIte, ↓gd_true, ↓gd_false, evs, AV.cells, Nat.reduceEqDiff, Nat.reduceLT, reduceCtorEq, Nat.reduceAdd, sy, g7, hl]) ?_
  rintro s _ ⟨hl, g18, rfl⟩
  obtain ⟨r36, e37, hp⟩ := bn hp
  refine wpo_callK hp0 rfl (ys := [rv4]) (by simp only [evs, List.map_cons, List.map_nil, ev_t, ev_c, g18]) (R_congr_forest_partition hst o35 e37) ?_
  rintro rv38 H ⟨W, w39, fg40, fg42, hst, o41, o43⟩
  replace h_0 := Rp.mono w39 h_0
  replace h_1 := Rp.mono w39 h_1
  refine wpo_seg hp0 1 (fun s H' => s.length = 20 ∧ gt s 6 = rv38 ∧ H = H') (by simp (maxSteps := 1000000) only [↓runs, isCall, ↓reduceIte, ↓gd_true, ↓gd_false, evs, AV.cells, Nat.reduceEqDiff, Nat.reduceLT, reduceCtorEq, Nat.reduceAdd, sy, gt_other, g18, hl]) ?_
  rintro s _ ⟨hl, g6, rfl⟩
  refine wpo_nil ?_
  refine then_n ?_
  refine AM.wp_ret ?_
  obtain rfl := Option.some.inj hp
  replace hst := hst.p1
  replace hst := hst.drop
  refine body_ret (vs := [rv38]) (by simp only [rvs, f_congr_generated, Option.map_some, g6]) ?_
  exact ⟨W, ((((w5.trans w12).trans w24).trans w33).trans w39), _, hst, o41⟩

end Go.Proofs.Ytmdpejgnkoneoaa.Pu
set_option maxRecDepth 100000
set_option maxHeartbeats 4000000
namespace Go.Proofs.Ytmdpejgnkoneoaa.Pu
open Go Go.AM Go.Proofs.Ytmdpejgnkoneoaa.Code

noncomputable def P_congr_Generated_l13 (pairs : List (Int × Int)) (t : List (List Int)) (k15 : Nat) : Option (Lp (Unit) ((List Int))) :=
  Option.bind (gi pairs (k15 : Int)) fun x22 =>
  Option.bind (
    if decide (x22.1 < 0) then
      some true
    else
      if decide ((t.length : Int) ≤ x22.1) then
        some true
      else
        if decide (x22.2 < 0) then
          some true
        else
          some (decide ((t.length : Int) ≤ x22.2))) fun z36 =>
  if z36 then
    some (.ex [])
  else
    some (.go ())
noncomputable def P_congr_Generated (t : List (List Int)) (pairs : List (Int × Int)) (side : Int) : Option ((List Int)) :=
  Option.bind (
    Option.bind (P_mult_Validate t) fun r3 =>
    if !decide (r3 = 0) then
      some true
    else
      if decide (side < 0) then
        some true
      else
        some (decide (2 < side))) fun z1 =>
  if z1 then
    some []
  else
    Option.bind (forR pairs.length (fun k x => P_congr_Generated_l13 pairs t k) ()) fun z19 =>
    match z19 with
    | .inl x54 =>
      Option.bind (P_congr_generated t pairs side) fun r56 =>
      some r56
    | .inr b => some b
theorem R_congr_Generated {G : List Frag} {W H : AH} {v_0 v_1 : AV} {t : List (List Int)} {pairs : List (Int × Int)} {side : Int} (hst : St G W H) (h_0 : Rp.rv W v_0 t) (h_1 : Rp.rv W v_1 pairs) {r : (List Int)} (hp : P_congr_Generated t pairs side = some r) :
    wpc E0 N_congr_Generated [v_0, v_1, .int .i64 side] H fun rv H' => ∃ W', Wle W W' ∧ ∃ (g0 : Frag), St (g0 :: G) W' H' ∧ OwS W' rv g0 (r : List Int) := by
  refine enterN (F := f_congr_Generated) rfl (Nat.le_of_ble_eq_true rfl) fun s hl hg => ?_
  replace hl : s.length = 53 := hl
  have g0 : gt s 0 = v_0 := hg 0 (Nat.le_of_ble_eq_true rfl)
  have g1 : gt s 1 = v_1 := hg 1 (Nat.le_of_ble_eq_true rfl)
  have g2 : gt s 2 = .int .i64 side := hg 2 (Nat.le_of_ble_eq_true rfl)
  clear hg
  unfold P_congr_Generated at hp
  show wp E0 c_congr_Generated s H _
  unfold c_congr_Generated
  refine AM.wp_seq hp0 ?_
  refine AM.wp_reg hp0 ?_
  refine wpo_seg hp0 1 (fun s H' => s.length = 53 ∧ gt s 0 = v_0 ∧ gt s 1 = v_1 ∧ gt s 2 = .int .i64 side ∧ H = H') (by simp (maxSteps := 1000000) only [↓runs, isCall, ↓reduceIte, ↓gd_true, ↓gd_false, evs, AV.cells, Nat.reduceEqDiff, Nat.reduceLT, reduceCtorEq, Nat.reduceAdd, sy, g0, g1, g2, hl]) ?_
  rintro s _ ⟨hl, g0, g1, g2, rfl⟩
  refine wpo_nil ?_
  refine then_n ?_
  refine AM.wp_seq hp0 ?_
  refine AM.wp_seq hp0 ?_
  obtain ⟨z1, hj2, hp⟩ := bn hp
  refine AM.wp_regK hp0 (fun s H' => ∃ (W' : AH), s.length = 53 ∧ gt s 19 = .bool z1 ∧ gt s 0 = v_0 ∧ gt s 1 = v_1 ∧ gt s 2 = .int .i64 side ∧  Wle W W' ∧ St G W' H') ?_ ?_
  · refine wpo_seg hp0 1 (fun s H' => s.length = 53 ∧ gt s 0 = v_0 ∧ gt s 1 = v_1 ∧ gt s 2 = .int .i64 side ∧ gt s 9 = v_0 ∧ H = H') (by simp (maxSteps := 1000000) only [↓runs, isCall, ↓reduceIte, ↓gd_true, ↓gd_false, evs, AV.cells, Nat.reduceEqDiff, Nat.reduceLT, reduceCtorEq, Nat.reduceAdd, sy, g0, g1, g2, hl]) ?_
    rintro s _ ⟨hl, g0, g1, g2, g9, rfl⟩
    obtain ⟨r3, e4, hj2⟩ := bn hj2
    refine wpo_callK hp0 rfl (ys := [v_0]) (by simp only [evs, List.map_cons, List.map_nil, ev_t, ev_c, g9]) (R_mult_Validate hst h_0 e4) ?_
    rintro rv5 H ⟨W, w6, hst, rfl⟩
    replace h_0 := Rp.mono w6 h_0
    replace h_1 := Rp.mono w6 h_1
    rcases Bool.eq_false_or_eq_true (!decide (r3 = 0)) with c7 | c7
    · replace hj2 := ifT c7 hj2
      refine wpo_seg hp0 9 (fun s H' => s.length = 53 ∧ gt s 0 = v_0 ∧ gt s 1 = v_1 ∧ gt s 2 = .int .i64 side ∧ gt s 19 = .bool true ∧ H = H') (by simp (maxSteps := 1000000) only [↓runs, isCall, ↓reduceIte, ↓gd_true, ↓gd_false, evs, AV.cells, Nat.reduceEqDiff, Nat.reduceLT, reduceCtorEq, Nat.reduceAdd, sy, gt_other, c7, g0, g1, g2, g9, hl]) ?_
      rintro s _ ⟨hl, g0, g1, g2, g19, rfl⟩
      refine wpo_nil ?_
      obtain rfl := Option.some.inj hj2
      exact ⟨W, hl, g19, g0, g1, g2, w6, hst⟩
    · replace hj2 := ifF c7 hj2
      rcases Bool.eq_false_or_eq_true (decide (side < 0)) with c8 | c8
      · replace hj2 := ifT c8 hj2
        refine wpo_seg hp0 9 (fun s H' => s.length = 53 ∧ gt s 0 = v_0 ∧ gt s 1 = v_1 ∧ gt s 2 = .int .i64 side ∧ gt s 19 = .bool true ∧ H = H') (by simp (maxSteps := 1000000) only [↓runs, isCall, ↓reduceIte, ↓gd_true, ↓gd_false, evs, AV.cells, Nat.reduceEqDiff, Nat.reduceLT, reduceCtorEq, Nat.reduceAdd, sy, gt_other, c7, c8, g0, g1, g2, g9, hl]) ?_
        rintro s _ ⟨hl, g0, g1, g2, g19, rfl⟩
        refine wpo_nil ?_
        obtain rfl := Option.some.inj hj2
        exact ⟨W, hl, g19, g0, g1, g2, w6, hst⟩
      · replace hj2 := ifF c8 hj2
        refine wpo_seg hp0 9 (fun s H' => s.length = 53 ∧ gt s 0 = v_0 ∧ gt s 1 = v_1 ∧ gt s 2 = .int .i64 side ∧ gt s 19 = .bool (decide (2 < side)) ∧ H = H') (by simp (maxSteps := 1000000) only [↓runs, isCall, ↓reduceIte, ↓gd_true, ↓gd_false, evs, AV.cells, Nat.reduceEqDiff, Nat.reduceLT, reduceCtorEq, Nat.reduceAdd, sy, gt_other, c7, c8, g0, g1, g2, g9, hl]) ?_
        rintro s _ ⟨hl, g0, g1, g2, g19, rfl⟩
        refine wpo_nil ?_
        obtain rfl := Option.some.inj hj2
        exact ⟨W, hl, g19, g0, g1, g2, w6, hst⟩
  · rintro s H ⟨W, hl, g19, g0, g1, g2, w9, hst⟩
    replace h_0 := Rp.mono w9 h_0
    replace h_1 := Rp.mono w9 h_1
    refine then_n ?_
    rcases Bool.eq_false_or_eq_true (z1) with c10 | c10
    · replace hp := ifT c10 hp
      refine AM.wp_condT (by simp only [ev_t, ev_c, g19, c10]) ?_
      refine AM.wp_seq hp0 ?_
      refine AM.wp_reg hp0 ?_
      refine wpo_seg hp0 1 (fun s H' => s.length = 53 ∧ gt s 6 = .nils ∧ H = H') (by simp (maxSteps := 1000000) only [↓runs, isCall, ↓reduceIte, ↓gd_true, ↓gd_false, evs, AV.cells, Nat.reduceEqDiff, Nat.reduceLT, reduceCtorEq, Nat.reduceAdd, sy, g0, g1, g2, g19, hl]) ?_
      rintro s _ ⟨hl, g6, rfl⟩
      refine wpo_nil ?_
      refine then_n ?_
      refine AM.wp_ret ?_
      refine then_r ?_
      replace hst := hst.nil
      have o11 := ow_nil (α := Int) W
      obtain rfl := Option.some.inj hp
      refine body_ret (vs := [.nils]) (by simp only [rvs, f_congr_Generated, Option.map_some, g6]) ?_
      exact ⟨W, w9, _, hst, o11⟩
    · replace hp := ifF c10 hp
      refine AM.wp_condF (by simp only [ev_t, ev_c, g19, c10]) ?_
      refine AM.wp_skip ?_
      refine then_n ?_
      refine AM.wp_seq hp0 ?_
      refine AM.wp_seq hp0 ?_
      refine AM.wp_reg hp0 ?_
      have f12 := fz_ln h_1
      refine wpo_seg hp0 3 (fun s H' => s.length = 53 ∧ gt s 0 = v_0 ∧ gt s 1 = v_1 ∧ gt s 2 = .int .i64 side ∧ gt s 20 = v_1 ∧ gt s 21 = .int .i64 (pairs.length : Int) ∧ gt s 22 = .int .i64 0 ∧ H = H') (by simp (maxSteps := 1000000) only [↓runs, isCall, ↓reduceIte, ↓gd_true, ↓gd_false, evs, AV.cells, Nat.reduceEqDiff, Nat.reduceLT, reduceCtorEq, Nat.reduceAdd, sy, f12, g0, g1, g2, g19, hl]) ?_
      rintro s _ ⟨hl, g0, g1, g2, g20, g21, g22, rfl⟩
      refine wpo_nil ?_
      refine then_n ?_
      obtain ⟨z19, e20, hp⟩ := bn hp
      refine range_ref hp0 53 pairs.length (fun k x => P_congr_Generated_l13 pairs t k) (fun _ x s H' => ∃ (W' : AH), s.length = 53 ∧ gt s 0 = v_0 ∧ gt s 1 = v_1 ∧ gt s 2 = .int .i64 side ∧ gt s 20 = v_1 ∧  Wle W W' ∧ St G W' H') (fun _ x s H' => ∃ (W' : AH), s.length = 53 ∧ gt s 0 = v_0 ∧ gt s 1 = v_1 ∧ gt s 2 = .int .i64 side ∧  Wle W W' ∧ St G W' H') e20 (fz_big h_1) rfl ?_ ?_ hl g22 g21 ?_ ?_
      · intro k x s H d v hd h; rcases hd with rfl | rfl | rfl <;> simpa only [gt_other, pt_length, Nat.reduceEqDiff, not_false_eq_true] using h
      · exact ⟨W, hl, g0, g1, g2, g20, .refl _, hst⟩
      · intro k15 x14 y16 s H hk hI hl g22 g21 hy17 hx18
        change P_congr_Generated_l13 pairs t k15 = some y16 at hy17
        unfold P_congr_Generated_l13 at hy17
        obtain ⟨W, hl, g0, g1, g2, g20, w21, hst⟩ := hI
        replace h_0 := Rp.mono w21 h_0
        replace h_1 := Rp.mono w21 h_1
        refine AM.wp_seq hp0 ?_
        refine AM.wp_reg hp0 ?_
        obtain ⟨x22, e23, hy17⟩ := bn hy17
        obtain ⟨p24, y25, f26, f27, h28⟩ := fz_atA (k := .i64) 2 rfl hst h_1 e23 rfl
        obtain rfl := pr_ii h28
        obtain ⟨p29, H30, W, f32, f33, w31, hst⟩ := bx_new' hst [.int .i64 0, .int .i64 0]
        replace h_0 := Rp.mono w31 h_0
        replace h_1 := Rp.mono w31 h_1
        obtain ⟨H34, f35, hst⟩ := bx_st (y := .agg [.int .i64 x22.1, .int .i64 x22.2]) (n := 2) hst rfl rfl rfl
        simp only [AV.cells] at hst
        refine wpo_seg hp0 4 (fun s H' => s.length = 53 ∧ gt s 0 = v_0 ∧ gt s 1 = v_1 ∧ gt s 2 = .int .i64 side ∧ gt s 8 = .ptr p29 0 ∧ gt s 20 = v_1 ∧ gt s 21 = .int .i64 (pairs.length : Int) ∧ gt s 22 = .int .i64 (k15 : Int) ∧ H34 = H') (by simp (maxSteps := 1000000) only [↓runs, isCall, ↓reduceIte, ↓gd_true, ↓gd_false, evs, AV.cells, Nat.reduceEqDiff, Nat.reduceLT, reduceCtorEq, Nat.reduceAdd, sy, f26, f27, f32, f33, f35, g0, g1, g2, g20, g21, g22, hl]) ?_
        rintro s _ ⟨hl, g0, g1, g2, g8, g20, g21, g22, rfl⟩
        refine wpo_nil ?_
        refine then_n ?_
        refine AM.wp_seq hp0 ?_
        obtain ⟨z36, hj37, hy17⟩ := bn hy17
        refine AM.wp_regK hp0 (fun s H' => s.length = 53 ∧ gt s 47 = .bool z36 ∧ gt s 0 = v_0 ∧ gt s 1 = v_1 ∧ gt s 2 = .int .i64 side ∧ gt s 20 = v_1 ∧ gt s 21 = .int .i64 (pairs.length : Int) ∧ gt s 22 = .int .i64 (k15 : Int) ∧ H34 = H') ?_ ?_
        · have f38 : iaA 2 1 (.ptr p29 0) (.int .i64 0) = some (.ptr p29 0) := by simp [iaA]
          have f39 := bx_ld (i := 0) hst (.head _) rfl
          rcases Bool.eq_false_or_eq_true (decide (x22.1 < 0)) with c40 | c40
          · replace hj37 := ifT c40 hj37
            refine wpo_seg hp0 22 (fun s H' => s.length = 53 ∧ gt s 0 = v_0 ∧ gt s 1 = v_1 ∧ gt s 2 = .int .i64 side ∧ gt s 20 = v_1 ∧ gt s 21 = .int .i64 (pairs.length : Int) ∧ gt s 22 = .int .i64 (k15 : Int) ∧ gt s 47 = .bool true ∧ H34 = H') (by simp (maxSteps := 1000000) only [↓runs, isCall, ↓reduceIte, ↓gd_true, ↓gd_false, evs, AV.cells, Nat.reduceEqDiff, Nat.reduceLT, reduceCtorEq, Nat.reduceAdd, sy, f38, f39, c40, g0, g1, g2, g8, g20, g21, g22, hl]) ?_
            rintro s _ ⟨hl, g0, g1, g2, g20, g21, g22, g47, rfl⟩
            refine wpo_nil ?_
            obtain rfl := Option.some.inj hj37
            exact ⟨hl, g47, g0, g1, g2, g20, g21, g22, rfl⟩
          · replace hj37 := ifF c40 hj37
            have f41 : iaA 2 1 (.ptr p29 0) (.int .i64 0) = some (.ptr p29 0) := by simp [iaA]
            have f42 := bx_ld (i := 0) hst (.head _) rfl
            have f43 := fz_ln h_0
            rcases Bool.eq_false_or_eq_true (decide ((t.length : Int) ≤ x22.1)) with c44 | c44
            · replace hj37 := ifT c44 hj37
              refine wpo_seg hp0 22 (fun s H' => s.length = 53 ∧ gt s 0 = v_0 ∧ gt s 1 = v_1 ∧ gt s 2 = .int .i64 side ∧ gt s 20 = v_1 ∧ gt s 21 = .int .i64 (pairs.length : Int) ∧ gt s 22 = .int .i64 (k15 : Int) ∧ gt s 47 = .bool true ∧ H34 = H') (by simp (maxSteps := 1000000) only [↓runs, isCall, ↓reduceIte, ↓gd_true, ↓gd_false, evs, AV.cells, Nat.reduceEqDiff, Nat.reduceLT, reduceCtorEq, Nat.reduceAdd, sy, f38, f39, c40, f41, f42, f43, c44, g0, g1, g2, g8, g20, g21, g22, hl]) ?_
              rintro s _ ⟨hl, g0, g1, g2, g20, g21, g22, g47, rfl⟩
              refine wpo_nil ?_
              obtain rfl := Option.some.inj hj37
              exact ⟨hl, g47, g0, g1, g2, g20, g21, g22, rfl⟩
            · replace hj37 := ifF c44 hj37
              have f45 : iaA 2 1 (.ptr p29 0) (.int .i64 1) = some (.ptr p29 1) := by simp [iaA]
              have f46 := bx_ld (i := 1) hst (.head _) rfl
              rcases Bool.eq_false_or_eq_true (decide (x22.2 < 0)) with c47 | c47
              · replace hj37 := ifT c47 hj37
                refine wpo_seg hp0 22 (fun s H' => s.length = 53 ∧ gt s 0 = v_0 ∧ gt s 1 = v_1 ∧ gt s 2 = .int .i64 side ∧ gt s 20 = v_1 ∧ gt s 21 = .int .i64 (pairs.length : Int) ∧ gt s 22 = .int .i64 (k15 : Int) ∧ gt s 47 = .bool true ∧ H34 = H') (by simp (maxSteps := 1000000) only [↓runs, isCall, ↓reduceIte, ↓gd_true, ↓gd_false, evs, AV.cells, Nat.reduceEqDiff, Nat.reduceLT, reduceCtorEq, Nat.reduceAdd, sy, f38, f39, c40, f41, f42, f43, c44, f45, f46, c47, g0, g1, g2, g8, g20, g21, g22, hl]) ?_
                rintro s _ ⟨hl, g0, g1, g2, g20, g21, g22, g47, rfl⟩
                refine wpo_nil ?_
                obtain rfl := Option.some.inj hj37
                exact ⟨hl, g47, g0, g1, g2, g20, g21, g22, rfl⟩
              · replace hj37 := ifF c47 hj37
                have f48 : iaA 2 1 (.ptr p29 0) (.int .i64 1) = some (.ptr p29 1) := by simp [iaA]
                have f49 := bx_ld (i := 1) hst (.head _) rfl
                have f50 := fz_ln h_0
                refine wpo_seg hp0 22 (fun s H' => s.length = 53 ∧ gt s 0 = v_0 ∧ gt s 1 = v_1 ∧ gt s 2 = .int .i64 side ∧ gt s 20 = v_1 ∧ gt s 21 = .int .i64 (pairs.length : Int) ∧ gt s 22 = .int .i64 (k15 : Int) ∧ gt s 47 = .bool (decide ((t.length : Int) ≤ x22.2)) ∧ H34 = H') (by simp (maxSteps := 1000000) only [↓runs, isCall, ↓reduceIte, ↓gd_true, ↓gd_false, evs, AV.cells, Nat.reduceEqDiff, Nat.reduceLT, reduceCtorEq, Nat.reduceAdd, sy, f38, f39, c40, f41, f42, f43, c44, f45, f46, c47, f48, f49, f50, g0, g1, g2, g8, g20, g21, g22, hl]) ?_
                rintro s _ ⟨hl, g0, g1, g2, g20, g21, g22, g47, rfl⟩
                refine wpo_nil ?_
                obtain rfl := Option.some.inj hj37
                exact ⟨hl, g47, g0, g1, g2, g20, g21, g22, rfl⟩
        · rintro s _ ⟨hl, g47, g0, g1, g2, g20, g21, g22, rfl⟩
          refine then_n ?_
          rcases Bool.eq_false_or_eq_true (z36) with c52 | c52
          · replace hy17 := ifT c52 hy17
            refine AM.wp_condT (by simp only [ev_t, ev_c, g47, c52]) ?_
            refine AM.wp_seq hp0 ?_
            refine AM.wp_reg hp0 ?_
            refine wpo_seg hp0 1 (fun s H' => s.length = 53 ∧ gt s 6 = .nils ∧ H34 = H') (by simp (maxSteps := 1000000) only [↓runs, isCall, ↓reduceIte, ↓gd_true, ↓gd_false, evs, AV.cells, Nat.reduceEqDiff, Nat.reduceLT, reduceCtorEq, Nat.reduceAdd, sy, g0, g1, g2, g20, g21, g22, g47, hl]) ?_
            rintro s _ ⟨hl, g6, rfl⟩
            refine wpo_nil ?_
            refine then_n ?_
            refine AM.wp_ret ?_
            refine rnd_r ?_
            refine then_r ?_
            replace hst := hst.nil
            have o53 := ow_nil (α := Int) W
            obtain rfl := Option.some.inj hy17
            have hx := hx18 _ rfl
            subst hx
            dsimp only at hp
            obtain rfl := Option.some.inj hp
            replace hst := hst.p1
            replace hst := hst.drop
            refine body_ret (vs := [.nils]) (by simp only [rvs, f_congr_Generated, Option.map_some, g6]) ?_
            exact ⟨W, ((w9.trans w21).trans w31), _, hst, o53⟩
          · replace hy17 := ifF c52 hy17
            refine AM.wp_condF (by simp only [ev_t, ev_c, g47, c52]) ?_
            refine AM.wp_skip ?_
            refine rnd_n ?_
            obtain rfl := Option.some.inj hy17
            replace hst := hst.drop
            exact ⟨_, rfl, hl, g22, g21, ⟨W, hl, g0, g1, g2, g20, (w21.trans w31), hst⟩⟩
      · rintro x54 s Hn hz hI
        replace hI : (fun s H' => ∃ (W' : AH), s.length = 53 ∧ gt s 0 = v_0 ∧ gt s 1 = v_1 ∧ gt s 2 = .int .i64 side ∧  Wle W W' ∧ St G W' H') s Hn := by
          rcases hI with ⟨hI, -⟩ | ⟨_, hI⟩
          · obtain ⟨W2, hl, g0, g1, g2, g20, w2, hst2⟩ := hI
            exact ⟨W2, hl, g0, g1, g2, w2, hst2⟩
          · exact hI
        obtain ⟨H, rfl⟩ : ∃ K, K = Hn := ⟨_, rfl⟩
        subst hz
        dsimp only at hp hI
        obtain ⟨W, hl, g0, g1, g2, w55, hst⟩ := hI
        replace h_0 := Rp.mono w55 h_0
        replace h_1 := Rp.mono w55 h_1
        refine then_n ?_
        refine AM.wp_seq hp0 ?_
        refine AM.wp_reg hp0 ?_
        refine wpo_seg hp0 3 (fun s H' => s.length = 53 ∧ gt s 49 = v_0 ∧ gt s 50 = v_1 ∧ gt s 51 = .int .i64 side ∧ H = H') (by simp (maxSteps := 1000000) only [↓runs, isCall, ↓reduceIte, ↓gd_true, ↓gd_false, evs, AV.cells, Nat.reduceEqDiff, Nat.reduceLT, reduceCtorEq, Nat.reduceAdd, sy, g0, g1, g2, hl]) ?_
        rintro s _ ⟨hl, g49, g50, g51, rfl⟩
        obtain ⟨r56, e57, hp⟩ := bn hp
        refine wpo_callK hp0 rfl (ys := [v_0, v_1, .int .i64 side]) (by simp only [evs, List.map_cons, List.map_nil, ev_t, ev_c, g49, g50, g51]) (R_congr_generated hst h_0 h_1 e57) ?_
        rintro rv58 H ⟨W, w59, fg60, hst, o61⟩
        replace h_0 := Rp.mono w59 h_0
        replace h_1 := Rp.mono w59 h_1
        refine wpo_seg hp0 1 (fun s H' => s.length = 53 ∧ gt s 6 = rv58 ∧ H = H') (by simp (maxSteps := 1000000) only [↓runs, isCall, ↓reduceIte, ↓gd_true, ↓gd_false, evs, AV.cells, Nat.reduceEqDiff, Nat.reduceLT, reduceCtorEq, Nat.reduceAdd, sy, gt_other, g49, g50, g51, hl]) ?_
        rintro s _ ⟨hl, g6, rfl⟩
        refine wpo_nil ?_
        refine then_n ?_
        refine AM.wp_ret ?_
        obtain rfl := Option.some.inj hp
        refine body_ret (vs := [rv58]) (by simp only [rvs, f_congr_Generated, Option.map_some, g6]) ?_
        exact ⟨W, ((w9.trans w55).trans w59), _, hst, o61⟩

end Go.Proofs.Ytmdpejgnkoneoaa.Pu
set_option maxRecDepth 100000
set_option maxHeartbeats 4000000
namespace Go.Proofs.Ytmdpejgnkoneoaa.Pu
open Go Go.AM Go.Proofs.Ytmdpejgnkoneoaa.Code

noncomputable def P_semigroupref03_Merge_l17 (x1 : Int) (x8 : Int) (k19 : Nat) (x18 : List Int) : Option ((List Int)) :=
  Option.bind (gi x18 (k19 : Int)) fun x29 =>
  if decide (x29 = x8) then
    Option.bind (si x18 (k19 : Int) x1) fun x37 =>
    some x37
  else
    some x18
noncomputable def P_semigroupref03_Merge (p_ : List Int) (i : Int) (j : Int) : Option ((List Int)) :=
  Option.bind (gi p_ i) fun x1 =>
  Option.bind (gi p_ j) fun x8 =>
  Option.bind (forS p_.length (fun k x => P_semigroupref03_Merge_l17 x1 x8 k x) p_) fun z23 =>
  some z23
theorem R_semigroupref03_Merge {G : List Frag} {W H : AH} {v_0 : AV} {g_0 : Frag} {p_ : List Int} {i : Int} {j : Int} (hst : St (g_0 :: G) W H) (o_0 : OwS W v_0 g_0 p_) {r : (List Int)} (hp : P_semigroupref03_Merge p_ i j = some r) :
    wpc E0 N_semigroupref03_Merge [v_0, .int .i64 i, .int .i64 j] H fun rv H' => ∃ W', Wle W W' ∧ ∃ (gi0 : Frag), St (gi0 :: G) W' H' ∧ rv = .tup [] ∧ OwS W' v_0 gi0 r := by
  refine enterN (F := f_semigroupref03_Merge) rfl (Nat.le_of_ble_eq_true rfl) fun s hl hg => ?_
  replace hl : s.length = 33 := hl
  have g0 : gt s 0 = v_0 := hg 0 (Nat.le_of_ble_eq_true rfl)
  have g1 : gt s 1 = .int .i64 i := hg 1 (Nat.le_of_ble_eq_true rfl)
  have g2 : gt s 2 = .int .i64 j := hg 2 (Nat.le_of_ble_eq_true rfl)
  clear hg
  unfold P_semigroupref03_Merge at hp
  show wp E0 c_semigroupref03_Merge s H _
  unfold c_semigroupref03_Merge
  refine AM.wp_seq hp0 ?_
  refine AM.wp_reg hp0 ?_
  obtain ⟨x1, e2, hp⟩ := bn hp
  obtain ⟨p3, _, f5, f6, rfl⟩ := ow_at (k := .i64) hst (.head _) o_0 e2 rfl
  obtain ⟨x8, e9, hp⟩ := bn hp
  obtain ⟨p10, _, f12, f13, rfl⟩ := ow_at (k := .i64) hst (.head _) o_0 e9 rfl
  refine wpo_seg hp0 10 (fun s H' => s.length = 33 ∧ gt s 0 = v_0 ∧ gt s 6 = .int .i64 x1 ∧ gt s 7 = .int .i64 x8 ∧ H = H') (by simp (maxSteps := 1000000) only [↓runs, isCall, ↓reduceIte, ↓gd_true, ↓gd_false, evs, AV.cells, Nat.reduceEqDiff, Nat.reduceLT, reduceCtorEq, Nat.reduceAdd, sy, f5, f6, f12, f13, g0, g1, g2, hl]) ?_
  rintro s _ ⟨hl, g0, g6, g7, rfl⟩
  refine wpo_nil ?_
  refine then_n ?_
  refine AM.wp_seq hp0 ?_
  refine AM.wp_reg hp0 ?_
  have f15 := ow_ln o_0
  have b16 := ow_big o_0
  refine wpo_seg hp0 3 (fun s H' => s.length = 33 ∧ gt s 0 = v_0 ∧ gt s 6 = .int .i64 x1 ∧ gt s 7 = .int .i64 x8 ∧ gt s 18 = .int .i64 (p_.length : Int) ∧ gt s 19 = .int .i64 0 ∧ H = H') (by simp (maxSteps := 1000000) only [↓runs, isCall, ↓reduceIte, ↓gd_true, ↓gd_false, evs, AV.cells, Nat.reduceEqDiff, Nat.reduceLT, reduceCtorEq, Nat.reduceAdd, sy, f15, g0, g6, g7, hl]) ?_
  rintro s _ ⟨hl, g0, g6, g7, g18, g19, rfl⟩
  refine wpo_nil ?_
  refine then_n ?_
  obtain ⟨z23, e24, hp⟩ := bn hp
  refine rangeS_ref hp0 33 p_.length (fun k x => P_semigroupref03_Merge_l17 x1 x8 k x) (fun _ x s H' => ∃ (W' : AH) (qo1 : Frag), s.length = 33 ∧ gt s 0 = v_0 ∧ gt s 6 = .int .i64 x1 ∧ gt s 7 = .int .i64 x8 ∧  Wle W W' ∧ St (qo1 :: G) W' H' ∧ OwS W' v_0 qo1 (x : List Int)) e24 (b16) rfl ?_ ?_ hl g19 g18 ?_ ?_
  · intro k x s H d v hd h; rcases hd with rfl | rfl | rfl <;> simpa only [gt_other, pt_length, Nat.reduceEqDiff, not_false_eq_true] using h
  · exact ⟨W, _, hl, g0, g6, g7, .refl _, hst, o_0⟩
  · intro k19 x18 y20 s H hk hI hl g19 g18 hy21
    change P_semigroupref03_Merge_l17 x1 x8 k19 x18 = some y20 at hy21
    unfold P_semigroupref03_Merge_l17 at hy21
    obtain ⟨W, fg27, hl, g0, g6, g7, w26, hst, o28⟩ := hI
    refine AM.wp_seq hp0 ?_
    refine AM.wp_reg hp0 ?_
    refine wpo_seg hp0 2 (fun s H' => s.length = 33 ∧ gt s 0 = v_0 ∧ gt s 6 = .int .i64 x1 ∧ gt s 7 = .int .i64 x8 ∧ gt s 8 = .int .i64 (k19 : Int) ∧ gt s 18 = .int .i64 (p_.length : Int) ∧ gt s 19 = .int .i64 (k19 : Int) ∧ H = H') (by simp (maxSteps := 1000000) only [↓runs, isCall, ↓reduceIte, ↓gd_true, ↓gd_false, evs, AV.cells, Nat.reduceEqDiff, Nat.reduceLT, reduceCtorEq, Nat.reduceAdd, sy, g0, g6, g7, g18, g19, hl]) ?_
    rintro s _ ⟨hl, g0, g6, g7, g8, g18, g19, rfl⟩
    refine wpo_nil ?_
    refine then_n ?_
    refine AM.wp_seq hp0 ?_
    refine AM.wp_reg hp0 ?_
    obtain ⟨x29, e30, hy21⟩ := bn hy21
    obtain ⟨p31, _, f33, f34, rfl⟩ := ow_at (k := .i64) hst (.head _) o28 e30 rfl
    refine wpo_seg hp0 6 (fun s H' => s.length = 33 ∧ gt s 0 = v_0 ∧ gt s 6 = .int .i64 x1 ∧ gt s 7 = .int .i64 x8 ∧ gt s 8 = .int .i64 (k19 : Int) ∧ gt s 18 = .int .i64 (p_.length : Int) ∧ gt s 19 = .int .i64 (k19 : Int) ∧ gt s 27 = .bool (decide (x29 = x8)) ∧ H = H') (by simp (maxSteps := 1000000) only [↓runs, isCall, ↓reduceIte, ↓gd_true, ↓gd_false, evs, AV.cells, Nat.reduceEqDiff, Nat.reduceLT, reduceCtorEq, Nat.reduceAdd, sy, f33, f34, g0, g6, g7, g8, g18, g19, hl]) ?_
    rintro s _ ⟨hl, g0, g6, g7, g8, g18, g19, g27, rfl⟩
    refine wpo_nil ?_
    refine then_n ?_
    rcases Bool.eq_false_or_eq_true (decide (x29 = x8)) with c36 | c36
    · replace hy21 := ifT c36 hy21
      refine AM.wp_condT (by simp only [ev_t, ev_c, g27, c36]) ?_
      refine AM.wp_reg hp0 ?_
      obtain ⟨x37, e38, hy21⟩ := bn hy21
      obtain ⟨p39, H40, fg41, f42, f43, hst, o44⟩ := ow_set (k := .i64) 1 rfl hst o28 (show Rp.rv W (.int .i64 x1) (x1 : Int) from rfl) e38
      obtain rfl := Option.some.inj (f42.symm.trans f33)
      refine wpo_seg hp0 5 (fun s H' => s.length = 33 ∧ gt s 0 = v_0 ∧ gt s 6 = .int .i64 x1 ∧ gt s 7 = .int .i64 x8 ∧ gt s 18 = .int .i64 (p_.length : Int) ∧ gt s 19 = .int .i64 (k19 : Int) ∧ H40 = H') (by simp (maxSteps := 1000000) only [↓runs, isCall, ↓reduceIte, ↓gd_true, ↓gd_false, evs, AV.cells, Nat.reduceEqDiff, Nat.reduceLT, reduceCtorEq, Nat.reduceAdd, sy, f42, f43, g0, g6, g7, g8, g18, g19, g27, hl]) ?_
      rintro s _ ⟨hl, g0, g6, g7, g18, g19, rfl⟩
      refine wpo_nil ?_
      refine rnd_n ?_
      obtain rfl := Option.some.inj hy21
      exact ⟨hl, g19, g18, ⟨W, _, hl, g0, g6, g7, w26, hst, o44⟩⟩
    · replace hy21 := ifF c36 hy21
      refine AM.wp_condF (by simp only [ev_t, ev_c, g27, c36]) ?_
      refine AM.wp_skip ?_
      refine rnd_n ?_
      obtain rfl := Option.some.inj hy21
      exact ⟨hl, g19, g18, ⟨W, _, hl, g0, g6, g7, w26, hst, o28⟩⟩
  · rintro s H hI _
    obtain ⟨W, fg46, hl, g0, g6, g7, w45, hst, o47⟩ := hI
    obtain rfl := Option.some.inj hp
    refine body_norm (vs := []) (by simp only [rvs, f_semigroupref03_Merge, Option.map_some]) ?_
    exact ⟨W, w45, _, hst, rfl, o47⟩

end Go.Proofs.Ytmdpejgnkoneoaa.Pu
set_option maxRecDepth 100000
set_option maxHeartbeats 4000000
namespace Go.Proofs.Ytmdpejgnkoneoaa.Pu
open Go Go.AM Go.Proofs.Ytmdpejgnkoneoaa.Code

noncomputable def P_semigroupref03_FromPairs_l8 (pairs : List (Int × Int)) (k10 : Nat) (x9 : List Int) : Option ((List Int)) :=
  Option.bind (gi pairs (k10 : Int)) fun x20 =>
  Option.bind (P_semigroupref03_Merge x9 x20.1 x20.2) fun r38 =>
  some r38
noncomputable def P_semigroupref03_FromPairs (n : Int) (pairs : List (Int × Int)) : Option ((List Int)) :=
  Option.bind (P_semigroupref03_Discrete n) fun r1 =>
  Option.bind (forS pairs.length (fun k x => P_semigroupref03_FromPairs_l8 pairs k x) r1) fun z14 =>
  Option.bind (P_semigroupref03_Canonical z14) fun r49 =>
  some r49
theorem R_semigroupref03_FromPairs {G : List Frag} {W H : AH} {v_1 : AV} {n : Int} {pairs : List (Int × Int)} (hst : St G W H) (h_1 : Rp.rv W v_1 pairs) {r : (List Int)} (hp : P_semigroupref03_FromPairs n pairs = some r) :
    wpc E0 N_semigroupref03_FromPairs [.int .i64 n, v_1] H fun rv H' => ∃ W', Wle W W' ∧ ∃ (g0 : Frag), St (g0 :: G) W' H' ∧ OwS W' rv g0 (r : List Int) := by
  refine enterN (F := f_semigroupref03_FromPairs) rfl (Nat.le_of_ble_eq_true rfl) fun s hl hg => ?_
  replace hl : s.length = 25 := hl
  have g0 : gt s 0 = .int .i64 n := hg 0 (Nat.le_of_ble_eq_true rfl)
  have g1 : gt s 1 = v_1 := hg 1 (Nat.le_of_ble_eq_true rfl)
  clear hg
  unfold P_semigroupref03_FromPairs at hp
  show wp E0 c_semigroupref03_FromPairs s H _
  unfold c_semigroupref03_FromPairs
  refine AM.wp_seq hp0 ?_
  refine AM.wp_reg hp0 ?_
  refine wpo_seg hp0 1 (fun s H' => s.length = 25 ∧ gt s 0 = .int .i64 n ∧ gt s 1 = v_1 ∧ H = H') (by simp (maxSteps := 1000000) only [↓runs, isCall, ↓reduceIte, ↓gd_true, ↓gd_false, evs, AV.cells, Nat.reduceEqDiff, Nat.reduceLT, reduceCtorEq, Nat.reduceAdd, sy, g0, g1, hl]) ?_
  rintro s _ ⟨hl, g0, g1, rfl⟩
  refine wpo_nil ?_
  refine then_n ?_
  refine AM.wp_seq hp0 ?_
  refine AM.wp_reg hp0 ?_
  refine wpo_seg hp0 1 (fun s H' => s.length = 25 ∧ gt s 1 = v_1 ∧ gt s 8 = .int .i64 n ∧ H = H') (by simp (maxSteps := 1000000) only [↓runs, isCall, ↓reduceIte, ↓gd_true, ↓gd_false, evs, AV.cells, Nat.reduceEqDiff, Nat.reduceLT, reduceCtorEq, Nat.reduceAdd, sy, g0, g1, hl]) ?_
  rintro s _ ⟨hl, g1, g8, rfl⟩
  obtain ⟨r1, e2, hp⟩ := bn hp
  refine wpo_callK hp0 rfl (ys := [.int .i64 n]) (by simp only [evs, List.map_cons, List.map_nil, ev_t, ev_c, g8]) (R_semigroupref03_Discrete hst e2) ?_
  rintro rv3 H ⟨W, w4, fg5, hst, o6⟩
  replace h_1 := Rp.mono w4 h_1
  refine wpo_seg hp0 1 (fun s H' => s.length = 25 ∧ gt s 1 = v_1 ∧ gt s 5 = rv3 ∧ H = H') (by simp (maxSteps := 1000000) only [↓runs, isCall, ↓reduceIte, ↓gd_true, ↓gd_false, evs, AV.cells, Nat.reduceEqDiff, Nat.reduceLT, reduceCtorEq, Nat.reduceAdd, sy, gt_other, g1, g8, hl]) ?_
  rintro s _ ⟨hl, g1, g5, rfl⟩
  refine wpo_nil ?_
  refine then_n ?_
  refine AM.wp_seq hp0 ?_
  refine AM.wp_seq hp0 ?_
  refine AM.wp_reg hp0 ?_
  have f7 := fz_ln h_1
  refine wpo_seg hp0 3 (fun s H' => s.length = 25 ∧ gt s 5 = rv3 ∧ gt s 10 = v_1 ∧ gt s 11 = .int .i64 (pairs.length : Int) ∧ gt s 12 = .int .i64 0 ∧ H = H') (by simp (maxSteps := 1000000) only [↓runs, isCall, ↓reduceIte, ↓gd_true, ↓gd_false, evs, AV.cells, Nat.reduceEqDiff, Nat.reduceLT, reduceCtorEq, Nat.reduceAdd, sy, f7, g1, g5, hl]) ?_
  rintro s _ ⟨hl, g5, g10, g11, g12, rfl⟩
  refine wpo_nil ?_
  refine then_n ?_
  obtain ⟨z14, e15, hp⟩ := bn hp
  refine rangeS_ref hp0 25 pairs.length (fun k x => P_semigroupref03_FromPairs_l8 pairs k x) (fun _ x s H' => ∃ (W' : AH) (qo1 : Frag), s.length = 25 ∧ gt s 5 = rv3 ∧ gt s 10 = v_1 ∧  Wle W W' ∧ St (qo1 :: G) W' H' ∧ OwS W' rv3 qo1 (x : List Int)) e15 (fz_big h_1) rfl ?_ ?_ hl g12 g11 ?_ ?_
  · intro k x s H d v hd h; rcases hd with rfl | rfl | rfl <;> simpa only [gt_other, pt_length, Nat.reduceEqDiff, not_false_eq_true] using h
  · exact ⟨W, _, hl, g5, g10, .refl _, hst, o6⟩
  · intro k10 x9 y11 s H hk hI hl g12 g11 hy12
    change P_semigroupref03_FromPairs_l8 pairs k10 x9 = some y11 at hy12
    unfold P_semigroupref03_FromPairs_l8 at hy12
    obtain ⟨W, fg18, hl, g5, g10, w17, hst, o19⟩ := hI
    replace h_1 := Rp.mono w17 h_1
    refine AM.wp_seq hp0 ?_
    refine AM.wp_reg hp0 ?_
    obtain ⟨x20, e21, hy12⟩ := bn hy12
    obtain ⟨p22, y23, f24, f25, h26⟩ := fz_atA (k := .i64) 2 rfl hst h_1 e21 rfl
    obtain rfl := pr_ii h26
    obtain ⟨p27, H28, W, f30, f31, w29, hst⟩ := bx_new' hst [.int .i64 0, .int .i64 0]
    replace h_1 := Rp.mono w29 h_1
    replace o19 := o19.mono w29
    obtain ⟨H32, f33, hst⟩ := bx_st (y := .agg [.int .i64 x20.1, .int .i64 x20.2]) (n := 2) hst rfl rfl rfl
    simp only [AV.cells] at hst
    refine wpo_seg hp0 4 (fun s H' => s.length = 25 ∧ gt s 5 = rv3 ∧ gt s 7 = .ptr p27 0 ∧ gt s 10 = v_1 ∧ gt s 11 = .int .i64 (pairs.length : Int) ∧ gt s 12 = .int .i64 (k10 : Int) ∧ H32 = H') (by simp (maxSteps := 1000000) only [↓runs, isCall, ↓reduceIte, ↓gd_true, ↓gd_false, evs, AV.cells, Nat.reduceEqDiff, Nat.reduceLT, reduceCtorEq, Nat.reduceAdd, sy, f24, f25, f30, f31, f33, g5, g10, g11, g12, hl]) ?_
    rintro s _ ⟨hl, g5, g7, g10, g11, g12, rfl⟩
    refine wpo_nil ?_
    refine then_n ?_
    refine AM.wp_reg hp0 ?_
    have f34 : iaA 2 1 (.ptr p27 0) (.int .i64 0) = some (.ptr p27 0) := by simp [iaA]
    have f35 := bx_ld (i := 0) hst (.head _) rfl
    have f36 : iaA 2 1 (.ptr p27 0) (.int .i64 1) = some (.ptr p27 1) := by simp [iaA]
    have f37 := bx_ld (i := 1) hst (.head _) rfl
    refine wpo_seg hp0 5 (fun s H' => s.length = 25 ∧ gt s 5 = rv3 ∧ gt s 10 = v_1 ∧ gt s 11 = .int .i64 (pairs.length : Int) ∧ gt s 12 = .int .i64 (k10 : Int) ∧ gt s 16 = rv3 ∧ gt s 18 = .int .i64 x20.1 ∧ gt s 20 = .int .i64 x20.2 ∧ H32 = H') (by simp (maxSteps := 1000000) only [↓runs, isCall, ↓reduceIte, ↓gd_true, ↓gd_false, evs, AV.cells, Nat.reduceEqDiff, Nat.reduceLT, reduceCtorEq, Nat.reduceAdd, sy, f34, f35, f36, f37, g5, g7, g10, g11, g12, hl]) ?_
    rintro s _ ⟨hl, g5, g10, g11, g12, g16, g18, g20, rfl⟩
    obtain ⟨r38, e39, hy12⟩ := bn hy12
    replace hst := hst.p1
    refine wpo_callK hp0 rfl (ys := [rv3, .int .i64 x20.1, .int .i64 x20.2]) (by simp only [evs, List.map_cons, List.map_nil, ev_t, ev_c, g16, g18, g20]) (R_semigroupref03_Merge hst o19 e39) ?_
    rintro rv40 H ⟨W, w41, fg42, hst, rfl, o43⟩
    replace h_1 := Rp.mono w41 h_1
    refine wpo_seg hp0 0 (fun s H' => s.length = 25 ∧ gt s 5 = rv3 ∧ gt s 10 = v_1 ∧ gt s 11 = .int .i64 (pairs.length : Int) ∧ gt s 12 = .int .i64 (k10 : Int) ∧ H = H') (by simp (maxSteps := 1000000) only [↓runs, isCall, ↓reduceIte, ↓gd_true, ↓gd_false, evs, AV.cells, Nat.reduceEqDiff, Nat.reduceLT, reduceCtorEq, Nat.reduceAdd, sy, gt_other, g5, g10, g11, g12, g16, g18, g20, hl]) ?_
    rintro s _ ⟨hl, g5, g10, g11, g12, rfl⟩
    refine wpo_nil ?_
    refine rnd_n ?_
    obtain rfl := Option.some.inj hy12
    replace hst := hst.p1
    replace hst := hst.drop
    exact ⟨hl, g12, g11, ⟨W, _, hl, g5, g10, ((w17.trans w29).trans w41), hst, o43⟩⟩
  · rintro s H hI _
    obtain ⟨W, fg45, hl, g5, g10, w44, hst, o46⟩ := hI
    replace h_1 := Rp.mono w44 h_1
    refine then_n ?_
    refine AM.wp_seq hp0 ?_
    refine AM.wp_reg hp0 ?_
    refine wpo_seg hp0 1 (fun s H' => s.length = 25 ∧ gt s 23 = rv3 ∧ H = H') (by simp (maxSteps := 1000000) only [↓runs, isCall, ↓reduceIte, ↓gd_true, ↓gd_false, evs, AV.cells, Nat.reduceEqDiff, Nat.reduceLT, reduceCtorEq, Nat.reduceAdd, sy, g5, g10, hl]) ?_
    rintro s _ ⟨hl, g23, rfl⟩
    obtain ⟨W, w48, hst, h47⟩ := ow_frz hst o46
    obtain ⟨r49, e50, hp⟩ := bn hp
    refine wpo_callK hp0 rfl (ys := [rv3]) (by simp only [evs, List.map_cons, List.map_nil, ev_t, ev_c, g23]) (R_semigroupref03_Canonical hst h47 e50) ?_
    rintro rv51 H ⟨W, w52, fg53, hst, o54⟩
    replace h47 := Rp.mono w52 h47
    refine wpo_seg hp0 1 (fun s H' => s.length = 25 ∧ gt s 4 = rv51 ∧ H = H') (by simp (maxSteps := 1000000) only [↓runs, isCall, ↓reduceIte, ↓gd_true, ↓gd_false, evs, AV.cells, Nat.reduceEqDiff, Nat.reduceLT, reduceCtorEq, Nat.reduceAdd, sy, gt_other, g23, hl]) ?_
    rintro s _ ⟨hl, g4, rfl⟩
    refine wpo_nil ?_
    refine then_n ?_
    refine AM.wp_ret ?_
    obtain rfl := Option.some.inj hp
    refine body_ret (vs := [rv51]) (by simp only [rvs, f_semigroupref03_FromPairs, Option.map_some, g4]) ?_
    exact ⟨W, (((w4.trans w44).trans w48).trans w52), _, hst, o54⟩

end Go.Proofs.Ytmdpejgnkoneoaa.Pu
