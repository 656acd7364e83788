/- Part 7 of the proof that the law SubdirectEmbeds holds: words and lemmas it rests on. No condition. -/
import Derived.Test.YtmdpejgnkoneoaaE5
import Derived.Test.YtmdpejgnkoneoaaE6
set_option linter.unusedSimpArgs false
set_option linter.unusedVariables false
set_option linter.unnecessarySimpa false
set_option linter.unusedSectionVars false
set_option maxRecDepth 100000
set_option maxHeartbeats 4000000
namespace Go.Proofs.Ytmdpejgnkoneoaa.Pu
open Go Go.AM Go.Proofs.Ytmdpejgnkoneoaa.Code

noncomputable def P_congr_forest_join_l96 (side : Int) (t : List (List Int)) (x22 : Int × Int) (k98 : Nat) (x97 : List (Int × Int)) : Option ((List (Int × Int))) :=
 if !decide (side = 2) then
  Option.bind (gi t (k98 : Int)) fun x110 =>
  Option.bind (gi x110 x22.1) fun x119 =>
  Option.bind (gi x110 x22.2) fun x128 =>
  Option.bind (pus 16 x97 [(x119, x128)]) fun x147 =>
  if !decide (side = 1) then
   Option.bind (gi t x22.1) fun x158 =>
   Option.bind (gi x158 (k98 : Int)) fun x165 =>
   Option.bind (gi t x22.2) fun x174 =>
   Option.bind (gi x174 (k98 : Int)) fun x181 =>
   Option.bind (pus 16 x147 [(x165, x181)]) fun x200 =>
   some x200
  else
   some x147
 else
  if !decide (side = 1) then
   Option.bind (gi t x22.1) fun x211 =>
   Option.bind (gi x211 (k98 : Int)) fun x218 =>
   Option.bind (gi t x22.2) fun x227 =>
   Option.bind (gi x227 (k98 : Int)) fun x234 =>
   Option.bind (pus 16 x97 [(x218, x234)]) fun x253 =>
   some x253
  else
   some x97
noncomputable def P_congr_forest_join_l1 (side : Int) (t : List (List Int)) (work9 : List (Int × Int)) (x10 : List Int) : Option (Lp ((List (Int × Int)) × (List Int)) (Empty)) :=
 if decide (0 < (work9.length : Int)) then
  Option.bind (gi work9 (w64 ((work9.length : Int) - 1))) fun x22 =>
  Option.bind (sub work9 none (some (w64 ((work9.length : Int) - 1)))) fun x38 =>
  Option.bind (P_congr_forest_findF x10 x22.1) fun r45 =>
  Option.bind (P_congr_forest_findF x10 x22.2) fun r53 =>
  if decide (r45 = r53) then
   some (.go (x38, x10))
  else
   Option.bind (fset x10 r45 r53) fun x87 =>
   Option.bind (forS t.length (fun k x => P_congr_forest_join_l96 side t x22 k x) x38) fun z102 =>
   some (.go (z102, x87))
 else
  some (.br (work9, x10))
noncomputable def P_congr_forest_join (f : List Int) (t : List (List Int)) (side : Int) (work : List (Int × Int)) : Option ((List Int)) :=
 Option.bind (loopO (fun x => P_congr_forest_join_l1 side t x.1 x.2) (work, f)) fun z7 =>
 match z7 with
 | .inl x265 =>
  some x265.2
 | .inr b => b.elim
theorem R_congr_forest_join {G : List Frag} {W H : AH} {v_0 v_1 v_3 : AV} {g_0 g_3 : Frag} {f : List Int} {t : List (List Int)} {side : Int} {work : List (Int × Int)} (hst : St (g_0 :: g_3 :: G) W H) (o_0 : OwF W v_0 g_0 f) (h_1 : Rp.rv W v_1 t) (o_3 : OwS W v_3 g_3 work) {r : (List Int)} (hp : P_congr_forest_join f t side work = some r) :
  wpc E0 N_congr_forest_join [v_0, v_1, .int .i64 side, v_3] H fun rv H' => ∃ W', Wle W W' ∧ ∃ (gi0 : Frag), St (gi0 :: G) W' H' ∧ rv = .tup [] ∧ OwF W' v_0 gi0 r := by
 refine enterN (F := f_congr_forest_join) rfl (Nat.le_of_ble_eq_true rfl) fun s hl hg => ?_;replace hl : s.length = 91 := hl;have g0 : gt s 0 = v_0 := hg 0 (Nat.le_of_ble_eq_true rfl);have g1 : gt s 1 = v_1 := hg 1 (Nat.le_of_ble_eq_true rfl);have g2 : gt s 2 = .int .i64 side := hg 2 (Nat.le_of_ble_eq_true rfl);have g3 : gt s 3 = v_3 := hg 3 (Nat.le_of_ble_eq_true rfl);clear hg;unfold P_congr_forest_join at hp;show wp E0 c_congr_forest_join s H _;unfold c_congr_forest_join;obtain ⟨z7, e8, hp⟩ := bn hp;refine loop_ref hp0 (fun x => P_congr_forest_join_l1 side t x.1 x.2) (fun x s H' => ∃ (W' : AH) (w3 : AV) (q3 : Frag) (qo1 : Frag), s.length = 91 ∧ gt s 3 = w3 ∧ gt s 0 = v_0 ∧ gt s 1 = v_1 ∧ gt s 2 = .int .i64 side ∧  Wle W W' ∧ St (q3 :: qo1 :: G) W' H' ∧ OwS W' w3 q3 (x.1 : List (Int × Int)) ∧ OwF W' v_0 qo1 (x.2 : List Int)) (fun x s H' => ∃ (W' : AH) (qo1 : Frag), s.length = 91 ∧  Wle W W' ∧ St (qo1 :: G) W' H' ∧ OwF W' v_0 qo1 (x.2 : List Int)) e8 ?_ ?_ ?_
 ·replace hst := hst.p1;exact ⟨W, _, _, _, hl, g3, g0, g1, g2, .refl _, hst, o_3, o_0⟩
 ·intro x2 y4 s H hI hy5 hx6;obtain ⟨work9, x10⟩ := x2;dsimp only at hI;change P_congr_forest_join_l1 side t work9 x10 = some y4 at hy5;unfold P_congr_forest_join_l1 at hy5;obtain ⟨W, v12, fg13, fg15, hl, g3, g0, g1, g2, w11, hst, o14, o16⟩ := hI;replace h_1 := Rp.mono w11 h_1;refine AM.wp_seq hp0 (AM.wp_seq hp0 (AM.wp_reg hp0 ?_));have f17 := ow_ln o14;have b18 := ow_big o14;refine wpo_seg hp0 3 (fun s H' => s.length = 91 ∧ gt s 0 = v_0 ∧ gt s 1 = v_1 ∧ gt s 2 = .int .i64 side ∧ gt s 3 = v12 ∧ gt s 14 = .bool (decide (0 < (work9.length : Int))) ∧ H = H') (by simp only [↓runs, isCall, ↓reduceIte, ↓gd_true, ↓gd_false, evs, AV.cells, Nat.reduceEqDiff, Nat.reduceLT, reduceCtorEq, Nat.reduceAdd, sy, f17, g0, g1, g2, g3, hl]) ?_;rintro s _ ⟨hl, g0, g1, g2, g3, g14, rfl⟩;refine wpo_nil (then_n ?_);rcases Bool.eq_false_or_eq_true (decide (0 < (work9.length : Int))) with c19 | c19
  ·replace hy5 := ifT c19 hy5;refine AM.wp_condT (by simp only [ev_t, ev_c, g14, c19]) ?_;refine AM.wp_skip ?_;refine then_n ?_;refine AM.wp_block ?_;refine AM.wp_seq hp0 (AM.wp_reg hp0 ?_);have f20 := ow_ln o14;have b21 := ow_big o14;obtain ⟨x22, e23, hy5⟩ := bn hy5;obtain ⟨p24, y25, f26, f27, h28⟩ := ow_atA (k := .i64) 2 rfl hst (.head _) o14 e23 rfl;obtain rfl := pr_ii h28;obtain ⟨p29, H30, W, f32, f33, w31, hst⟩ := bx_new' hst [.int .i64 0, .int .i64 0];replace h_1 := Rp.mono w31 h_1;replace o16 := o16.mono w31;replace o14 := o14.mono w31;obtain ⟨H34, f35, hst⟩ := bx_st (y := .agg [.int .i64 x22.1, .int .i64 x22.2]) (n := 2) hst rfl rfl rfl;simp only [AV.cells] at hst;refine wpo_seg hp0 8 (fun s H' => s.length = 91 ∧ gt s 0 = v_0 ∧ gt s 1 = v_1 ∧ gt s 2 = .int .i64 side ∧ gt s 3 = v12 ∧ gt s 8 = .ptr p29 0 ∧ H34 = H') (by simp only [↓runs, isCall, ↓reduceIte, ↓gd_true, ↓gd_false, evs, AV.cells, Nat.reduceEqDiff, Nat.reduceLT, reduceCtorEq, Nat.reduceAdd, sy, f20, f26, f27, f32, f33, f35, g0, g1, g2, g3, g14, hl]) ?_;rintro s _ ⟨hl, g0, g1, g2, g3, g8, rfl⟩;refine wpo_nil (then_n ?_);refine AM.wp_seq hp0 (AM.wp_reg hp0 ?_);have f36 := ow_ln o14;have b37 := ow_big o14;obtain ⟨x38, e39, hy5⟩ := bn hy5;obtain ⟨v40, f41, o42⟩ := ow_cut (n := 2) (kk := .i64) rfl o14 e39;refine wpo_seg hp0 6 (fun s H' => s.length = 91 ∧ gt s 0 = v_0 ∧ gt s 1 = v_1 ∧ gt s 2 = .int .i64 side ∧ gt s 3 = v40 ∧ gt s 8 = .ptr p29 0 ∧ H34 = H') (by simp only [↓runs, isCall, ↓reduceIte, ↓gd_true, ↓gd_false, evs, AV.cells, Nat.reduceEqDiff, Nat.reduceLT, reduceCtorEq, Nat.reduceAdd, sy, f36, f41, g0, g1, g2, g3, g8, hl]) ?_;rintro s _ ⟨hl, g0, g1, g2, g3, g8, rfl⟩;refine wpo_nil (then_n ?_);refine AM.wp_seq hp0 ?_;obtain ⟨r45, e46, hy5⟩ := bn hy5;obtain ⟨r53, e54, hy5⟩ := bn hy5;refine AM.wp_regsK hp0 (fun s H' => ∃ (W' : AH) (qo1 : Frag), s.length = 91 ∧ gt s 9 = .int .i64 r45 ∧ gt s 10 = .int .i64 r53 ∧ gt s 0 = v_0 ∧ gt s 1 = v_1 ∧ gt s 2 = .int .i64 side ∧ gt s 3 = v40 ∧ gt s 8 = .ptr p29 0 ∧  Wle W W' ∧ St ([(p29, .row [.int .i64 x22.1, .int .i64 x22.2] true)] :: fg13 :: qo1 :: G) W' H' ∧ OwF W' v_0 qo1 (x10 : List Int)) (by simp) ?_ ?_
   ·intro l hl'; simp only [List.mem_cons, List.not_mem_nil, or_false] at hl';rcases hl' with rfl | rfl
    ·have f59 : iaA 2 1 (.ptr p29 0) (.int .i64 0) = some (.ptr p29 0) := by simp [iaA]
     have f60 := bx_ld (i := 0) hst (.head _) rfl;refine wpo_seg hp0 3 (fun s H' => s.length = 91 ∧ gt s 0 = v_0 ∧ gt s 1 = v_1 ∧ gt s 2 = .int .i64 side ∧ gt s 3 = v40 ∧ gt s 8 = .ptr p29 0 ∧ gt s 26 = v_0 ∧ gt s 28 = .int .i64 x22.1 ∧ H34 = H') (by simp only [↓runs, isCall, ↓reduceIte, ↓gd_true, ↓gd_false, evs, AV.cells, Nat.reduceEqDiff, Nat.reduceLT, reduceCtorEq, Nat.reduceAdd, sy, f59, f60, g0, g1, g2, g3, g8, hl]) ?_;rintro s _ ⟨hl, g0, g1, g2, g3, g8, g26, g28, rfl⟩;replace hst := hst.p2;refine wpo_callK hp0 rfl (ys := [v_0, .int .i64 x22.1]) (by simp only [evs, List.map_cons, List.map_nil, ev_t, ev_c, g26, g28]) (R_congr_forest_findF hst o16 e46) ?_;rintro rv61 H ⟨W, w62, fg63, hst, rfl, o64⟩;replace h_1 := Rp.mono w62 h_1;replace o42 := o42.mono w62;have f65 : iaA 2 1 (.ptr p29 0) (.int .i64 1) = some (.ptr p29 1) := by simp [iaA]
     have f66 := bx_ld (i := 1) hst (.tail _ (.head _)) rfl;refine wpo_seg hp0 3 (fun s H' => s.length = 91 ∧ gt s 0 = v_0 ∧ gt s 1 = v_1 ∧ gt s 2 = .int .i64 side ∧ gt s 3 = v40 ∧ gt s 8 = .ptr p29 0 ∧ gt s 29 = .int .i64 r45 ∧ gt s 30 = v_0 ∧ gt s 32 = .int .i64 x22.2 ∧ H = H') (by simp only [↓runs, isCall, ↓reduceIte, ↓gd_true, ↓gd_false, evs, AV.cells, Nat.reduceEqDiff, Nat.reduceLT, reduceCtorEq, Nat.reduceAdd, sy, gt_other, f65, f66, g0, g1, g2, g3, g8, g26, g28, hl]) ?_;rintro s _ ⟨hl, g0, g1, g2, g3, g8, g29, g30, g32, rfl⟩;refine wpo_callK hp0 rfl (ys := [v_0, .int .i64 x22.2]) (by simp only [evs, List.map_cons, List.map_nil, ev_t, ev_c, g30, g32]) (R_congr_forest_findF hst o64 e54) ?_;rintro rv67 H ⟨W, w68, fg69, hst, rfl, o70⟩;replace h_1 := Rp.mono w68 h_1;replace o42 := o42.mono w68;refine wpo_seg hp0 2 (fun s H' => s.length = 91 ∧ gt s 0 = v_0 ∧ gt s 1 = v_1 ∧ gt s 2 = .int .i64 side ∧ gt s 3 = v40 ∧ gt s 8 = .ptr p29 0 ∧ gt s 9 = .int .i64 r45 ∧ gt s 10 = .int .i64 r53 ∧ H = H') (by simp only [↓runs, isCall, ↓reduceIte, ↓gd_true, ↓gd_false, evs, AV.cells, Nat.reduceEqDiff, Nat.reduceLT, reduceCtorEq, Nat.reduceAdd, sy, gt_other, g0, g1, g2, g3, g8, g29, g30, g32, hl]) ?_;rintro s _ ⟨hl, g0, g1, g2, g3, g8, g9, g10, rfl⟩;refine wpo_nil ?_;replace hst := hst.p2;replace hst := hst.p2;exact ⟨W, _, hl, g9, g10, g0, g1, g2, g3, g8, (w62.trans w68), hst, o70⟩
    ·have f71 : iaA 2 1 (.ptr p29 0) (.int .i64 0) = some (.ptr p29 0) := by simp [iaA]
     have f72 := bx_ld (i := 0) hst (.head _) rfl;have f73 : iaA 2 1 (.ptr p29 0) (.int .i64 1) = some (.ptr p29 1) := by simp [iaA]
     have f74 := bx_ld (i := 1) hst (.head _) rfl;refine wpo_seg hp0 6 (fun s H' => s.length = 91 ∧ gt s 0 = v_0 ∧ gt s 1 = v_1 ∧ gt s 2 = .int .i64 side ∧ gt s 3 = v40 ∧ gt s 8 = .ptr p29 0 ∧ gt s 26 = v_0 ∧ gt s 28 = .int .i64 x22.1 ∧ gt s 30 = v_0 ∧ gt s 32 = .int .i64 x22.2 ∧ H34 = H') (by simp only [↓runs, isCall, ↓reduceIte, ↓gd_true, ↓gd_false, evs, AV.cells, Nat.reduceEqDiff, Nat.reduceLT, reduceCtorEq, Nat.reduceAdd, sy, f71, f72, f73, f74, g0, g1, g2, g3, g8, hl]) ?_;rintro s _ ⟨hl, g0, g1, g2, g3, g8, g26, g28, g30, g32, rfl⟩;replace hst := hst.p2;refine wpo_callK hp0 rfl (ys := [v_0, .int .i64 x22.1]) (by simp only [evs, List.map_cons, List.map_nil, ev_t, ev_c, g26, g28]) (R_congr_forest_findF hst o16 e46) ?_;rintro rv75 H ⟨W, w76, fg77, hst, rfl, o78⟩;replace h_1 := Rp.mono w76 h_1;replace o42 := o42.mono w76;refine wpo_seg hp0 0 (fun s H' => s.length = 91 ∧ gt s 0 = v_0 ∧ gt s 1 = v_1 ∧ gt s 2 = .int .i64 side ∧ gt s 3 = v40 ∧ gt s 8 = .ptr p29 0 ∧ gt s 29 = .int .i64 r45 ∧ gt s 30 = v_0 ∧ gt s 32 = .int .i64 x22.2 ∧ H = H') (by simp only [↓runs, isCall, ↓reduceIte, ↓gd_true, ↓gd_false, evs, AV.cells, Nat.reduceEqDiff, Nat.reduceLT, reduceCtorEq, Nat.reduceAdd, sy, gt_other, g0, g1, g2, g3, g8, g26, g28, g30, g32, hl]) ?_;rintro s _ ⟨hl, g0, g1, g2, g3, g8, g29, g30, g32, rfl⟩;refine wpo_callK hp0 rfl (ys := [v_0, .int .i64 x22.2]) (by simp only [evs, List.map_cons, List.map_nil, ev_t, ev_c, g30, g32]) (R_congr_forest_findF hst o78 e54) ?_;rintro rv79 H ⟨W, w80, fg81, hst, rfl, o82⟩;replace h_1 := Rp.mono w80 h_1;replace o42 := o42.mono w80;refine wpo_seg hp0 2 (fun s H' => s.length = 91 ∧ gt s 0 = v_0 ∧ gt s 1 = v_1 ∧ gt s 2 = .int .i64 side ∧ gt s 3 = v40 ∧ gt s 8 = .ptr p29 0 ∧ gt s 9 = .int .i64 r45 ∧ gt s 10 = .int .i64 r53 ∧ H = H') (by simp only [↓runs, isCall, ↓reduceIte, ↓gd_true, ↓gd_false, evs, AV.cells, Nat.reduceEqDiff, Nat.reduceLT, reduceCtorEq, Nat.reduceAdd, sy, gt_other, g0, g1, g2, g3, g8, g29, g30, g32, hl]) ?_;rintro s _ ⟨hl, g0, g1, g2, g3, g8, g9, g10, rfl⟩;refine wpo_nil ?_;replace hst := hst.p2;replace hst := hst.p2;exact ⟨W, _, hl, g9, g10, g0, g1, g2, g3, g8, (w76.trans w80), hst, o82⟩
   ·rintro s H ⟨W, fg84, hl, g9, g10, g0, g1, g2, g3, g8, w83, hst, o85⟩;replace h_1 := Rp.mono w83 h_1;replace o42 := o42.mono w83;refine then_n ?_;refine AM.wp_seq hp0 (AM.wp_seq hp0 (AM.wp_reg hp0 ?_));refine wpo_seg hp0 3 (fun s H' => s.length = 91 ∧ gt s 0 = v_0 ∧ gt s 1 = v_1 ∧ gt s 2 = .int .i64 side ∧ gt s 3 = v40 ∧ gt s 8 = .ptr p29 0 ∧ gt s 9 = .int .i64 r45 ∧ gt s 10 = .int .i64 r53 ∧ gt s 36 = .bool (decide (r45 = r53)) ∧ H = H') (by simp only [↓runs, isCall, ↓reduceIte, ↓gd_true, ↓gd_false, evs, AV.cells, Nat.reduceEqDiff, Nat.reduceLT, reduceCtorEq, Nat.reduceAdd, sy, g0, g1, g2, g3, g8, g9, g10, hl]) ?_;rintro s _ ⟨hl, g0, g1, g2, g3, g8, g9, g10, g36, rfl⟩;refine wpo_nil (then_n ?_);rcases Bool.eq_false_or_eq_true (decide (r45 = r53)) with c86 | c86
    ·replace hy5 := ifT c86 hy5;refine AM.wp_condT (by simp only [ev_t, ev_c, g36, c86]) ?_;refine AM.wp_exit ?_;refine then_x ?_;refine blk_h rfl ?_;refine then_n ?_;obtain rfl := Option.some.inj hy5;replace hst := hst.drop;replace hst := hst.p1;replace hst := hst.p1;exact ⟨_, rfl, ⟨W, _, _, _, hl, g3, g0, g1, g2, ((w11.trans w31).trans w83), hst, o42, o85⟩⟩
    ·replace hy5 := ifF c86 hy5;refine AM.wp_condF (by simp only [ev_t, ev_c, g36, c86]) ?_;refine AM.wp_skip ?_;refine then_n ?_;refine AM.wp_seq hp0 (AM.wp_reg hp0 ?_);obtain ⟨x87, e88, hy5⟩ := bn hy5;replace hst := hst.p2;obtain ⟨p89, H90, fg91, f92, f93, hst, o94⟩ := of_set (k := .i64) hst o85 e88;refine wpo_seg hp0 5 (fun s H' => s.length = 91 ∧ gt s 0 = v_0 ∧ gt s 1 = v_1 ∧ gt s 2 = .int .i64 side ∧ gt s 3 = v40 ∧ gt s 8 = .ptr p29 0 ∧ H90 = H') (by simp only [↓runs, isCall, ↓reduceIte, ↓gd_true, ↓gd_false, evs, AV.cells, Nat.reduceEqDiff, Nat.reduceLT, reduceCtorEq, Nat.reduceAdd, sy, f92, f93, g0, g1, g2, g3, g8, g9, g10, g36, hl]) ?_;rintro s _ ⟨hl, g0, g1, g2, g3, g8, rfl⟩;refine wpo_nil (then_n ?_);refine AM.wp_seq hp0 (AM.wp_reg hp0 ?_);have f95 := fz_ln h_1;refine wpo_seg hp0 3 (fun s H' => s.length = 91 ∧ gt s 0 = v_0 ∧ gt s 1 = v_1 ∧ gt s 2 = .int .i64 side ∧ gt s 3 = v40 ∧ gt s 8 = .ptr p29 0 ∧ gt s 42 = .int .i64 (t.length : Int) ∧ gt s 43 = .int .i64 0 ∧ H90 = H') (by simp only [↓runs, isCall, ↓reduceIte, ↓gd_true, ↓gd_false, evs, AV.cells, Nat.reduceEqDiff, Nat.reduceLT, reduceCtorEq, Nat.reduceAdd, sy, f95, g0, g1, g2, g3, g8, hl]) ?_;rintro s _ ⟨hl, g0, g1, g2, g3, g8, g42, g43, rfl⟩;refine wpo_nil (then_n ?_);obtain ⟨z102, e103, hy5⟩ := bn hy5;refine rangeS_ref hp0 91 t.length (fun k x => P_congr_forest_join_l96 side t x22 k x) (fun _ x s H' => ∃ (W' : AH) (w3 : AV) (q3 : Frag), s.length = 91 ∧ gt s 3 = w3 ∧ gt s 0 = v_0 ∧ gt s 1 = v_1 ∧ gt s 2 = .int .i64 side ∧ gt s 8 = .ptr p29 0 ∧  Wle W W' ∧ St (q3 :: fg91 :: [(p29, .row [.int .i64 x22.1, .int .i64 x22.2] true)] :: G) W' H' ∧ OwS W' w3 q3 (x : List (Int × Int))) e103 (fz_big h_1) rfl ?_ ?_ hl g43 g42 ?_ ?_
     ·intro k x s H d v hd h; rcases hd with rfl | rfl | rfl <;> simpa only [gt_other, pt_length, Nat.reduceEqDiff, not_false_eq_true] using h
     ·replace hst := hst.p1;replace hst := hst.p1;replace hst := hst.p2;exact ⟨W, _, _, hl, g3, g0, g1, g2, g8, .refl _, hst, o42⟩
     ·intro k98 x97 y99 s H hk hI hl g43 g42 hy100;change P_congr_forest_join_l96 side t x22 k98 x97 = some y99 at hy100;unfold P_congr_forest_join_l96 at hy100;obtain ⟨W, v106, fg107, hl, g3, g0, g1, g2, g8, w105, hst, o108⟩ := hI;replace h_1 := Rp.mono w105 h_1;replace o94 := o94.mono w105;refine AM.wp_seq hp0 (AM.wp_reg hp0 ?_);refine wpo_seg hp0 2 (fun s H' => s.length = 91 ∧ gt s 0 = v_0 ∧ gt s 1 = v_1 ∧ gt s 2 = .int .i64 side ∧ gt s 3 = v106 ∧ gt s 8 = .ptr p29 0 ∧ gt s 11 = .int .i64 (k98 : Int) ∧ gt s 42 = .int .i64 (t.length : Int) ∧ gt s 43 = .int .i64 (k98 : Int) ∧ H = H') (by simp only [↓runs, isCall, ↓reduceIte, ↓gd_true, ↓gd_false, evs, AV.cells, Nat.reduceEqDiff, Nat.reduceLT, reduceCtorEq, Nat.reduceAdd, sy, g0, g1, g2, g3, g8, g42, g43, hl]) ?_;rintro s _ ⟨hl, g0, g1, g2, g3, g8, g11, g42, g43, rfl⟩;refine wpo_nil (then_n ?_);refine AM.wp_seq hp0 (AM.wp_seq hp0 (AM.wp_reg hp0 ?_));refine wpo_seg hp0 2 (fun s H' => s.length = 91 ∧ gt s 0 = v_0 ∧ gt s 1 = v_1 ∧ gt s 2 = .int .i64 side ∧ gt s 3 = v106 ∧ gt s 8 = .ptr p29 0 ∧ gt s 11 = .int .i64 (k98 : Int) ∧ gt s 42 = .int .i64 (t.length : Int) ∧ gt s 43 = .int .i64 (k98 : Int) ∧ gt s 47 = .bool (!decide (side = 2)) ∧ H = H') (by simp only [↓runs, isCall, ↓reduceIte, ↓gd_true, ↓gd_false, evs, AV.cells, Nat.reduceEqDiff, Nat.reduceLT, reduceCtorEq, Nat.reduceAdd, sy, g0, g1, g2, g3, g8, g11, g42, g43, hl]) ?_;rintro s _ ⟨hl, g0, g1, g2, g3, g8, g11, g42, g43, g47, rfl⟩;refine wpo_nil (then_n ?_);rcases Bool.eq_false_or_eq_true (!decide (side = 2)) with c109 | c109
      ·replace hy100 := ifT c109 hy100;refine AM.wp_condT (by simp only [ev_t, ev_c, g47, c109]) ?_;refine AM.wp_reg hp0 ?_;obtain ⟨x110, e111, hy100⟩ := bn hy100;obtain ⟨p112, y113, f114, f115, h116⟩ := fz_at (k := .i64) hst h_1 e111 rfl;have f117 : iaA 2 1 (.ptr p29 0) (.int .i64 0) = some (.ptr p29 0) := by simp [iaA]
       have f118 := bx_ld (i := 0) hst (.tail _ (.tail _ (.head _))) rfl;obtain ⟨x119, e120, hy100⟩ := bn hy100;obtain ⟨p121, _, f123, f124, rfl⟩ := fz_at (k := .i64) hst h116 e120 rfl;have f126 : iaA 2 1 (.ptr p29 0) (.int .i64 1) = some (.ptr p29 1) := by simp [iaA]
       have f127 := bx_ld (i := 1) hst (.tail _ (.tail _ (.head _))) rfl;obtain ⟨x128, e129, hy100⟩ := bn hy100;obtain ⟨p130, _, f132, f133, rfl⟩ := fz_at (k := .i64) hst h116 e129 rfl;have f135 : fillA [.int .i64 0, .int .i64 0] [(0, 1, .int .i64 x119), (1, 1, .int .i64 x128)] = some [.int .i64 x119, .int .i64 x128] := by simp [fillA, splice, AV.cells]
       obtain ⟨v136, l137, H138, fg139, W, f141, f142, f143, w140, hst, o144⟩ := ow_lit' (n := 2) (k := 1) (z := [.int .i64 0, .int .i64 0]) (ys := [.agg [.int .i64 x119, .int .i64 x128]]) (M := ([(x119, x128)] : List (Int × Int))) [(0, 2, .agg [.int .i64 x119, .int .i64 x128])] rfl rfl hst (sc_cons (show Rp.rv _ (.agg [.int .i64 x119, .int .i64 x128]) ((x119, x128) : Int × Int) from (mk_ii _ _ _)) (sc_nil)) ((List.forall_mem_cons.2 ⟨(Rp.cells (show Rp.rv W (.agg [.int .i64 x119, .int .i64 x128]) ((x119, x128) : Int × Int) from (mk_ii _ _ _))), fun _ h => (List.not_mem_nil h).elim⟩)) rfl rfl rfl (by decide);replace h_1 := Rp.mono w140 h_1;replace h116 := Rp.mono w140 h116;replace o94 := o94.mono w140;replace o108 := o108.mono w140;obtain ⟨c145, sn146⟩ := ow_sn hst (.head _) o144;obtain ⟨x147, e148, hy100⟩ := bn hy100;replace hst := hst.p1;obtain ⟨v149, H150, fg151, W, f153, w152, hst, o154⟩ := ow_apps [.int .i64 0, .int .i64 0] rfl hst o108 sn146 e148;replace h_1 := Rp.mono w152 h_1;replace h116 := Rp.mono w152 h116;replace o94 := o94.mono w152;replace o144 := o144.mono w152;refine wpo_seg hp0 21 (fun s H' => s.length = 91 ∧ gt s 0 = v_0 ∧ gt s 1 = v_1 ∧ gt s 2 = .int .i64 side ∧ gt s 3 = v149 ∧ gt s 8 = .ptr p29 0 ∧ gt s 11 = .int .i64 (k98 : Int) ∧ gt s 42 = .int .i64 (t.length : Int) ∧ gt s 43 = .int .i64 (k98 : Int) ∧ H150 = H') (by simp (maxSteps := 1000000) only [↓runs, isCall, ↓reduceIte, ↓gd_true, ↓gd_false, evs, AV.cells, Nat.reduceEqDiff, Nat.reduceLT, reduceCtorEq, Nat.reduceAdd, sy, f114, f115, f117, f118, f123, f124, f126, f127, f132, f133, f135, f141, f142, f143, f153, g0, g1, g2, g3, g8, g11, g42, g43, g47, hl]) ?_;rintro s _ ⟨hl, g0, g1, g2, g3, g8, g11, g42, g43, rfl⟩;refine wpo_nil (then_n ?_);refine AM.wp_seq hp0 (AM.wp_reg hp0 ?_);refine wpo_seg hp0 2 (fun s H' => s.length = 91 ∧ gt s 0 = v_0 ∧ gt s 1 = v_1 ∧ gt s 2 = .int .i64 side ∧ gt s 3 = v149 ∧ gt s 8 = .ptr p29 0 ∧ gt s 11 = .int .i64 (k98 : Int) ∧ gt s 42 = .int .i64 (t.length : Int) ∧ gt s 43 = .int .i64 (k98 : Int) ∧ gt s 69 = .bool (!decide (side = 1)) ∧ H150 = H') (by simp only [↓runs, isCall, ↓reduceIte, ↓gd_true, ↓gd_false, evs, AV.cells, Nat.reduceEqDiff, Nat.reduceLT, reduceCtorEq, Nat.reduceAdd, sy, g0, g1, g2, g3, g8, g11, g42, g43, hl]) ?_;rintro s _ ⟨hl, g0, g1, g2, g3, g8, g11, g42, g43, g69, rfl⟩;refine wpo_nil (then_n ?_);rcases Bool.eq_false_or_eq_true (!decide (side = 1)) with c155 | c155
       ·replace hy100 := ifT c155 hy100;refine AM.wp_condT (by simp only [ev_t, ev_c, g69, c155]) ?_;refine AM.wp_reg hp0 ?_;have f156 : iaA 2 1 (.ptr p29 0) (.int .i64 0) = some (.ptr p29 0) := by simp [iaA]
        have f157 := bx_ld (i := 0) hst (.tail _ (.tail _ (.tail _ (.head _)))) rfl;obtain ⟨x158, e159, hy100⟩ := bn hy100;obtain ⟨p160, y161, f162, f163, h164⟩ := fz_at (k := .i64) hst h_1 e159 rfl;obtain ⟨x165, e166, hy100⟩ := bn hy100;obtain ⟨p167, _, f169, f170, rfl⟩ := fz_at (k := .i64) hst h164 e166 rfl;have f172 : iaA 2 1 (.ptr p29 0) (.int .i64 1) = some (.ptr p29 1) := by simp [iaA]
        have f173 := bx_ld (i := 1) hst (.tail _ (.tail _ (.tail _ (.head _)))) rfl;obtain ⟨x174, e175, hy100⟩ := bn hy100;obtain ⟨p176, y177, f178, f179, h180⟩ := fz_at (k := .i64) hst h_1 e175 rfl;obtain ⟨x181, e182, hy100⟩ := bn hy100;obtain ⟨p183, _, f185, f186, rfl⟩ := fz_at (k := .i64) hst h180 e182 rfl;have f188 : fillA [.int .i64 0, .int .i64 0] [(0, 1, .int .i64 x165), (1, 1, .int .i64 x181)] = some [.int .i64 x165, .int .i64 x181] := by simp [fillA, splice, AV.cells]
        obtain ⟨v189, l190, H191, fg192, W, f194, f195, f196, w193, hst, o197⟩ := ow_lit' (n := 2) (k := 1) (z := [.int .i64 0, .int .i64 0]) (ys := [.agg [.int .i64 x165, .int .i64 x181]]) (M := ([(x165, x181)] : List (Int × Int))) [(0, 2, .agg [.int .i64 x165, .int .i64 x181])] rfl rfl hst (sc_cons (show Rp.rv _ (.agg [.int .i64 x165, .int .i64 x181]) ((x165, x181) : Int × Int) from (mk_ii _ _ _)) (sc_nil)) ((List.forall_mem_cons.2 ⟨(Rp.cells (show Rp.rv W (.agg [.int .i64 x165, .int .i64 x181]) ((x165, x181) : Int × Int) from (mk_ii _ _ _))), fun _ h => (List.not_mem_nil h).elim⟩)) rfl rfl rfl (by decide);replace h_1 := Rp.mono w193 h_1;replace h116 := Rp.mono w193 h116;replace h164 := Rp.mono w193 h164;replace h180 := Rp.mono w193 h180;replace o94 := o94.mono w193;replace o154 := o154.mono w193;replace o144 := o144.mono w193;obtain ⟨c198, sn199⟩ := ow_sn hst (.head _) o197;obtain ⟨x200, e201, hy100⟩ := bn hy100;replace hst := hst.p1;obtain ⟨v202, H203, fg204, W, f206, w205, hst, o207⟩ := ow_apps [.int .i64 0, .int .i64 0] rfl hst o154 sn199 e201;replace h_1 := Rp.mono w205 h_1;replace h116 := Rp.mono w205 h116;replace h164 := Rp.mono w205 h164;replace h180 := Rp.mono w205 h180;replace o94 := o94.mono w205;replace o144 := o144.mono w205;replace o197 := o197.mono w205;refine wpo_seg hp0 21 (fun s H' => s.length = 91 ∧ gt s 0 = v_0 ∧ gt s 1 = v_1 ∧ gt s 2 = .int .i64 side ∧ gt s 3 = v202 ∧ gt s 8 = .ptr p29 0 ∧ gt s 42 = .int .i64 (t.length : Int) ∧ gt s 43 = .int .i64 (k98 : Int) ∧ H203 = H') (by simp (maxSteps := 1000000) only [↓runs, isCall, ↓reduceIte, ↓gd_true, ↓gd_false, evs, AV.cells, Nat.reduceEqDiff, Nat.reduceLT, reduceCtorEq, Nat.reduceAdd, sy, f156, f157, f162, f163, f169, f170, f172, f173, f178, f179, f185, f186, f188, f194, f195, f196, f206, g0, g1, g2, g3, g8, g11, g42, g43, g69, hl]) ?_;rintro s _ ⟨hl, g0, g1, g2, g3, g8, g42, g43, rfl⟩;refine wpo_nil ?_;refine rnd_n ?_;obtain rfl := Option.some.inj hy100;replace hst := hst.p1;replace hst := hst.drop;replace hst := hst.p1;replace hst := hst.drop;replace hst := hst.p2;replace hst := hst.p2;replace hst := hst.p2;exact ⟨hl, g43, g42, ⟨W, _, _, hl, g3, g0, g1, g2, g8, ((((w105.trans w140).trans w152).trans w193).trans w205), hst, o207⟩⟩
       ·replace hy100 := ifF c155 hy100;refine AM.wp_condF (by simp only [ev_t, ev_c, g69, c155]) ?_;refine AM.wp_skip ?_;refine rnd_n ?_;obtain rfl := Option.some.inj hy100;replace hst := hst.p1;replace hst := hst.drop;replace hst := hst.p2;replace hst := hst.p2;replace hst := hst.p2;exact ⟨hl, g43, g42, ⟨W, _, _, hl, g3, g0, g1, g2, g8, ((w105.trans w140).trans w152), hst, o154⟩⟩
      ·replace hy100 := ifF c109 hy100;refine AM.wp_condF (by simp only [ev_t, ev_c, g47, c109]) ?_;refine AM.wp_skip ?_;refine then_n ?_;refine AM.wp_seq hp0 (AM.wp_reg hp0 ?_);refine wpo_seg hp0 2 (fun s H' => s.length = 91 ∧ gt s 0 = v_0 ∧ gt s 1 = v_1 ∧ gt s 2 = .int .i64 side ∧ gt s 3 = v106 ∧ gt s 8 = .ptr p29 0 ∧ gt s 11 = .int .i64 (k98 : Int) ∧ gt s 42 = .int .i64 (t.length : Int) ∧ gt s 43 = .int .i64 (k98 : Int) ∧ gt s 69 = .bool (!decide (side = 1)) ∧ H = H') (by simp only [↓runs, isCall, ↓reduceIte, ↓gd_true, ↓gd_false, evs, AV.cells, Nat.reduceEqDiff, Nat.reduceLT, reduceCtorEq, Nat.reduceAdd, sy, g0, g1, g2, g3, g8, g11, g42, g43, g47, hl]) ?_;rintro s _ ⟨hl, g0, g1, g2, g3, g8, g11, g42, g43, g69, rfl⟩;refine wpo_nil (then_n ?_);rcases Bool.eq_false_or_eq_true (!decide (side = 1)) with c208 | c208
       ·replace hy100 := ifT c208 hy100;refine AM.wp_condT (by simp only [ev_t, ev_c, g69, c208]) ?_;refine AM.wp_reg hp0 ?_;have f209 : iaA 2 1 (.ptr p29 0) (.int .i64 0) = some (.ptr p29 0) := by simp [iaA]
        have f210 := bx_ld (i := 0) hst (.tail _ (.tail _ (.head _))) rfl;obtain ⟨x211, e212, hy100⟩ := bn hy100;obtain ⟨p213, y214, f215, f216, h217⟩ := fz_at (k := .i64) hst h_1 e212 rfl;obtain ⟨x218, e219, hy100⟩ := bn hy100;obtain ⟨p220, _, f222, f223, rfl⟩ := fz_at (k := .i64) hst h217 e219 rfl;have f225 : iaA 2 1 (.ptr p29 0) (.int .i64 1) = some (.ptr p29 1) := by simp [iaA]
        have f226 := bx_ld (i := 1) hst (.tail _ (.tail _ (.head _))) rfl;obtain ⟨x227, e228, hy100⟩ := bn hy100;obtain ⟨p229, y230, f231, f232, h233⟩ := fz_at (k := .i64) hst h_1 e228 rfl;obtain ⟨x234, e235, hy100⟩ := bn hy100;obtain ⟨p236, _, f238, f239, rfl⟩ := fz_at (k := .i64) hst h233 e235 rfl;have f241 : fillA [.int .i64 0, .int .i64 0] [(0, 1, .int .i64 x218), (1, 1, .int .i64 x234)] = some [.int .i64 x218, .int .i64 x234] := by simp [fillA, splice, AV.cells]
        obtain ⟨v242, l243, H244, fg245, W, f247, f248, f249, w246, hst, o250⟩ := ow_lit' (n := 2) (k := 1) (z := [.int .i64 0, .int .i64 0]) (ys := [.agg [.int .i64 x218, .int .i64 x234]]) (M := ([(x218, x234)] : List (Int × Int))) [(0, 2, .agg [.int .i64 x218, .int .i64 x234])] rfl rfl hst (sc_cons (show Rp.rv _ (.agg [.int .i64 x218, .int .i64 x234]) ((x218, x234) : Int × Int) from (mk_ii _ _ _)) (sc_nil)) ((List.forall_mem_cons.2 ⟨(Rp.cells (show Rp.rv W (.agg [.int .i64 x218, .int .i64 x234]) ((x218, x234) : Int × Int) from (mk_ii _ _ _))), fun _ h => (List.not_mem_nil h).elim⟩)) rfl rfl rfl (by decide);replace h_1 := Rp.mono w246 h_1;replace h217 := Rp.mono w246 h217;replace h233 := Rp.mono w246 h233;replace o94 := o94.mono w246;replace o108 := o108.mono w246;obtain ⟨c251, sn252⟩ := ow_sn hst (.head _) o250;obtain ⟨x253, e254, hy100⟩ := bn hy100;replace hst := hst.p1;obtain ⟨v255, H256, fg257, W, f259, w258, hst, o260⟩ := ow_apps [.int .i64 0, .int .i64 0] rfl hst o108 sn252 e254;replace h_1 := Rp.mono w258 h_1;replace h217 := Rp.mono w258 h217;replace h233 := Rp.mono w258 h233;replace o94 := o94.mono w258;replace o250 := o250.mono w258;refine wpo_seg hp0 21 (fun s H' => s.length = 91 ∧ gt s 0 = v_0 ∧ gt s 1 = v_1 ∧ gt s 2 = .int .i64 side ∧ gt s 3 = v255 ∧ gt s 8 = .ptr p29 0 ∧ gt s 42 = .int .i64 (t.length : Int) ∧ gt s 43 = .int .i64 (k98 : Int) ∧ H256 = H') (by simp (maxSteps := 1000000) only [↓runs, isCall, ↓reduceIte, ↓gd_true, ↓gd_false, evs, AV.cells, Nat.reduceEqDiff, Nat.reduceLT, reduceCtorEq, Nat.reduceAdd, sy, f209, f210, f215, f216, f222, f223, f225, f226, f231, f232, f238, f239, f241, f247, f248, f249, f259, g0, g1, g2, g3, g8, g11, g42, g43, g69, hl]) ?_;rintro s _ ⟨hl, g0, g1, g2, g3, g8, g42, g43, rfl⟩;refine wpo_nil ?_;refine rnd_n ?_;obtain rfl := Option.some.inj hy100;replace hst := hst.p1;replace hst := hst.drop;replace hst := hst.p2;replace hst := hst.p2;replace hst := hst.p2;exact ⟨hl, g43, g42, ⟨W, _, _, hl, g3, g0, g1, g2, g8, ((w105.trans w246).trans w258), hst, o260⟩⟩
       ·replace hy100 := ifF c208 hy100;refine AM.wp_condF (by simp only [ev_t, ev_c, g69, c208]) ?_;refine AM.wp_skip ?_;refine rnd_n ?_;obtain rfl := Option.some.inj hy100;replace hst := hst.p2;replace hst := hst.p2;replace hst := hst.p2;exact ⟨hl, g43, g42, ⟨W, _, _, hl, g3, g0, g1, g2, g8, w105, hst, o108⟩⟩
     ·rintro s H hI _;obtain ⟨W, v262, fg263, hl, g3, g0, g1, g2, g8, w261, hst, o264⟩ := hI;replace h_1 := Rp.mono w261 h_1;replace o94 := o94.mono w261;refine blk_n ?_;refine then_n ?_;obtain rfl := Option.some.inj hy5;replace hst := hst.p2;replace hst := hst.drop;replace hst := hst.p1;replace hst := hst.p1;exact ⟨_, rfl, ⟨W, _, _, _, hl, g3, g0, g1, g2, (((w11.trans w31).trans w83).trans w261), hst, o264, o94⟩⟩
  ·replace hy5 := ifF c19 hy5;refine AM.wp_condF (by simp only [ev_t, ev_c, g14, c19]) ?_;refine AM.wp_exit ?_;refine then_x ?_;refine then_x (rnd_c rfl ?_);obtain rfl := Option.some.inj hy5;replace hst := hst.drop;exact ⟨_, rfl, ⟨W, _, hl, w11, hst, o16⟩⟩
 ·rintro x265 s H hz hI;subst hz;dsimp only at hp hI;obtain ⟨W, fg267, hl, w266, hst, o268⟩ := hI;replace h_1 := Rp.mono w266 h_1;obtain rfl := Option.some.inj hp;refine body_norm (vs := []) (by simp only [rvs, f_congr_forest_join, Option.map_some]) ?_;exact ⟨W, w266, _, hst, rfl, o268⟩

end Go.Proofs.Ytmdpejgnkoneoaa.Pu
set_option maxRecDepth 100000
set_option maxHeartbeats 4000000
namespace Go.Proofs.Ytmdpejgnkoneoaa.Pu
open Go Go.AM Go.Proofs.Ytmdpejgnkoneoaa.Code

noncomputable def P_congr_forest_partition_l14 (f : List Int) (k16 : Nat) (x15 : List Int) : Option ((List Int)) :=
 Option.bind (P_congr_forest_findF f (k16 : Int)) fun r28 =>
 Option.bind (si x15 (k16 : Int) r28) fun x34 =>
 some x34
noncomputable def P_congr_forest_partition (f : List Int) : Option ((List Int)) :=
 Option.bind (mkz (α := Int) 8 (f.length : Int) (f.length : Int) 0) fun x3 =>
 Option.bind (forS x3.length (fun k x => P_congr_forest_partition_l14 f k x) x3) fun z20 =>
 Option.bind (P_partition_Canonical z20) fun r49 =>
 some r49
theorem R_congr_forest_partition {G : List Frag} {W H : AH} {v_0 : AV} {g_0 : Frag} {f : List Int} (hst : St (g_0 :: G) W H) (o_0 : OwF W v_0 g_0 f) {r : (List Int)} (hp : P_congr_forest_partition f = some r) :
  wpc E0 N_congr_forest_partition [v_0] H fun rv H' => ∃ W', Wle W W' ∧ ∃ (g0 : Frag), ∃ (gi0 : Frag), St (g0 :: gi0 :: G) W' H' ∧ OwS W' rv g0 (r : List Int) ∧ OwF W' v_0 gi0 f := by
 refine enterN (F := f_congr_forest_partition) rfl (Nat.le_of_ble_eq_true rfl) fun s hl hg => ?_;replace hl : s.length = 22 := hl;have g0 : gt s 0 = v_0 := hg 0 (Nat.le_of_ble_eq_true rfl);clear hg;unfold P_congr_forest_partition at hp;show wp E0 c_congr_forest_partition s H _;unfold c_congr_forest_partition;refine AM.wp_seq hp0 (AM.wp_reg hp0 ?_);refine wpo_seg hp0 1 (fun s H' => s.length = 22 ∧ gt s 0 = v_0 ∧ H = H') (by simp only [↓runs, isCall, ↓reduceIte, ↓gd_true, ↓gd_false, evs, AV.cells, Nat.reduceEqDiff, Nat.reduceLT, reduceCtorEq, Nat.reduceAdd, sy, g0, hl]) ?_;rintro s _ ⟨hl, g0, rfl⟩;refine wpo_nil (then_n ?_);refine AM.wp_seq hp0 (AM.wp_reg hp0 ?_);have f1 := of_ln o_0;have b2 := of_big o_0;obtain ⟨x3, e4, hp⟩ := bn hp;obtain ⟨v5, H6, fg7, W, f10, w9, hst, o11⟩ := ow_mk (kn := .i64) (kc := .i64) hst (show Rp.rv _ (.int .i64 0) (0 : Int) from rfl) [.int .i64 0] rfl e4;replace o_0 := o_0.mono w9;refine wpo_seg hp0 4 (fun s H' => s.length = 22 ∧ gt s 0 = v_0 ∧ gt s 3 = v5 ∧ H6 = H') (by simp only [↓runs, isCall, ↓reduceIte, ↓gd_true, ↓gd_false, evs, AV.cells, Nat.reduceEqDiff, Nat.reduceLT, reduceCtorEq, Nat.reduceAdd, sy, f1, f10, g0, hl]) ?_;rintro s _ ⟨hl, g0, g3, rfl⟩;refine wpo_nil (then_n ?_);refine AM.wp_seq hp0 (AM.wp_seq hp0 (AM.wp_reg hp0 ?_));have f12 := ow_ln o11;have b13 := ow_big o11;refine wpo_seg hp0 3 (fun s H' => s.length = 22 ∧ gt s 0 = v_0 ∧ gt s 3 = v5 ∧ gt s 9 = .int .i64 (x3.length : Int) ∧ gt s 10 = .int .i64 0 ∧ H6 = H') (by simp only [↓runs, isCall, ↓reduceIte, ↓gd_true, ↓gd_false, evs, AV.cells, Nat.reduceEqDiff, Nat.reduceLT, reduceCtorEq, Nat.reduceAdd, sy, f12, g0, g3, hl]) ?_;rintro s _ ⟨hl, g0, g3, g9, g10, rfl⟩;refine wpo_nil (then_n ?_);obtain ⟨z20, e21, hp⟩ := bn hp;refine rangeS_ref hp0 22 x3.length (fun k x => P_congr_forest_partition_l14 f k x) (fun _ x s H' => ∃ (W' : AH) (qo2 : Frag) (qo1 : Frag), s.length = 22 ∧ gt s 0 = v_0 ∧ gt s 3 = v5 ∧  Wle W W' ∧ St (qo2 :: qo1 :: G) W' H' ∧ OwS W' v5 qo2 (x : List Int) ∧ OwF W' v_0 qo1 (f : List Int)) e21 (b13) rfl ?_ ?_ hl g10 g9 ?_ ?_
 ·intro k x s H d v hd h; rcases hd with rfl | rfl | rfl <;> simpa only [gt_other, pt_length, Nat.reduceEqDiff, not_false_eq_true] using h
 ·replace hst := hst.p1;replace hst := hst.p1;exact ⟨W, _, _, hl, g0, g3, .refl _, hst, o11, o_0⟩
 ·intro k16 x15 y17 s H hk hI hl g10 g9 hy18;change P_congr_forest_partition_l14 f k16 x15 = some y17 at hy18;unfold P_congr_forest_partition_l14 at hy18;obtain ⟨W, fg24, fg26, hl, g0, g3, w23, hst, o25, o27⟩ := hI;refine AM.wp_seq hp0 (AM.wp_reg hp0 ?_);refine wpo_seg hp0 2 (fun s H' => s.length = 22 ∧ gt s 0 = v_0 ∧ gt s 3 = v5 ∧ gt s 4 = .int .i64 (k16 : Int) ∧ gt s 9 = .int .i64 (x3.length : Int) ∧ gt s 10 = .int .i64 (k16 : Int) ∧ H = H') (by simp only [↓runs, isCall, ↓reduceIte, ↓gd_true, ↓gd_false, evs, AV.cells, Nat.reduceEqDiff, Nat.reduceLT, reduceCtorEq, Nat.reduceAdd, sy, g0, g3, g9, g10, hl]) ?_;rintro s _ ⟨hl, g0, g3, g4, g9, g10, rfl⟩;refine wpo_nil (then_n ?_);refine AM.wp_reg hp0 ?_;refine wpo_seg hp0 4 (fun s H' => s.length = 22 ∧ gt s 0 = v_0 ∧ gt s 3 = v5 ∧ gt s 9 = .int .i64 (x3.length : Int) ∧ gt s 10 = .int .i64 (k16 : Int) ∧ gt s 13 = v5 ∧ gt s 14 = .int .i64 (k16 : Int) ∧ gt s 15 = v_0 ∧ gt s 16 = .int .i64 (k16 : Int) ∧ H = H') (by simp only [↓runs, isCall, ↓reduceIte, ↓gd_true, ↓gd_false, evs, AV.cells, Nat.reduceEqDiff, Nat.reduceLT, reduceCtorEq, Nat.reduceAdd, sy, g0, g3, g4, g9, g10, hl]) ?_;rintro s _ ⟨hl, g0, g3, g9, g10, g13, g14, g15, g16, rfl⟩;obtain ⟨r28, e29, hy18⟩ := bn hy18;replace hst := hst.p1;refine wpo_callK hp0 rfl (ys := [v_0, .int .i64 (k16 : Int)]) (by simp only [evs, List.map_cons, List.map_nil, ev_t, ev_c, g15, g16]) (R_congr_forest_findF hst o27 e29) ?_;rintro rv30 H ⟨W, w31, fg32, hst, rfl, o33⟩;replace o25 := o25.mono w31;obtain ⟨x34, e35, hy18⟩ := bn hy18;replace hst := hst.p1;obtain ⟨p36, H37, fg38, f39, f40, hst, o41⟩ := ow_set (k := .i64) 1 rfl hst o25 (show Rp.rv W (.int .i64 r28) (r28 : Int) from rfl) e35;refine wpo_seg hp0 2 (fun s H' => s.length = 22 ∧ gt s 0 = v_0 ∧ gt s 3 = v5 ∧ gt s 9 = .int .i64 (x3.length : Int) ∧ gt s 10 = .int .i64 (k16 : Int) ∧ H37 = H') (by simp only [↓runs, isCall, ↓reduceIte, ↓gd_true, ↓gd_false, evs, AV.cells, Nat.reduceEqDiff, Nat.reduceLT, reduceCtorEq, Nat.reduceAdd, sy, gt_other, f39, f40, g0, g3, g9, g10, g13, g14, g15, g16, hl]) ?_;rintro s _ ⟨hl, g0, g3, g9, g10, rfl⟩;refine wpo_nil ?_;refine rnd_n ?_;obtain rfl := Option.some.inj hy18;replace hst := hst.p1;replace hst := hst.p1;exact ⟨hl, g10, g9, ⟨W, _, _, hl, g0, g3, (w23.trans w31), hst, o41, o33⟩⟩
 ·rintro s H hI _;obtain ⟨W, fg43, fg45, hl, g0, g3, w42, hst, o44, o46⟩ := hI;refine then_n ?_;refine AM.wp_seq hp0 (AM.wp_reg hp0 ?_);refine wpo_seg hp0 1 (fun s H' => s.length = 22 ∧ gt s 20 = v5 ∧ H = H') (by simp only [↓runs, isCall, ↓reduceIte, ↓gd_true, ↓gd_false, evs, AV.cells, Nat.reduceEqDiff, Nat.reduceLT, reduceCtorEq, Nat.reduceAdd, sy, g0, g3, hl]) ?_;rintro s _ ⟨hl, g20, rfl⟩;obtain ⟨W, w48, hst, h47⟩ := ow_frz hst o44;replace o46 := o46.mono w48;obtain ⟨r49, e50, hp⟩ := bn hp;refine wpo_callK hp0 rfl (ys := [v5]) (by simp only [evs, List.map_cons, List.map_nil, ev_t, ev_c, g20]) (R_partition_Canonical hst h47 e50) ?_;rintro rv51 H ⟨W, w52, fg53, hst, o54⟩;replace h47 := Rp.mono w52 h47;replace o46 := o46.mono w52;refine wpo_seg hp0 1 (fun s H' => s.length = 22 ∧ gt s 2 = rv51 ∧ H = H') (by simp only [↓runs, isCall, ↓reduceIte, ↓gd_true, ↓gd_false, evs, AV.cells, Nat.reduceEqDiff, Nat.reduceLT, reduceCtorEq, Nat.reduceAdd, sy, gt_other, g20, hl]) ?_;rintro s _ ⟨hl, g2, rfl⟩;refine wpo_nil (then_n ?_);refine AM.wp_ret ?_;obtain rfl := Option.some.inj hp;replace hst := hst.p1;replace hst := hst.p1;refine body_ret (vs := [rv51]) (by simp only [rvs, f_congr_forest_partition, Option.map_some, g2]) ?_;exact ⟨W, (((w9.trans w42).trans w48).trans w52), _, _, hst, o54, o46⟩

end Go.Proofs.Ytmdpejgnkoneoaa.Pu
set_option maxRecDepth 100000
set_option maxHeartbeats 4000000
namespace Go.Proofs.Ytmdpejgnkoneoaa.Pu
open Go Go.AM Go.Proofs.Ytmdpejgnkoneoaa.Code

noncomputable def P_congr_generated (t : List (List Int)) (pairs : List (Int × Int)) (side : Int) : Option ((List Int)) :=
 Option.bind (P_partition_Discrete (t.length : Int)) fun r2 =>
 Option.bind (pus 16 [] pairs) fun x19 =>
 Option.bind (fnew r2) fun x27 =>
 Option.bind (P_congr_forest_join x27 t side x19) fun r30 =>
 Option.bind (P_congr_forest_partition r30) fun r36 =>
 some r36
theorem R_congr_generated {G : List Frag} {W H : AH} {v_0 v_1 : AV} {t : List (List Int)} {pairs : List (Int × Int)} {side : Int} (hst : St G W H) (h_0 : Rp.rv W v_0 t) (h_1 : Rp.rv W v_1 pairs) {r : (List Int)} (hp : P_congr_generated t pairs side = some r) :
  wpc E0 N_congr_generated [v_0, v_1, .int .i64 side] H fun rv H' => ∃ W', Wle W W' ∧ ∃ (g0 : Frag), St (g0 :: G) W' H' ∧ OwS W' rv g0 (r : List Int) := by
 refine enterN (F := f_congr_generated) rfl (Nat.le_of_ble_eq_true rfl) fun s hl hg => ?_;replace hl : s.length = 20 := hl;have g0 : gt s 0 = v_0 := hg 0 (Nat.le_of_ble_eq_true rfl);have g1 : gt s 1 = v_1 := hg 1 (Nat.le_of_ble_eq_true rfl);have g2 : gt s 2 = .int .i64 side := hg 2 (Nat.le_of_ble_eq_true rfl);clear hg;unfold P_congr_generated at hp;show wp E0 c_congr_generated s H _;unfold c_congr_generated;refine AM.wp_seq hp0 (AM.wp_reg hp0 ?_);refine wpo_seg hp0 1 (fun s H' => s.length = 20 ∧ gt s 0 = v_0 ∧ gt s 1 = v_1 ∧ gt s 2 = .int .i64 side ∧ H = H') (by simp only [↓runs, isCall, ↓reduceIte, ↓gd_true, ↓gd_false, evs, AV.cells, Nat.reduceEqDiff, Nat.reduceLT, reduceCtorEq, Nat.reduceAdd, sy, g0, g1, g2, hl]) ?_;rintro s _ ⟨hl, g0, g1, g2, rfl⟩;refine wpo_nil (then_n ?_);refine AM.wp_seq hp0 (AM.wp_reg hp0 ?_);have f1 := fz_ln h_0;refine wpo_seg hp0 2 (fun s H' => s.length = 20 ∧ gt s 0 = v_0 ∧ gt s 1 = v_1 ∧ gt s 2 = .int .i64 side ∧ gt s 9 = .int .i64 (t.length : Int) ∧ H = H') (by simp only [↓runs, isCall, ↓reduceIte, ↓gd_true, ↓gd_false, evs, AV.cells, Nat.reduceEqDiff, Nat.reduceLT, reduceCtorEq, Nat.reduceAdd, sy, f1, g0, g1, g2, hl]) ?_;rintro s _ ⟨hl, g0, g1, g2, g9, rfl⟩;obtain ⟨r2, e3, hp⟩ := bn hp;refine wpo_callK hp0 rfl (ys := [.int .i64 (t.length : Int)]) (by simp only [evs, List.map_cons, List.map_nil, ev_t, ev_c, g9]) (R_partition_Discrete hst e3) ?_;rintro rv4 H ⟨W, w5, fg6, hst, o7⟩;replace h_0 := Rp.mono w5 h_0;replace h_1 := Rp.mono w5 h_1;refine wpo_seg hp0 1 (fun s H' => s.length = 20 ∧ gt s 0 = v_0 ∧ gt s 1 = v_1 ∧ gt s 2 = .int .i64 side ∧ gt s 7 = rv4 ∧ H = H') (by simp only [↓runs, isCall, ↓reduceIte, ↓gd_true, ↓gd_false, evs, AV.cells, Nat.reduceEqDiff, Nat.reduceLT, reduceCtorEq, Nat.reduceAdd, sy, gt_other, g0, g1, g2, g9, hl]) ?_;rintro s _ ⟨hl, g0, g1, g2, g7, rfl⟩;refine wpo_nil (then_n ?_);refine AM.wp_seq hp0 (AM.wp_reg hp0 ?_);obtain ⟨v8, l9, H10, fg11, W, f13, f14, f15, w12, hst, o16⟩ := ow_lit' (n := 2) (k := 0) (z := []) (ys := []) (M := ([] : List (Int × Int))) [] rfl rfl hst (sc_nil) ( fun _ h => (List.not_mem_nil h).elim) rfl rfl rfl (by decide);replace h_0 := Rp.mono w12 h_0;replace h_1 := Rp.mono w12 h_1;replace o7 := o7.mono w12;obtain ⟨c17, sn18⟩ := fz_sn hst h_1;obtain ⟨x19, e20, hp⟩ := bn hp;obtain ⟨v21, H22, fg23, W, f25, w24, hst, o26⟩ := ow_apps [.int .i64 0, .int .i64 0] rfl hst o16 sn18 e20;replace h_0 := Rp.mono w24 h_0;replace h_1 := Rp.mono w24 h_1;replace o7 := o7.mono w24;refine wpo_seg hp0 6 (fun s H' => s.length = 20 ∧ gt s 7 = rv4 ∧ gt s 11 = rv4 ∧ gt s 12 = v_0 ∧ gt s 13 = .int .i64 side ∧ gt s 16 = v21 ∧ H22 = H') (by simp only [↓runs, isCall, ↓reduceIte, ↓gd_true, ↓gd_false, evs, AV.cells, Nat.reduceEqDiff, Nat.reduceLT, reduceCtorEq, Nat.reduceAdd, sy, f13, f14, f15, f25, g0, g1, g2, g7, hl]) ?_;rintro s _ ⟨hl, g7, g11, g12, g13, g16, rfl⟩;obtain ⟨x27, e28, hp⟩ := bn hp;have o29 := of_new o7 e28;obtain ⟨r30, e31, hp⟩ := bn hp;replace hst := hst.p1;refine wpo_callK hp0 rfl (ys := [rv4, v_0, .int .i64 side, v21]) (by simp only [evs, List.map_cons, List.map_nil, ev_t, ev_c, g11, g12, g13, g16]) (R_congr_forest_join hst o29 h_0 o26 e31) ?_;rintro rv32 H ⟨W, w33, fg34, hst, rfl, o35⟩;replace h_0 := Rp.mono w33 h_0;replace h_1 := Rp.mono w33 h_1;refine wpo_seg hp0 0 (fun s H' => s.length = 20 ∧ gt s 7 = rv4 ∧ H = H') (by simp only [↓runs, isCall, ↓reduceIte, ↓gd_true, ↓gd_false, evs, AV.cells, Nat.reduceEqDiff, Nat.reduceLT, reduceCtorEq, Nat.reduceAdd, sy, gt_other, g7, g11, g12, g13, g16, hl]) ?_;rintro s _ ⟨hl, g7, rfl⟩;refine wpo_nil (then_n ?_);refine AM.wp_seq hp0 (AM.wp_reg hp0 ?_);refine wpo_seg hp0 1 (fun s H' => s.length = 20 ∧ gt s 18 = rv4 ∧ H = H') (by simp only [↓runs, isCall, ↓reduceIte, ↓gd_true, ↓gd_false, evs, AV.cells, Nat.reduceEqDiff, Nat.reduceLT, reduceCtorEq, Nat.reduceAdd, sy, g7, hl]) ?_;rintro s _ ⟨hl, g18, rfl⟩;obtain ⟨r36, e37, hp⟩ := bn hp;refine wpo_callK hp0 rfl (ys := [rv4]) (by simp only [evs, List.map_cons, List.map_nil, ev_t, ev_c, g18]) (R_congr_forest_partition hst o35 e37) ?_;rintro rv38 H ⟨W, w39, fg40, fg42, hst, o41, o43⟩;replace h_0 := Rp.mono w39 h_0;replace h_1 := Rp.mono w39 h_1;refine wpo_seg hp0 1 (fun s H' => s.length = 20 ∧ gt s 6 = rv38 ∧ H = H') (by simp only [↓runs, isCall, ↓reduceIte, ↓gd_true, ↓gd_false, evs, AV.cells, Nat.reduceEqDiff, Nat.reduceLT, reduceCtorEq, Nat.reduceAdd, sy, gt_other, g18, hl]) ?_;rintro s _ ⟨hl, g6, rfl⟩;refine wpo_nil (then_n ?_);refine AM.wp_ret ?_;obtain rfl := Option.some.inj hp;replace hst := hst.p1;replace hst := hst.drop;refine body_ret (vs := [rv38]) (by simp only [rvs, f_congr_generated, Option.map_some, g6]) ?_;exact ⟨W, ((((w5.trans w12).trans w24).trans w33).trans w39), _, hst, o41⟩

end Go.Proofs.Ytmdpejgnkoneoaa.Pu
set_option maxRecDepth 100000
set_option maxHeartbeats 4000000
namespace Go.Proofs.Ytmdpejgnkoneoaa.Pu
open Go Go.AM Go.Proofs.Ytmdpejgnkoneoaa.Code

noncomputable def P_congr_Generated_l13 (pairs : List (Int × Int)) (t : List (List Int)) (k15 : Nat) : Option (Lp (Unit) ((List Int))) :=
 Option.bind (gi pairs (k15 : Int)) fun x22 =>
 Option.bind (
  if decide (x22.1 < 0) then
   some true
  else
   if decide ((t.length : Int) ≤ x22.1) then
    some true
   else
    if decide (x22.2 < 0) then
     some true
    else
     some (decide ((t.length : Int) ≤ x22.2))) fun z36 =>
 if z36 then
  some (.ex [])
 else
  some (.go ())
noncomputable def P_congr_Generated (t : List (List Int)) (pairs : List (Int × Int)) (side : Int) : Option ((List Int)) :=
 Option.bind (
  Option.bind (P_mult_Validate t) fun r3 =>
  if !decide (r3 = 0) then
   some true
  else
   if decide (side < 0) then
    some true
   else
    some (decide (2 < side))) fun z1 =>
 if z1 then
  some []
 else
  Option.bind (forR pairs.length (fun k x => P_congr_Generated_l13 pairs t k) ()) fun z19 =>
  match z19 with
  | .inl x54 =>
   Option.bind (P_congr_generated t pairs side) fun r56 =>
   some r56
  | .inr b => some b
theorem R_congr_Generated {G : List Frag} {W H : AH} {v_0 v_1 : AV} {t : List (List Int)} {pairs : List (Int × Int)} {side : Int} (hst : St G W H) (h_0 : Rp.rv W v_0 t) (h_1 : Rp.rv W v_1 pairs) {r : (List Int)} (hp : P_congr_Generated t pairs side = some r) :
  wpc E0 N_congr_Generated [v_0, v_1, .int .i64 side] H fun rv H' => ∃ W', Wle W W' ∧ ∃ (g0 : Frag), St (g0 :: G) W' H' ∧ OwS W' rv g0 (r : List Int) := by
 refine enterN (F := f_congr_Generated) rfl (Nat.le_of_ble_eq_true rfl) fun s hl hg => ?_;replace hl : s.length = 53 := hl;have g0 : gt s 0 = v_0 := hg 0 (Nat.le_of_ble_eq_true rfl);have g1 : gt s 1 = v_1 := hg 1 (Nat.le_of_ble_eq_true rfl);have g2 : gt s 2 = .int .i64 side := hg 2 (Nat.le_of_ble_eq_true rfl);clear hg;unfold P_congr_Generated at hp;show wp E0 c_congr_Generated s H _;unfold c_congr_Generated;refine AM.wp_seq hp0 (AM.wp_reg hp0 ?_);refine wpo_seg hp0 1 (fun s H' => s.length = 53 ∧ gt s 0 = v_0 ∧ gt s 1 = v_1 ∧ gt s 2 = .int .i64 side ∧ H = H') (by simp only [↓runs, isCall, ↓reduceIte, ↓gd_true, ↓gd_false, evs, AV.cells, Nat.reduceEqDiff, Nat.reduceLT, reduceCtorEq, Nat.reduceAdd, sy, g0, g1, g2, hl]) ?_;rintro s _ ⟨hl, g0, g1, g2, rfl⟩;refine wpo_nil (then_n ?_);refine AM.wp_seq hp0 (AM.wp_seq hp0 ?_);obtain ⟨z1, hj2, hp⟩ := bn hp;refine AM.wp_regK hp0 (fun s H' => ∃ (W' : AH), s.length = 53 ∧ gt s 19 = .bool z1 ∧ gt s 0 = v_0 ∧ gt s 1 = v_1 ∧ gt s 2 = .int .i64 side ∧  Wle W W' ∧ St G W' H') ?_ ?_
 ·refine wpo_seg hp0 1 (fun s H' => s.length = 53 ∧ gt s 0 = v_0 ∧ gt s 1 = v_1 ∧ gt s 2 = .int .i64 side ∧ gt s 9 = v_0 ∧ H = H') (by simp only [↓runs, isCall, ↓reduceIte, ↓gd_true, ↓gd_false, evs, AV.cells, Nat.reduceEqDiff, Nat.reduceLT, reduceCtorEq, Nat.reduceAdd, sy, g0, g1, g2, hl]) ?_;rintro s _ ⟨hl, g0, g1, g2, g9, rfl⟩;obtain ⟨r3, e4, hj2⟩ := bn hj2;refine wpo_callK hp0 rfl (ys := [v_0]) (by simp only [evs, List.map_cons, List.map_nil, ev_t, ev_c, g9]) (R_mult_Validate hst h_0 e4) ?_;rintro rv5 H ⟨W, w6, hst, rfl⟩;replace h_0 := Rp.mono w6 h_0;replace h_1 := Rp.mono w6 h_1;rcases Bool.eq_false_or_eq_true (!decide (r3 = 0)) with c7 | c7
  ·replace hj2 := ifT c7 hj2;refine wpo_seg hp0 9 (fun s H' => s.length = 53 ∧ gt s 0 = v_0 ∧ gt s 1 = v_1 ∧ gt s 2 = .int .i64 side ∧ gt s 19 = .bool true ∧ H = H') (by simp only [↓runs, isCall, ↓reduceIte, ↓gd_true, ↓gd_false, evs, AV.cells, Nat.reduceEqDiff, Nat.reduceLT, reduceCtorEq, Nat.reduceAdd, sy, gt_other, c7, g0, g1, g2, g9, hl]) ?_;rintro s _ ⟨hl, g0, g1, g2, g19, rfl⟩;refine wpo_nil ?_;obtain rfl := Option.some.inj hj2;exact ⟨W, hl, g19, g0, g1, g2, w6, hst⟩
  ·replace hj2 := ifF c7 hj2;rcases Bool.eq_false_or_eq_true (decide (side < 0)) with c8 | c8
   ·replace hj2 := ifT c8 hj2;refine wpo_seg hp0 9 (fun s H' => s.length = 53 ∧ gt s 0 = v_0 ∧ gt s 1 = v_1 ∧ gt s 2 = .int .i64 side ∧ gt s 19 = .bool true ∧ H = H') (by simp only [↓runs, isCall, ↓reduceIte, ↓gd_true, ↓gd_false, evs, AV.cells, Nat.reduceEqDiff, Nat.reduceLT, reduceCtorEq, Nat.reduceAdd, sy, gt_other, c7, c8, g0, g1, g2, g9, hl]) ?_;rintro s _ ⟨hl, g0, g1, g2, g19, rfl⟩;refine wpo_nil ?_;obtain rfl := Option.some.inj hj2;exact ⟨W, hl, g19, g0, g1, g2, w6, hst⟩
   ·replace hj2 := ifF c8 hj2;refine wpo_seg hp0 9 (fun s H' => s.length = 53 ∧ gt s 0 = v_0 ∧ gt s 1 = v_1 ∧ gt s 2 = .int .i64 side ∧ gt s 19 = .bool (decide (2 < side)) ∧ H = H') (by simp only [↓runs, isCall, ↓reduceIte, ↓gd_true, ↓gd_false, evs, AV.cells, Nat.reduceEqDiff, Nat.reduceLT, reduceCtorEq, Nat.reduceAdd, sy, gt_other, c7, c8, g0, g1, g2, g9, hl]) ?_;rintro s _ ⟨hl, g0, g1, g2, g19, rfl⟩;refine wpo_nil ?_;obtain rfl := Option.some.inj hj2;exact ⟨W, hl, g19, g0, g1, g2, w6, hst⟩
 ·rintro s H ⟨W, hl, g19, g0, g1, g2, w9, hst⟩;replace h_0 := Rp.mono w9 h_0;replace h_1 := Rp.mono w9 h_1;refine then_n ?_;rcases Bool.eq_false_or_eq_true (z1) with c10 | c10
  ·replace hp := ifT c10 hp;refine AM.wp_condT (by simp only [ev_t, ev_c, g19, c10]) ?_;refine AM.wp_seq hp0 (AM.wp_reg hp0 ?_);refine wpo_seg hp0 1 (fun s H' => s.length = 53 ∧ gt s 6 = .nils ∧ H = H') (by simp only [↓runs, isCall, ↓reduceIte, ↓gd_true, ↓gd_false, evs, AV.cells, Nat.reduceEqDiff, Nat.reduceLT, reduceCtorEq, Nat.reduceAdd, sy, g0, g1, g2, g19, hl]) ?_;rintro s _ ⟨hl, g6, rfl⟩;refine wpo_nil (then_n ?_);refine AM.wp_ret ?_;refine then_r ?_;replace hst := hst.nil;have o11 := ow_nil (α := Int) W;obtain rfl := Option.some.inj hp;refine body_ret (vs := [.nils]) (by simp only [rvs, f_congr_Generated, Option.map_some, g6]) ?_;exact ⟨W, w9, _, hst, o11⟩
  ·replace hp := ifF c10 hp;refine AM.wp_condF (by simp only [ev_t, ev_c, g19, c10]) ?_;refine AM.wp_skip ?_;refine then_n ?_;refine AM.wp_seq hp0 (AM.wp_seq hp0 (AM.wp_reg hp0 ?_));have f12 := fz_ln h_1;refine wpo_seg hp0 3 (fun s H' => s.length = 53 ∧ gt s 0 = v_0 ∧ gt s 1 = v_1 ∧ gt s 2 = .int .i64 side ∧ gt s 20 = v_1 ∧ gt s 21 = .int .i64 (pairs.length : Int) ∧ gt s 22 = .int .i64 0 ∧ H = H') (by simp only [↓runs, isCall, ↓reduceIte, ↓gd_true, ↓gd_false, evs, AV.cells, Nat.reduceEqDiff, Nat.reduceLT, reduceCtorEq, Nat.reduceAdd, sy, f12, g0, g1, g2, g19, hl]) ?_;rintro s _ ⟨hl, g0, g1, g2, g20, g21, g22, rfl⟩;refine wpo_nil (then_n ?_);obtain ⟨z19, e20, hp⟩ := bn hp;refine range_ref hp0 53 pairs.length (fun k x => P_congr_Generated_l13 pairs t k) (fun _ x s H' => ∃ (W' : AH), s.length = 53 ∧ gt s 0 = v_0 ∧ gt s 1 = v_1 ∧ gt s 2 = .int .i64 side ∧ gt s 20 = v_1 ∧  Wle W W' ∧ St G W' H') (fun _ x s H' => ∃ (W' : AH), s.length = 53 ∧ gt s 0 = v_0 ∧ gt s 1 = v_1 ∧ gt s 2 = .int .i64 side ∧  Wle W W' ∧ St G W' H') e20 (fz_big h_1) rfl ?_ ?_ hl g22 g21 ?_ ?_
   ·intro k x s H d v hd h; rcases hd with rfl | rfl | rfl <;> simpa only [gt_other, pt_length, Nat.reduceEqDiff, not_false_eq_true] using h
   ·exact ⟨W, hl, g0, g1, g2, g20, .refl _, hst⟩
   ·intro k15 x14 y16 s H hk hI hl g22 g21 hy17 hx18;change P_congr_Generated_l13 pairs t k15 = some y16 at hy17;unfold P_congr_Generated_l13 at hy17;obtain ⟨W, hl, g0, g1, g2, g20, w21, hst⟩ := hI;replace h_0 := Rp.mono w21 h_0;replace h_1 := Rp.mono w21 h_1;refine AM.wp_seq hp0 (AM.wp_reg hp0 ?_);obtain ⟨x22, e23, hy17⟩ := bn hy17;obtain ⟨p24, y25, f26, f27, h28⟩ := fz_atA (k := .i64) 2 rfl hst h_1 e23 rfl;obtain rfl := pr_ii h28;obtain ⟨p29, H30, W, f32, f33, w31, hst⟩ := bx_new' hst [.int .i64 0, .int .i64 0];replace h_0 := Rp.mono w31 h_0;replace h_1 := Rp.mono w31 h_1;obtain ⟨H34, f35, hst⟩ := bx_st (y := .agg [.int .i64 x22.1, .int .i64 x22.2]) (n := 2) hst rfl rfl rfl;simp only [AV.cells] at hst;refine wpo_seg hp0 4 (fun s H' => s.length = 53 ∧ gt s 0 = v_0 ∧ gt s 1 = v_1 ∧ gt s 2 = .int .i64 side ∧ gt s 8 = .ptr p29 0 ∧ gt s 20 = v_1 ∧ gt s 21 = .int .i64 (pairs.length : Int) ∧ gt s 22 = .int .i64 (k15 : Int) ∧ H34 = H') (by simp only [↓runs, isCall, ↓reduceIte, ↓gd_true, ↓gd_false, evs, AV.cells, Nat.reduceEqDiff, Nat.reduceLT, reduceCtorEq, Nat.reduceAdd, sy, f26, f27, f32, f33, f35, g0, g1, g2, g20, g21, g22, hl]) ?_;rintro s _ ⟨hl, g0, g1, g2, g8, g20, g21, g22, rfl⟩;refine wpo_nil (then_n ?_);refine AM.wp_seq hp0 ?_;obtain ⟨z36, hj37, hy17⟩ := bn hy17;refine AM.wp_regK hp0 (fun s H' => s.length = 53 ∧ gt s 47 = .bool z36 ∧ gt s 0 = v_0 ∧ gt s 1 = v_1 ∧ gt s 2 = .int .i64 side ∧ gt s 20 = v_1 ∧ gt s 21 = .int .i64 (pairs.length : Int) ∧ gt s 22 = .int .i64 (k15 : Int) ∧ H34 = H') ?_ ?_
    ·have f38 : iaA 2 1 (.ptr p29 0) (.int .i64 0) = some (.ptr p29 0) := by simp [iaA]
     have f39 := bx_ld (i := 0) hst (.head _) rfl;rcases Bool.eq_false_or_eq_true (decide (x22.1 < 0)) with c40 | c40
     ·replace hj37 := ifT c40 hj37;refine wpo_seg hp0 22 (fun s H' => s.length = 53 ∧ gt s 0 = v_0 ∧ gt s 1 = v_1 ∧ gt s 2 = .int .i64 side ∧ gt s 20 = v_1 ∧ gt s 21 = .int .i64 (pairs.length : Int) ∧ gt s 22 = .int .i64 (k15 : Int) ∧ gt s 47 = .bool true ∧ H34 = H') (by simp (maxSteps := 1000000) only [↓runs, isCall, ↓reduceIte, ↓gd_true, ↓gd_false, evs, AV.cells, Nat.reduceEqDiff, Nat.reduceLT, reduceCtorEq, Nat.reduceAdd, sy, f38, f39, c40, g0, g1, g2, g8, g20, g21, g22, hl]) ?_;rintro s _ ⟨hl, g0, g1, g2, g20, g21, g22, g47, rfl⟩;refine wpo_nil ?_;obtain rfl := Option.some.inj hj37;exact ⟨hl, g47, g0, g1, g2, g20, g21, g22, rfl⟩
     ·replace hj37 := ifF c40 hj37;have f41 : iaA 2 1 (.ptr p29 0) (.int .i64 0) = some (.ptr p29 0) := by simp [iaA]
      have f42 := bx_ld (i := 0) hst (.head _) rfl;have f43 := fz_ln h_0;rcases Bool.eq_false_or_eq_true (decide ((t.length : Int) ≤ x22.1)) with c44 | c44
      ·replace hj37 := ifT c44 hj37;refine wpo_seg hp0 22 (fun s H' => s.length = 53 ∧ gt s 0 = v_0 ∧ gt s 1 = v_1 ∧ gt s 2 = .int .i64 side ∧ gt s 20 = v_1 ∧ gt s 21 = .int .i64 (pairs.length : Int) ∧ gt s 22 = .int .i64 (k15 : Int) ∧ gt s 47 = .bool true ∧ H34 = H') (by simp (maxSteps := 1000000) only [↓runs, isCall, ↓reduceIte, ↓gd_true, ↓gd_false, evs, AV.cells, Nat.reduceEqDiff, Nat.reduceLT, reduceCtorEq, Nat.reduceAdd, sy, f38, f39, c40, f41, f42, f43, c44, g0, g1, g2, g8, g20, g21, g22, hl]) ?_;rintro s _ ⟨hl, g0, g1, g2, g20, g21, g22, g47, rfl⟩;refine wpo_nil ?_;obtain rfl := Option.some.inj hj37;exact ⟨hl, g47, g0, g1, g2, g20, g21, g22, rfl⟩
      ·replace hj37 := ifF c44 hj37;have f45 : iaA 2 1 (.ptr p29 0) (.int .i64 1) = some (.ptr p29 1) := by simp [iaA]
       have f46 := bx_ld (i := 1) hst (.head _) rfl;rcases Bool.eq_false_or_eq_true (decide (x22.2 < 0)) with c47 | c47
       ·replace hj37 := ifT c47 hj37;refine wpo_seg hp0 22 (fun s H' => s.length = 53 ∧ gt s 0 = v_0 ∧ gt s 1 = v_1 ∧ gt s 2 = .int .i64 side ∧ gt s 20 = v_1 ∧ gt s 21 = .int .i64 (pairs.length : Int) ∧ gt s 22 = .int .i64 (k15 : Int) ∧ gt s 47 = .bool true ∧ H34 = H') (by simp (maxSteps := 1000000) only [↓runs, isCall, ↓reduceIte, ↓gd_true, ↓gd_false, evs, AV.cells, Nat.reduceEqDiff, Nat.reduceLT, reduceCtorEq, Nat.reduceAdd, sy, f38, f39, c40, f41, f42, f43, c44, f45, f46, c47, g0, g1, g2, g8, g20, g21, g22, hl]) ?_;rintro s _ ⟨hl, g0, g1, g2, g20, g21, g22, g47, rfl⟩;refine wpo_nil ?_;obtain rfl := Option.some.inj hj37;exact ⟨hl, g47, g0, g1, g2, g20, g21, g22, rfl⟩
       ·replace hj37 := ifF c47 hj37;have f48 : iaA 2 1 (.ptr p29 0) (.int .i64 1) = some (.ptr p29 1) := by simp [iaA]
        have f49 := bx_ld (i := 1) hst (.head _) rfl;have f50 := fz_ln h_0;refine wpo_seg hp0 22 (fun s H' => s.length = 53 ∧ gt s 0 = v_0 ∧ gt s 1 = v_1 ∧ gt s 2 = .int .i64 side ∧ gt s 20 = v_1 ∧ gt s 21 = .int .i64 (pairs.length : Int) ∧ gt s 22 = .int .i64 (k15 : Int) ∧ gt s 47 = .bool (decide ((t.length : Int) ≤ x22.2)) ∧ H34 = H') (by simp (maxSteps := 1000000) only [↓runs, isCall, ↓reduceIte, ↓gd_true, ↓gd_false, evs, AV.cells, Nat.reduceEqDiff, Nat.reduceLT, reduceCtorEq, Nat.reduceAdd, sy, f38, f39, c40, f41, f42, f43, c44, f45, f46, c47, f48, f49, f50, g0, g1, g2, g8, g20, g21, g22, hl]) ?_;rintro s _ ⟨hl, g0, g1, g2, g20, g21, g22, g47, rfl⟩;refine wpo_nil ?_;obtain rfl := Option.some.inj hj37;exact ⟨hl, g47, g0, g1, g2, g20, g21, g22, rfl⟩
    ·rintro s _ ⟨hl, g47, g0, g1, g2, g20, g21, g22, rfl⟩;refine then_n ?_;rcases Bool.eq_false_or_eq_true (z36) with c52 | c52
     ·replace hy17 := ifT c52 hy17;refine AM.wp_condT (by simp only [ev_t, ev_c, g47, c52]) ?_;refine AM.wp_seq hp0 (AM.wp_reg hp0 ?_);refine wpo_seg hp0 1 (fun s H' => s.length = 53 ∧ gt s 6 = .nils ∧ H34 = H') (by simp only [↓runs, isCall, ↓reduceIte, ↓gd_true, ↓gd_false, evs, AV.cells, Nat.reduceEqDiff, Nat.reduceLT, reduceCtorEq, Nat.reduceAdd, sy, g0, g1, g2, g20, g21, g22, g47, hl]) ?_;rintro s _ ⟨hl, g6, rfl⟩;refine wpo_nil (then_n ?_);refine AM.wp_ret ?_;refine rnd_r ?_;refine then_r ?_;replace hst := hst.nil;have o53 := ow_nil (α := Int) W;obtain rfl := Option.some.inj hy17;have hx := hx18 _ rfl;subst hx;dsimp only at hp;obtain rfl := Option.some.inj hp;replace hst := hst.p1;replace hst := hst.drop;refine body_ret (vs := [.nils]) (by simp only [rvs, f_congr_Generated, Option.map_some, g6]) ?_;exact ⟨W, ((w9.trans w21).trans w31), _, hst, o53⟩
     ·replace hy17 := ifF c52 hy17;refine AM.wp_condF (by simp only [ev_t, ev_c, g47, c52]) ?_;refine AM.wp_skip ?_;refine rnd_n ?_;obtain rfl := Option.some.inj hy17;replace hst := hst.drop;exact ⟨_, rfl, hl, g22, g21, ⟨W, hl, g0, g1, g2, g20, (w21.trans w31), hst⟩⟩
   ·rintro x54 s Hn hz hI;replace hI : (fun s H' => ∃ (W' : AH), s.length = 53 ∧ gt s 0 = v_0 ∧ gt s 1 = v_1 ∧ gt s 2 = .int .i64 side ∧  Wle W W' ∧ St G W' H') s Hn := by
     rcases hI with ⟨hI, -⟩ | ⟨_, hI⟩
     ·obtain ⟨W2, hl, g0, g1, g2, g20, w2, hst2⟩ := hI;exact ⟨W2, hl, g0, g1, g2, w2, hst2⟩
     ·exact hI
    obtain ⟨H, rfl⟩ : ∃ K, K = Hn := ⟨_, rfl⟩;subst hz;dsimp only at hp hI;obtain ⟨W, hl, g0, g1, g2, w55, hst⟩ := hI;replace h_0 := Rp.mono w55 h_0;replace h_1 := Rp.mono w55 h_1;refine then_n ?_;refine AM.wp_seq hp0 (AM.wp_reg hp0 ?_);refine wpo_seg hp0 3 (fun s H' => s.length = 53 ∧ gt s 49 = v_0 ∧ gt s 50 = v_1 ∧ gt s 51 = .int .i64 side ∧ H = H') (by simp only [↓runs, isCall, ↓reduceIte, ↓gd_true, ↓gd_false, evs, AV.cells, Nat.reduceEqDiff, Nat.reduceLT, reduceCtorEq, Nat.reduceAdd, sy, g0, g1, g2, hl]) ?_;rintro s _ ⟨hl, g49, g50, g51, rfl⟩;obtain ⟨r56, e57, hp⟩ := bn hp;refine wpo_callK hp0 rfl (ys := [v_0, v_1, .int .i64 side]) (by simp only [evs, List.map_cons, List.map_nil, ev_t, ev_c, g49, g50, g51]) (R_congr_generated hst h_0 h_1 e57) ?_;rintro rv58 H ⟨W, w59, fg60, hst, o61⟩;replace h_0 := Rp.mono w59 h_0;replace h_1 := Rp.mono w59 h_1;refine wpo_seg hp0 1 (fun s H' => s.length = 53 ∧ gt s 6 = rv58 ∧ H = H') (by simp only [↓runs, isCall, ↓reduceIte, ↓gd_true, ↓gd_false, evs, AV.cells, Nat.reduceEqDiff, Nat.reduceLT, reduceCtorEq, Nat.reduceAdd, sy, gt_other, g49, g50, g51, hl]) ?_;rintro s _ ⟨hl, g6, rfl⟩;refine wpo_nil (then_n ?_);refine AM.wp_ret ?_;obtain rfl := Option.some.inj hp;refine body_ret (vs := [rv58]) (by simp only [rvs, f_congr_Generated, Option.map_some, g6]) ?_;exact ⟨W, ((w9.trans w55).trans w59), _, hst, o61⟩

end Go.Proofs.Ytmdpejgnkoneoaa.Pu
set_option maxRecDepth 100000
set_option maxHeartbeats 4000000
namespace Go.Proofs.Ytmdpejgnkoneoaa.Pu
open Go Go.AM Go.Proofs.Ytmdpejgnkoneoaa.Code

end Go.Proofs.Ytmdpejgnkoneoaa.Pu
set_option maxRecDepth 100000
set_option maxHeartbeats 4000000
namespace Go.Proofs.Ytmdpejgnkoneoaa.Pu
open Go Go.AM Go.Proofs.Ytmdpejgnkoneoaa.Code

end Go.Proofs.Ytmdpejgnkoneoaa.Pu
set_option maxRecDepth 100000
set_option maxHeartbeats 4000000
namespace Go.Proofs.Ytmdpejgnkoneoaa.Pu
open Go Go.AM Go.Proofs.Ytmdpejgnkoneoaa.Code

end Go.Proofs.Ytmdpejgnkoneoaa.Pu
namespace Go.Proofs.Ytmdpejgnkoneoaa.Mt
open Go Go.AM Go.AM.Par Go.AM.Cg Go.Proofs.Ytmdpejgnkoneoaa.Pu

def pz (p : Nat × Nat) : Int × Int := ((p.1 : Int), (p.2 : Int))
def RootL (n : Nat) (R : List Int) : Prop := R.length = n ∧ ∀ x, x < n → ∃ r : Nat, r < n ∧ R.getD x 0 = (r : Int) ∧ R.getD r 0 = (r : Int)

theorem sub_to {α : Type} {A B : List α} {i : Int} (h : i = (A.length : Int)) : sub (A ++ B) none (some i) = some A := by
  subst h
  have e : bd (some (A.length : Int)) (A ++ B).length (A ++ B).length = some A.length := by
    unfold bd; dsimp only; rw [if_pos ⟨by omega, by simp; omega⟩]; simp
  unfold sub
  rw [e]
  simp [bd]

theorem join_step {t : List (List Int)} {n : Nat} {T : Nat → Nat → Nat} {sd : Int} (h : Tab t n T) {p : Nat × Nat} (hp : p.1 < n ∧ p.2 < n) (W : List (Nat × Nat)) (hW : W.length ≤ 1500000) :
    ∃ W' : List (Nat × Nat), forS t.length (fun k x => P_congr_forest_join_l96 sd t (pz p) k x) (W.map pz) = some (W'.map pz) ∧ W'.length ≤ W.length + 2 * n ∧
      ∀ q, q ∈ W' ↔ q ∈ W ∨ ∃ s, s < n ∧ ((sd ≠ 2 ∧ q = (T s p.1, T s p.2)) ∨ (sd ≠ 1 ∧ q = (T p.1 s, T p.2 s))) := by
  have h400 := h.le
  obtain ⟨y, hy, W', rfl, h1, h2⟩ := forS_inv (n := t.length) (f := fun k x => P_congr_forest_join_l96 sd t (pz p) k x) (x := W.map pz)
    (fun k X => ∃ W' : List (Nat × Nat), X = W'.map pz ∧ W'.length ≤ W.length + 2 * k ∧ ∀ q, q ∈ W' ↔ q ∈ W ∨ ∃ s, s < k ∧ ((sd ≠ 2 ∧ q = (T s p.1, T s p.2)) ∨ (sd ≠ 1 ∧ q = (T p.1 s, T p.2 s))))
    ⟨W, rfl, by omega, fun q => by simp⟩ (by
      rintro k _ hk ⟨W', rfl, h1, h2⟩
      have hk' : k < n := by rw [← h.len]; exact hk
      unfold P_congr_forest_join_l96 pz
      rw [h.gi1 hk', h.gi1 hp.1, h.gi1 hp.2]
      simp only [Option.bind_some]
      rw [h.gi2 hk' hp.1, h.gi2 hk' hp.2, h.gi2 hp.1 hk', h.gi2 hp.2 hk']
      simp only [Option.bind_some]
      have pu : ∀ (V : List (Nat × Nat)) (a b : Nat), V.length ≤ 2000000 → pus 16 (V.map pz) [((a : Int), (b : Int))] = some ((V ++ [(a, b)]).map pz) := fun V a b hV => by
        rw [pus_ok (by simp; omega) (by omega)]; simp [pz]
      have fin : ∀ V : List (Nat × Nat), V.length ≤ W'.length + 2 → (∀ q, q ∈ V ↔ q ∈ W' ∨ ((sd ≠ 2 ∧ q = (T k p.1, T k p.2)) ∨ (sd ≠ 1 ∧ q = (T p.1 k, T p.2 k)))) →
          ∃ V' : List (Nat × Nat), V.map pz = V'.map pz ∧ V'.length ≤ W.length + 2 * (k + 1) ∧ ∀ q, q ∈ V' ↔ q ∈ W ∨ ∃ s, s < k + 1 ∧ ((sd ≠ 2 ∧ q = (T s p.1, T s p.2)) ∨ (sd ≠ 1 ∧ q = (T p.1 s, T p.2 s))) := fun V hl hV => by
        refine ⟨V, rfl, by omega, fun q => ?_⟩
        rw [hV, h2]
        constructor
        · rintro ((a | ⟨s, a, b⟩) | a)
          · exact .inl a
          · exact .inr ⟨s, by omega, b⟩
          · exact .inr ⟨k, by omega, a⟩
        · rintro (a | ⟨s, a, b⟩)
          · exact .inl (.inl a)
          · rcases Nat.lt_or_ge s k with h5 | h5
            · exact .inl (.inr ⟨s, h5, b⟩)
            · have : s = k := by omega
              subst this; exact .inr b
      change ∃ y, (if !decide (sd = 2) then Option.bind (pus 16 (W'.map pz) [((T k p.1 : Int), (T k p.2 : Int))]) _ else if !decide (sd = 1) then Option.bind (pus 16 (W'.map pz) [((T p.1 k : Int), (T p.2 k : Int))]) _ else _) = some y ∧ _
      by_cases s2 : sd = 2
      · have s1 : ¬ sd = 1 := by omega
        rw [show (!decide (sd = 2)) = false by simp [s2], show (!decide (sd = 1)) = true by simp [s1]]
        simp only [Bool.false_eq_true, if_false, if_true]
        rw [pu _ _ _ (by omega)]
        refine ⟨_, rfl, fin _ (by simp) fun q => ?_⟩
        simp [s2]
      · by_cases s1 : sd = 1
        · rw [show (!decide (sd = 2)) = true by simp [s2], show (!decide (sd = 1)) = false by simp [s1]]
          simp only [Bool.false_eq_true, if_false, if_true]
          rw [pu _ _ _ (by omega)]
          refine ⟨_, rfl, fin _ (by simp) fun q => ?_⟩
          simp [s1]
        · simp only [s2, s1, Option.bind_some, Option.bind_none, decide_true, decide_false, Bool.not_true, Bool.not_false, Bool.true_and, Bool.and_true, Bool.false_eq_true, if_true, if_false, not_true_eq_false, not_false_eq_true, ite_true, ite_false, Bool.not_eq_true, decide_eq_true_eq, decide_eq_false_iff_not, Bool.not_eq_true', Bool.not_eq_false', Option.getD_some, Option.getD_none, Option.isSome_some, Option.isSome_none, Option.isNone_some, Option.isNone_none, eq_self, forall_const, true_implies, false_implies, implies_true]
          rw [pu _ _ _ (by omega)]
          simp only [Option.bind_some]
          rw [pu _ _ _ (by simp; omega)]
          refine ⟨_, rfl, fin _ (by simp) fun q => ?_⟩
          simp [s1, s2, or_assoc])
  exact ⟨W', hy, by rw [← h.len]; exact h1, by rw [← h.len]; exact h2⟩

theorem join {t : List (List Int)} {n : Nat} {T : Nat → Nat → Nat} {sd : Int} (h : Tab t n T) {f : List Int} {P0 W0 : List (Nat × Nat)} (hr : RootL n f) (hj : JI n T sd P0 f W0) (hW0 : W0.length ≤ 1000000) :
    ∃ R, P_congr_forest_join f t sd (W0.map pz) = some R ∧ RootL n R ∧ JI n T sd P0 R [] := by
  have h400 := h.le
  have key : ∃ y, loopO (fun x => P_congr_forest_join_l1 sd t x.1 x.2) (W0.map pz, f) = some y ∧ ∃ q : List (Int × Int) × List Int, y = .inl q ∧ RootL n q.2 ∧ JI n T sd P0 q.2 [] := by
    refine loop_inv (fun q : List (Int × Int) × List Int => ∃ W : List (Nat × Nat), q.1 = W.map pz ∧ RootL n q.2 ∧ JI n T sd P0 q.2 W ∧ (2 * n + 1) * cls n q.2 + W.length ≤ 1400000)
      (fun q => (2 * n + 1) * cls n q.2 + q.1.length) _ ⟨W0, rfl, hr, hj, ?_⟩ ?_
    · have : (2 * n + 1) * cls n f ≤ 801 * 400 := Nat.mul_le_mul (by omega) (Nat.le_trans (cls_le _ _) h400)
      dsimp only; omega
    · rintro ⟨_, R⟩ ⟨W, rfl, hr, hj, hb⟩
      dsimp only at hr hj hb ⊢
      unfold P_congr_forest_join_l1
      rcases List.eq_nil_or_concat W with rfl | ⟨W1, p, rfl⟩
      · exact .inr (.inl ⟨(([] : List (Int × Int)), R), by simp, _, rfl, hr, hj⟩)
      · rw [List.concat_eq_append] at *
        have hp := hj.lt p (by simp)
        have hlen : ((W1 ++ [p]).map pz).length = W1.length + 1 := by simp
        have hw : w64 ((((W1 ++ [p]).map pz).length : Int) - 1) = ((W1.map pz).length : Int) := by
          rw [hlen, w64_id (by omega) (by simp at hb; omega)]; simp
        have h0 : decide ((0 : Int) < (((W1 ++ [p]).map pz).length : Int)) = true := by rw [hlen]; simp
        have g0 : gi ((W1 ++ [p]).map pz) ((W1.map pz).length : Int) = some (pz p) := by
          unfold gi; rw [if_pos (by omega)]; simp
        have s0 : sub ((W1 ++ [p]).map pz) none (some ((W1.map pz).length : Int)) = some (W1.map pz) := by
          rw [List.map_append]; exact sub_to rfl
        rw [if_pos h0, hw, g0]
        simp only [Option.bind_some]
        rw [s0]
        simp only [Option.bind_some]
        obtain ⟨r1, hr1, e1, f1⟩ := hr.2 p.1 hp.1
        obtain ⟨r2, hr2, e2, f2⟩ := hr.2 p.2 hp.2
        have gf : ∀ x : Nat, x < n → P_congr_forest_findF R (x : Int) = some (R.getD x 0) := fun x hx => gi_lt 0 (by rw [hr.1]; exact hx)
        have a1 : P_congr_forest_findF R (pz p).1 = some (r1 : Int) := by rw [← e1]; exact gf p.1 hp.1
        have a2 : P_congr_forest_findF R (pz p).2 = some (r2 : Int) := by rw [← e2]; exact gf p.2 hp.2
        rw [a1, a2]
        simp only [Option.bind_some]
        by_cases e : r1 = r2
        · subst e
          rw [if_pos (by simp)]
          refine .inl ⟨_, rfl, ⟨W1, rfl, hr, hj.drop (by rw [e1, e2]), by simp at hb; dsimp only; omega⟩, by simp⟩
        · rw [if_neg (by simp only [decide_eq_true_eq]; omega)]
          have hfs : fset R (r1 : Int) (r2 : Int) = some (mrg R (R.getD p.2 0) (R.getD p.1 0)) := by
            unfold fset
            rw [if_pos ⟨by rw [gi_lt 0 (by rw [hr.1]; exact hr1), f1], by rw [gi_lt 0 (by rw [hr.1]; exact hr2), f2]⟩, e1, e2]
            rfl
          rw [hfs]
          simp only [Option.bind_some]
          simp only [List.length_append, List.length_singleton] at hb
          obtain ⟨W', hW', hl', hm'⟩ := join_step (sd := sd) h hp W1 (by omega)
          rw [hW']
          have hcl := cls_mrg (n := n) (L := R) (i := p.2) (j := p.1) hr.1 hp.2 hp.1 (by rw [e1, e2]; omega)
          have hmul : (2 * n + 1) * (cls n (mrg R (R.getD p.2 0) (R.getD p.1 0)) + 1) ≤ (2 * n + 1) * cls n R := Nat.mul_le_mul_left _ hcl
          rw [Nat.mul_add, Nat.mul_one] at hmul
          refine .inl ⟨_, rfl, ⟨W', rfl, ⟨by simp [hr.1], fun x hx => ?_⟩, hj.union (fun x y hx hy => h.lt x y hx hy) (by simp [hr.1]) (fun z hz => by rw [mrg_at (by rw [hr.1]; exact hz)]) hm', by dsimp only; omega⟩, by simp only [List.length_map, List.length_append, List.length_singleton]; omega⟩
          obtain ⟨r, q1, q2, q3⟩ := hr.2 x hx
          rw [mrg_at (by rw [hr.1]; exact hx), e1, e2, q2]
          by_cases e3 : (r : Int) = r1
          · rw [if_pos e3]
            exact ⟨r2, hr2, rfl, by rw [mrg_at (by rw [hr.1]; exact hr2), f2, if_neg (by omega)]⟩
          · rw [if_neg e3]
            exact ⟨r, q1, rfl, by rw [mrg_at (by rw [hr.1]; exact q1), q3, if_neg e3]⟩
  obtain ⟨y, hy, q, rfl, h1, h2⟩ := key
  unfold P_congr_forest_join
  rw [hy]
  exact ⟨q.2, rfl, h1, h2⟩

theorem list_fill {n : Nat} {f : Nat → List Int → Option (List Int)} {R : List Int} (hR : R.length = n) (hf : ∀ k (X : List Int), k < n → X.length = n → f k X = some (X.set k (R.getD k 0))) : forS n f (List.replicate n 0) = some R := by
  rw [fill_loop 0 (by simp) hf, ← hR]
  congr 1
  exact tab_of.symm
theorem forest_partition {R : List Int} {n : Nat} (hR : R.length = n) (hn : n ≤ 4096) : P_congr_forest_partition R = some (canonI R) := by
  unfold P_congr_forest_partition
  rw [hR, mkz_ok (by omega) (by omega)]
  simp only [Option.bind_some, List.length_replicate]
  rw [list_fill hR fun k X hk hX => by
    unfold P_congr_forest_partition_l14
    have : P_congr_forest_findF R (k : Int) = some (R.getD k 0) := gi_lt 0 (by omega)
    rw [this]; simp only [Option.bind_some]
    rw [si_lt (by omega)]; rfl]
  simp only [Option.bind_some]
  rw [canonical _ (by omega)]; rfl

theorem iota_inj {n x y : Nat} (hx : x < n) (hy : y < n) (e : (iota n).getD x 0 = (iota n).getD y 0) : x = y := by
  unfold iota at e; rw [tab_getD hx, tab_getD hy] at e; omega
theorem iota_root (n : Nat) : RootL n (iota n) := ⟨by simp [iota], fun x hx => ⟨x, hx, by unfold iota; rw [tab_getD hx], by unfold iota; rw [tab_getD hx]⟩⟩
theorem iota_fnew (n : Nat) : fnew (iota n) = some (iota n) := by
  unfold fnew
  rw [if_pos]
  simp [iota, tab]
theorem generated {t : List (List Int)} {n : Nat} {T : Nat → Nat → Nat} {sd : Int} (h : Tab t n T) {P0 : List (Nat × Nat)} (hP : ∀ p ∈ P0, p.1 < n ∧ p.2 < n) (hl : P0.length ≤ 1000000) :
    ∃ r, P_congr_generated t (P0.map pz) sd = some r ∧ IsP n (Gen n T sd P0) r := by
  have h400 := h.le
  unfold P_congr_generated
  rw [h.len, discrete' (by omega)]
  simp only [Option.bind_some]
  rw [pus_ok (by simp; omega) (by omega), List.nil_append]
  simp only [Option.bind_some]
  rw [iota_fnew]
  simp only [Option.bind_some]
  obtain ⟨R, h1, h2, h3⟩ := join (sd := sd) h (iota_root n) (JI.start (by simp [iota]) (fun x y hx hy e => by unfold iota at e; rw [tab_getD hx, tab_getD hy] at e; omega) hP) hl
  rw [h1]
  simp only [Option.bind_some]
  rw [forest_partition h2.1 (by omega)]
  exact ⟨_, rfl, IsP.of h2.1 fun x y hx hy => h3.done h.lt hx hy⟩

open Classical in
theorem Generated {t : List (List Int)} {n : Nat} {T : Nat → Nat → Nat} {sd : Int} (h : Sg t n T) (hs : 0 ≤ sd ∧ sd ≤ 2) {P0 : List (Nat × Nat)} (hP : ∀ p ∈ P0, p.1 < n ∧ p.2 < n) (hl : P0.length ≤ 1000000) :
    ∃ r, P_congr_Generated t (P0.map pz) sd = some r ∧ IsP n (Gen n T sd P0) r := by
  unfold P_congr_Generated
  rw [validate, h.valid]
  have a1 : ¬ sd < 0 := by omega
  have a2 : ¬ 2 < sd := by omega
  simp only [a1, a2, Option.bind_some, Option.bind_none, decide_true, decide_false, Bool.not_true, Bool.not_false, Bool.true_and, Bool.and_true, Bool.false_eq_true, if_true, if_false, not_true_eq_false, not_false_eq_true, ite_true, ite_false, Bool.not_eq_true, decide_eq_true_eq, decide_eq_false_iff_not, Bool.not_eq_true', Bool.not_eq_false', Option.getD_some, Option.getD_none, Option.isSome_some, Option.isSome_none, Option.isNone_some, Option.isNone_none, eq_self, forall_const, true_implies, false_implies, implies_true]
  rw [look_const (ok := fun _ => True) (b := []) fun k hk => by
    unfold P_congr_Generated_l13
    rw [gi_lt (0, 0) hk]
    have hm := hP (P0.getD k (0, 0)) (getD_mem (by simpa using hk))
    have e : (P0.map pz).getD k (0, 0) = pz (P0.getD k (0, 0)) := by
      have : k < P0.length := by simpa using hk
      simp [List.getD_eq_getElem?_getD, this]
    rw [e]
    have b1 : ¬ (pz (P0.getD k (0, 0))).1 < 0 := by simp [pz]
    have b2 : ¬ (pz (P0.getD k (0, 0))).2 < 0 := by simp [pz]
    have b3 : ¬ (t.length : Int) ≤ (pz (P0.getD k (0, 0))).1 := by rw [h.len]; simp only [pz]; omega
    have b4 : ¬ (t.length : Int) ≤ (pz (P0.getD k (0, 0))).2 := by rw [h.len]; simp only [pz]; omega
    simp only [b1, b2, b3, b4, Option.bind_some, Option.bind_none, decide_true, decide_false, Bool.not_true, Bool.not_false, Bool.true_and, Bool.and_true, Bool.false_eq_true, if_true, if_false, not_true_eq_false, not_false_eq_true, ite_true, ite_false, Bool.not_eq_true, decide_eq_true_eq, decide_eq_false_iff_not, Bool.not_eq_true', Bool.not_eq_false', Option.getD_some, Option.getD_none, Option.isSome_some, Option.isSome_none, Option.isNone_some, Option.isNone_none, eq_self, forall_const, true_implies, false_implies, implies_true]]
  rw [if_pos (fun _ _ => trivial)]
  obtain ⟨r, h1, h2⟩ := generated (sd := sd) h.toTab hP hl
  simp only [Option.bind_some]
  rw [h1]
  exact ⟨r, rfl, h2⟩

structure Lab (n : Nat) (T : Nat → Nat → Nat) (sd : Int) (P0 : List (Nat × Nat)) (L : List Int) : Prop where
  len : L.length = n
  sound : ∀ θ, Cgr n T sd θ → (∀ p ∈ P0, θ p.1 p.2) → ∀ x y, x < n → y < n → L.getD x 0 = L.getD y 0 → θ x y
section
variable {n : Nat} {T : Nat → Nat → Nat} {sd : Int} {P0 : List (Nat × Nat)}
end

structure Rnd (n : Nat) (T : Nat → Nat → Nat) (sd : Int) (P0 : List (Nat × Nat)) (L0 : List Int) (ch : Bool) (L : List Int) : Prop where
  lab : Lab n T sd P0 L
  has : ∀ p ∈ P0, L.getD p.1 0 = L.getD p.2 0
  less : ch = true → cls n L < cls n L0
  same : ch = false → L = L0
end Go.Proofs.Ytmdpejgnkoneoaa.Mt
namespace Go.AM.Lx

def lexB : List Int → List Int → Bool
  | [], [] => false
  | [], _ :: _ => true
  | _ :: _, [] => false
  | x :: a, y :: b => if x = y then lexB a b else decide (x < y)
end Go.AM.Lx
set_option maxRecDepth 100000
set_option maxHeartbeats 4000000
namespace Go.Proofs.Ytmdpejgnkoneoaa.Pu
open Go Go.AM Go.Proofs.Ytmdpejgnkoneoaa.Code

noncomputable def P_semigroupref03_Less_l1 (a : List Int) (b_ : List Int) (x2 : Int) : Option (Lp (Int) (Bool)) :=
 Option.bind (
  if decide (x2 < (a.length : Int)) then
   some (decide (x2 < (b_.length : Int)))
  else
   some false) fun z11 =>
 if z11 then
  Option.bind (gi a x2) fun x19 =>
  Option.bind (gi b_ x2) fun x26 =>
  if !decide (x19 = x26) then
   some (.ex (decide (x19 < x26)))
  else
   some (.go (w64 (x2 + 1)))
 else
  some (.br x2)
noncomputable def P_semigroupref03_Less (a : List Int) (b_ : List Int) : Option (Bool) :=
 Option.bind (loopO (fun x => P_semigroupref03_Less_l1 a b_ x) 0) fun z7 =>
 match z7 with
 | .inl x34 =>
  some (decide ((a.length : Int) < (b_.length : Int)))
 | .inr b => some b
end Go.Proofs.Ytmdpejgnkoneoaa.Pu
set_option maxRecDepth 100000
set_option maxHeartbeats 4000000
namespace Go.Proofs.Ytmdpejgnkoneoaa.Pu
open Go Go.AM Go.Proofs.Ytmdpejgnkoneoaa.Code

end Go.Proofs.Ytmdpejgnkoneoaa.Pu
namespace Go.Proofs.Ytmdpejgnkoneoaa.Mt
open Go Go.AM Go.AM.Par Go.AM.Lx Go.Proofs.Ytmdpejgnkoneoaa.Pu

theorem drop_cons {L : List Int} {k : Nat} (h : k < L.length) : L.drop k = L.getD k 0 :: L.drop (k + 1) := drop_getD h
theorem less (a b : List Int) (ha : a.length ≤ 1000000000) : P_semigroupref03_Less a b = some (lexB a b) := by
  have key : ∃ y, loopO (fun x => P_semigroupref03_Less_l1 a b x) 0 = some y ∧ (match y with | .inl _ => decide ((a.length : Int) < (b.length : Int)) = lexB a b | .inr r => r = lexB a b) := by
    refine loop_inv (fun x : Int => ∃ k : Nat, x = k ∧ k ≤ a.length ∧ k ≤ b.length ∧ lexB a b = lexB (a.drop k) (b.drop k)) (fun x => a.length - x.toNat) _ ⟨0, rfl, Nat.zero_le _, Nat.zero_le _, rfl⟩ ?_
    rintro _ ⟨k, rfl, h1, h2, h3⟩
    unfold P_semigroupref03_Less_l1
    by_cases c1 : k < a.length
    · by_cases c2 : k < b.length
      · rw [if_pos (by simp only [decide_eq_true_eq]; omega)]
        simp only [Option.bind_some]
        rw [if_pos (by simp only [decide_eq_true_eq]; omega), gi_lt 0 c1, gi_lt 0 c2]
        simp only [Option.bind_some]
        rw [drop_cons c1, drop_cons c2] at h3
        simp only [lexB] at h3
        by_cases e : a.getD k 0 = b.getD k 0
        · rw [if_pos e] at h3
          rw [if_neg (by simp only [e, decide_true]; decide)]
          have hw : w64 ((k : Int) + 1) = ((k + 1 : Nat) : Int) := by rw [w64_id (by omega) (by omega)]; simp
          refine .inl ⟨_, rfl, ⟨k + 1, hw, by omega, by omega, h3⟩, by rw [hw]; simp; omega⟩
        · rw [if_neg e] at h3
          rw [if_pos (by simp only [e, decide_false]; rfl)]
          exact .inr (.inr ⟨_, rfl, h3.symm⟩)
      · have : b.drop k = [] := List.drop_eq_nil_of_le (by omega)
        rw [if_pos (by simp only [decide_eq_true_eq]; omega)]
        simp only [Option.bind_some]
        rw [if_neg (by simp only [decide_eq_true_eq]; omega)]
        refine .inr (.inl ⟨_, rfl, ?_⟩)
        rw [h3, this, drop_cons c1]
        simp only [lexB, decide_eq_false_iff_not]; omega
    · have e1 : a.drop k = [] := List.drop_eq_nil_of_le (by omega)
      rw [if_neg (by simp only [decide_eq_true_eq]; omega)]
      simp only [Option.bind_some, Bool.false_eq_true, if_false]
      refine .inr (.inl ⟨_, rfl, ?_⟩)
      rw [h3, e1]
      by_cases c2 : k < b.length
      · rw [drop_cons c2]; simp only [lexB, decide_eq_true_eq]; omega
      · rw [List.drop_eq_nil_of_le (Nat.le_of_not_lt c2)]; simp only [lexB, decide_eq_false_iff_not]; omega
  obtain ⟨y, hy, hQ⟩ := key
  unfold P_semigroupref03_Less
  rw [hy]
  cases y with
  | inl x => simp only [Option.bind_some]; rw [show _ = _ from hQ]
  | inr r => simp only [Option.bind_some]; rw [show r = _ from hQ]

end Go.Proofs.Ytmdpejgnkoneoaa.Mt
set_option maxRecDepth 100000
set_option maxHeartbeats 4000000
namespace Go.Proofs.Ytmdpejgnkoneoaa.Pu
open Go Go.AM Go.Proofs.Ytmdpejgnkoneoaa.Code

noncomputable def P_subdirect_monolith_l24 (k13 : Nat) (t : List (List Int)) (p32 : List Int) (x33 : Int) : Option (Lp ((List Int) × Int) ((Option (List Int)))) :=
 if decide (x33 < (k13 : Int)) then
  Option.bind (P_congr_Generated t [(x33, (k13 : Int))] 0) fun r51 =>
  Option.bind (P_partition_Meet p32 r51) fun r61 =>
  Option.bind (P_subdirect_discrete r61) fun r68 =>
  if r68 then
   some (.ex none)
  else
   some (.go (r61, w64 (x33 + 1)))
 else
  some (.br (p32, x33))
noncomputable def P_subdirect_monolith_l11 (t : List (List Int)) (k13 : Nat) (x12 : List Int) : Option (Lp ((List Int)) ((Option (List Int)))) :=
 Option.bind (loopO (fun x => P_subdirect_monolith_l24 k13 t x.1 x.2) (x12, 0)) fun z30 =>
 match z30 with
 | .inl x77 =>
  some (.go x77.1)
 | .inr b => some (.ex b)
noncomputable def P_subdirect_monolith (t : List (List Int)) : Option ((Option (List Int))) :=
 if decide ((t.length : Int) < 2) then
  some none
 else
  Option.bind (P_partition_Trivial (t.length : Int)) fun r4 =>
  Option.bind (forR t.length (fun k x => P_subdirect_monolith_l11 t k x) r4) fun z17 =>
  match z17 with
  | .inl x82 =>
   Option.bind (nzl x82) fun x87 =>
   some (some x87)
  | .inr b => some b
theorem R_subdirect_monolith {G : List Frag} {W H : AH} {v_0 : AV} {t : List (List Int)} (hst : St G W H) (h_0 : Rp.rv W v_0 t) {r : (Option (List Int))} (hp : P_subdirect_monolith t = some r) :
  wpc E0 N_subdirect_monolith [v_0] H fun rv H' => ∃ W', Wle W W' ∧ St G W' H' ∧ Rp.rv W' rv (r : Option (List Int)) := by
 refine enterN (F := f_subdirect_monolith) rfl (Nat.le_of_ble_eq_true rfl) fun s hl hg => ?_;replace hl : s.length = 34 := hl;have g0 : gt s 0 = v_0 := hg 0 (Nat.le_of_ble_eq_true rfl);clear hg;unfold P_subdirect_monolith at hp;show wp E0 c_subdirect_monolith s H _;unfold c_subdirect_monolith;refine AM.wp_seq hp0 (AM.wp_reg hp0 ?_);refine wpo_seg hp0 1 (fun s H' => s.length = 34 ∧ gt s 0 = v_0 ∧ H = H') (by simp only [↓runs, isCall, ↓reduceIte, ↓gd_true, ↓gd_false, evs, AV.cells, Nat.reduceEqDiff, Nat.reduceLT, reduceCtorEq, Nat.reduceAdd, sy, g0, hl]) ?_;rintro s _ ⟨hl, g0, rfl⟩;refine wpo_nil (then_n ?_);refine AM.wp_seq hp0 (AM.wp_seq hp0 (AM.wp_reg hp0 ?_));have f1 := fz_ln h_0;refine wpo_seg hp0 3 (fun s H' => s.length = 34 ∧ gt s 0 = v_0 ∧ gt s 8 = .bool (decide ((t.length : Int) < 2)) ∧ H = H') (by simp only [↓runs, isCall, ↓reduceIte, ↓gd_true, ↓gd_false, evs, AV.cells, Nat.reduceEqDiff, Nat.reduceLT, reduceCtorEq, Nat.reduceAdd, sy, f1, g0, hl]) ?_;rintro s _ ⟨hl, g0, g8, rfl⟩;refine wpo_nil (then_n ?_);rcases Bool.eq_false_or_eq_true (decide ((t.length : Int) < 2)) with c2 | c2
 ·replace hp := ifT c2 hp;refine AM.wp_condT (by simp only [ev_t, ev_c, g8, c2]) ?_;refine AM.wp_seq hp0 (AM.wp_reg hp0 ?_);refine wpo_seg hp0 1 (fun s H' => s.length = 34 ∧ gt s 2 = .nils ∧ H = H') (by simp only [↓runs, isCall, ↓reduceIte, ↓gd_true, ↓gd_false, evs, AV.cells, Nat.reduceEqDiff, Nat.reduceLT, reduceCtorEq, Nat.reduceAdd, sy, g0, g8, hl]) ?_;rintro s _ ⟨hl, g2, rfl⟩;refine wpo_nil (then_n ?_);refine AM.wp_ret ?_;refine then_r ?_;obtain rfl := Option.some.inj hp;refine body_ret (vs := [.nils]) (by simp only [rvs, f_subdirect_monolith, Option.map_some, g2]) ?_;exact ⟨W, .refl _, hst, (nl_none _)⟩
 ·replace hp := ifF c2 hp;refine AM.wp_condF (by simp only [ev_t, ev_c, g8, c2]) ?_;refine AM.wp_skip ?_;refine then_n ?_;refine AM.wp_seq hp0 (AM.wp_reg hp0 ?_);have f3 := fz_ln h_0;refine wpo_seg hp0 2 (fun s H' => s.length = 34 ∧ gt s 0 = v_0 ∧ gt s 10 = .int .i64 (t.length : Int) ∧ H = H') (by simp only [↓runs, isCall, ↓reduceIte, ↓gd_true, ↓gd_false, evs, AV.cells, Nat.reduceEqDiff, Nat.reduceLT, reduceCtorEq, Nat.reduceAdd, sy, f3, g0, g8, hl]) ?_;rintro s _ ⟨hl, g0, g10, rfl⟩;obtain ⟨r4, e5, hp⟩ := bn hp;refine wpo_callK hp0 rfl (ys := [.int .i64 (t.length : Int)]) (by simp only [evs, List.map_cons, List.map_nil, ev_t, ev_c, g10]) (R_partition_Trivial hst e5) ?_;rintro rv6 H ⟨W, w7, fg8, hst, o9⟩;replace h_0 := Rp.mono w7 h_0;refine wpo_seg hp0 1 (fun s H' => s.length = 34 ∧ gt s 0 = v_0 ∧ gt s 3 = rv6 ∧ H = H') (by simp only [↓runs, isCall, ↓reduceIte, ↓gd_true, ↓gd_false, evs, AV.cells, Nat.reduceEqDiff, Nat.reduceLT, reduceCtorEq, Nat.reduceAdd, sy, gt_other, g0, g10, hl]) ?_;rintro s _ ⟨hl, g0, g3, rfl⟩;refine wpo_nil (then_n ?_);refine AM.wp_seq hp0 (AM.wp_seq hp0 (AM.wp_reg hp0 ?_));have f10 := fz_ln h_0;refine wpo_seg hp0 3 (fun s H' => s.length = 34 ∧ gt s 0 = v_0 ∧ gt s 3 = rv6 ∧ gt s 13 = .int .i64 (t.length : Int) ∧ gt s 14 = .int .i64 0 ∧ H = H') (by simp only [↓runs, isCall, ↓reduceIte, ↓gd_true, ↓gd_false, evs, AV.cells, Nat.reduceEqDiff, Nat.reduceLT, reduceCtorEq, Nat.reduceAdd, sy, f10, g0, g3, hl]) ?_;rintro s _ ⟨hl, g0, g3, g13, g14, rfl⟩;refine wpo_nil (then_n ?_);obtain ⟨z17, e18, hp⟩ := bn hp;refine range_ref hp0 34 t.length (fun k x => P_subdirect_monolith_l11 t k x) (fun _ x s H' => ∃ (W' : AH) (w3 : AV) (q3 : Frag), s.length = 34 ∧ gt s 3 = w3 ∧ gt s 0 = v_0 ∧  Wle W W' ∧ St (q3 :: G) W' H' ∧ OwS W' w3 q3 (x : List Int)) (fun _ x s H' => ∃ (W' : AH) (w3 : AV) (q3 : Frag), s.length = 34 ∧ gt s 3 = w3 ∧  Wle W W' ∧ St (q3 :: G) W' H' ∧ OwS W' w3 q3 (x : List Int)) e18 (fz_big h_0) rfl ?_ ?_ hl g14 g13 ?_ ?_
  ·intro k x s H d v hd h; rcases hd with rfl | rfl | rfl <;> simpa only [gt_other, pt_length, Nat.reduceEqDiff, not_false_eq_true] using h
  ·exact ⟨W, _, _, hl, g3, g0, .refl _, hst, o9⟩
  ·intro k13 x12 y14 s H hk hI hl g14 g13 hy15 hx16;change P_subdirect_monolith_l11 t k13 x12 = some y14 at hy15;unfold P_subdirect_monolith_l11 at hy15;obtain ⟨W, v21, fg22, hl, g3, g0, w20, hst, o23⟩ := hI;replace h_0 := Rp.mono w20 h_0;refine AM.wp_seq hp0 (AM.wp_reg hp0 ?_);refine wpo_seg hp0 2 (fun s H' => s.length = 34 ∧ gt s 0 = v_0 ∧ gt s 3 = v21 ∧ gt s 4 = .int .i64 (k13 : Int) ∧ gt s 13 = .int .i64 (t.length : Int) ∧ gt s 14 = .int .i64 (k13 : Int) ∧ H = H') (by simp only [↓runs, isCall, ↓reduceIte, ↓gd_true, ↓gd_false, evs, AV.cells, Nat.reduceEqDiff, Nat.reduceLT, reduceCtorEq, Nat.reduceAdd, sy, g0, g3, g13, g14, hl]) ?_;rintro s _ ⟨hl, g0, g3, g4, g13, g14, rfl⟩;refine wpo_nil (then_n ?_);refine AM.wp_seq hp0 (AM.wp_reg hp0 ?_);refine wpo_seg hp0 1 (fun s H' => s.length = 34 ∧ gt s 0 = v_0 ∧ gt s 3 = v21 ∧ gt s 4 = .int .i64 (k13 : Int) ∧ gt s 5 = .int .i64 0 ∧ gt s 13 = .int .i64 (t.length : Int) ∧ gt s 14 = .int .i64 (k13 : Int) ∧ H = H') (by simp only [↓runs, isCall, ↓reduceIte, ↓gd_true, ↓gd_false, evs, AV.cells, Nat.reduceEqDiff, Nat.reduceLT, reduceCtorEq, Nat.reduceAdd, sy, g0, g3, g4, g13, g14, hl]) ?_;rintro s _ ⟨hl, g0, g3, g4, g5, g13, g14, rfl⟩;refine wpo_nil (then_n ?_);obtain ⟨z30, e31, hy15⟩ := bn hy15;refine loop_ref hp0 (fun x => P_subdirect_monolith_l24 k13 t x.1 x.2) (fun x s H' => ∃ (W' : AH) (w3 : AV) (q3 : Frag), s.length = 34 ∧ gt s 3 = w3 ∧ gt s 5 = .int .i64 x.2 ∧ gt s 0 = v_0 ∧ gt s 4 = .int .i64 (k13 : Int) ∧ gt s 13 = .int .i64 (t.length : Int) ∧ gt s 14 = .int .i64 (k13 : Int) ∧  Wle W W' ∧ St (q3 :: G) W' H' ∧ OwS W' w3 q3 (x.1 : List Int)) (fun x s H' => ∃ (W' : AH) (w3 : AV) (q3 : Frag), s.length = 34 ∧ gt s 3 = w3 ∧ gt s 0 = v_0 ∧ gt s 13 = .int .i64 (t.length : Int) ∧ gt s 14 = .int .i64 (k13 : Int) ∧  Wle W W' ∧ St (q3 :: G) W' H' ∧ OwS W' w3 q3 (x.1 : List Int)) e31 ?_ ?_ ?_
   ·exact ⟨W, _, _, hl, g3, g5, g0, g4, g13, g14, .refl _, hst, o23⟩
   ·intro x25 y27 s H hI hy28 hx29;obtain ⟨p32, x33⟩ := x25;dsimp only at hI;change P_subdirect_monolith_l24 k13 t p32 x33 = some y27 at hy28;unfold P_subdirect_monolith_l24 at hy28;obtain ⟨W, v35, fg36, hl, g3, g5, g0, g4, g13, g14, w34, hst, o37⟩ := hI;replace h_0 := Rp.mono w34 h_0;refine AM.wp_seq hp0 (AM.wp_seq hp0 (AM.wp_reg hp0 ?_));refine wpo_seg hp0 3 (fun s H' => s.length = 34 ∧ gt s 0 = v_0 ∧ gt s 3 = v35 ∧ gt s 4 = .int .i64 (k13 : Int) ∧ gt s 5 = .int .i64 x33 ∧ gt s 13 = .int .i64 (t.length : Int) ∧ gt s 14 = .int .i64 (k13 : Int) ∧ gt s 19 = .bool (decide (x33 < (k13 : Int))) ∧ H = H') (by simp only [↓runs, isCall, ↓reduceIte, ↓gd_true, ↓gd_false, evs, AV.cells, Nat.reduceEqDiff, Nat.reduceLT, reduceCtorEq, Nat.reduceAdd, sy, g0, g3, g4, g5, g13, g14, hl]) ?_;rintro s _ ⟨hl, g0, g3, g4, g5, g13, g14, g19, rfl⟩;refine wpo_nil (then_n ?_);rcases Bool.eq_false_or_eq_true (decide (x33 < (k13 : Int))) with c38 | c38
    ·replace hy28 := ifT c38 hy28;refine AM.wp_condT (by simp only [ev_t, ev_c, g19, c38]) ?_;refine AM.wp_skip ?_;refine then_n ?_;refine AM.wp_seq hp0 ?_;refine AM.wp_block ?_;refine AM.wp_seq hp0 (AM.wp_reg hp0 ?_);have f39 : fillA [.int .i64 0, .int .i64 0] [(0, 1, .int .i64 x33), (1, 1, .int .i64 (k13 : Int))] = some [.int .i64 x33, .int .i64 (k13 : Int)] := by simp [fillA, splice, AV.cells]
     obtain ⟨v40, l41, H42, fg43, W, f45, f46, f47, w44, hst, o48⟩ := ow_lit' (n := 2) (k := 1) (z := [.int .i64 0, .int .i64 0]) (ys := [.agg [.int .i64 x33, .int .i64 (k13 : Int)]]) (M := ([(x33, (k13 : Int))] : List (Int × Int))) [(0, 2, .agg [.int .i64 x33, .int .i64 (k13 : Int)])] rfl rfl hst (sc_cons (show Rp.rv _ (.agg [.int .i64 x33, .int .i64 (k13 : Int)]) ((x33, (k13 : Int)) : Int × Int) from (mk_ii _ _ _)) (sc_nil)) ((List.forall_mem_cons.2 ⟨(Rp.cells (show Rp.rv W (.agg [.int .i64 x33, .int .i64 (k13 : Int)]) ((x33, (k13 : Int)) : Int × Int) from (mk_ii _ _ _))), fun _ h => (List.not_mem_nil h).elim⟩)) rfl rfl rfl (by decide);replace h_0 := Rp.mono w44 h_0;replace o37 := o37.mono w44;refine wpo_seg hp0 6 (fun s H' => s.length = 34 ∧ gt s 0 = v_0 ∧ gt s 3 = v35 ∧ gt s 4 = .int .i64 (k13 : Int) ∧ gt s 5 = .int .i64 x33 ∧ gt s 13 = .int .i64 (t.length : Int) ∧ gt s 14 = .int .i64 (k13 : Int) ∧ gt s 22 = v35 ∧ gt s 23 = v_0 ∧ gt s 27 = v40 ∧ H42 = H') (by simp only [↓runs, isCall, ↓reduceIte, ↓gd_true, ↓gd_false, evs, AV.cells, Nat.reduceEqDiff, Nat.reduceLT, reduceCtorEq, Nat.reduceAdd, sy, f39, f45, f46, f47, g0, g3, g4, g5, g13, g14, g19, hl]) ?_;rintro s _ ⟨hl, g0, g3, g4, g5, g13, g14, g22, g23, g27, rfl⟩;obtain ⟨W, w50, hst, h49⟩ := ow_frz hst o48;replace h_0 := Rp.mono w50 h_0;replace o37 := o37.mono w50;obtain ⟨r51, e52, hy28⟩ := bn hy28;refine wpo_callK hp0 rfl (ys := [v_0, v40, .int .i64 0]) (by simp only [evs, List.map_cons, List.map_nil, ev_t, ev_c, g23, g27]) (R_congr_Generated hst h_0 h49 e52) ?_;rintro rv53 H ⟨W, w54, fg55, hst, o56⟩;replace h_0 := Rp.mono w54 h_0;replace h49 := Rp.mono w54 h49;replace o37 := o37.mono w54;refine wpo_seg hp0 0 (fun s H' => s.length = 34 ∧ gt s 0 = v_0 ∧ gt s 3 = v35 ∧ gt s 4 = .int .i64 (k13 : Int) ∧ gt s 5 = .int .i64 x33 ∧ gt s 13 = .int .i64 (t.length : Int) ∧ gt s 14 = .int .i64 (k13 : Int) ∧ gt s 22 = v35 ∧ gt s 28 = rv53 ∧ H = H') (by simp only [↓runs, isCall, ↓reduceIte, ↓gd_true, ↓gd_false, evs, AV.cells, Nat.reduceEqDiff, Nat.reduceLT, reduceCtorEq, Nat.reduceAdd, sy, gt_other, g0, g3, g4, g5, g13, g14, g22, g23, g27, hl]) ?_;rintro s _ ⟨hl, g0, g3, g4, g5, g13, g14, g22, g28, rfl⟩;replace hst := hst.p1;obtain ⟨W, w58, hst, h57⟩ := ow_frz hst o37;replace h_0 := Rp.mono w58 h_0;replace h49 := Rp.mono w58 h49;replace o56 := o56.mono w58;obtain ⟨W, w60, hst, h59⟩ := ow_frz hst o56;replace h_0 := Rp.mono w60 h_0;replace h49 := Rp.mono w60 h49;replace h57 := Rp.mono w60 h57;obtain ⟨r61, e62, hy28⟩ := bn hy28;refine wpo_callK hp0 rfl (ys := [v35, rv53]) (by simp only [evs, List.map_cons, List.map_nil, ev_t, ev_c, g22, g28]) (R_partition_Meet hst h57 h59 e62) ?_;rintro rv63 H ⟨W, w65, fg66, hst, o67⟩;replace h_0 := Rp.mono w65 h_0;replace h49 := Rp.mono w65 h49;replace h57 := Rp.mono w65 h57;replace h59 := Rp.mono w65 h59;refine wpo_seg hp0 1 (fun s H' => s.length = 34 ∧ gt s 0 = v_0 ∧ gt s 3 = rv63 ∧ gt s 4 = .int .i64 (k13 : Int) ∧ gt s 5 = .int .i64 x33 ∧ gt s 13 = .int .i64 (t.length : Int) ∧ gt s 14 = .int .i64 (k13 : Int) ∧ H = H') (by simp only [↓runs, isCall, ↓reduceIte, ↓gd_true, ↓gd_false, evs, AV.cells, Nat.reduceEqDiff, Nat.reduceLT, reduceCtorEq, Nat.reduceAdd, sy, gt_other, g0, g3, g4, g5, g13, g14, g22, g28, hl]) ?_;rintro s _ ⟨hl, g0, g3, g4, g5, g13, g14, rfl⟩;refine wpo_nil (then_n ?_);refine AM.wp_seq hp0 (AM.wp_reg hp0 ?_);refine wpo_seg hp0 1 (fun s H' => s.length = 34 ∧ gt s 0 = v_0 ∧ gt s 3 = rv63 ∧ gt s 4 = .int .i64 (k13 : Int) ∧ gt s 5 = .int .i64 x33 ∧ gt s 13 = .int .i64 (t.length : Int) ∧ gt s 14 = .int .i64 (k13 : Int) ∧ gt s 30 = rv63 ∧ H = H') (by simp only [↓runs, isCall, ↓reduceIte, ↓gd_true, ↓gd_false, evs, AV.cells, Nat.reduceEqDiff, Nat.reduceLT, reduceCtorEq, Nat.reduceAdd, sy, g0, g3, g4, g5, g13, g14, hl]) ?_;rintro s _ ⟨hl, g0, g3, g4, g5, g13, g14, g30, rfl⟩;obtain ⟨r68, e69, hy28⟩ := bn hy28;obtain ⟨W, w70, hst, h71, k72⟩ := ow_lend hst o67;refine wpo_callK hp0 rfl (ys := [rv63]) (by simp only [evs, List.map_cons, List.map_nil, ev_t, ev_c, g30]) (R_subdirect_discrete hst h71 e69) ?_;rintro rv73 H ⟨W, w74, hst, rfl⟩;obtain ⟨W, w75, hst, o67⟩ := k72 _ _ _ w74 hst;replace h_0 := Rp.mono w75 h_0;replace h49 := Rp.mono w75 h49;replace h57 := Rp.mono w75 h57;replace h59 := Rp.mono w75 h59;refine wpo_seg hp0 0 (fun s H' => s.length = 34 ∧ gt s 0 = v_0 ∧ gt s 3 = rv63 ∧ gt s 4 = .int .i64 (k13 : Int) ∧ gt s 5 = .int .i64 x33 ∧ gt s 13 = .int .i64 (t.length : Int) ∧ gt s 14 = .int .i64 (k13 : Int) ∧ gt s 31 = .bool r68 ∧ H = H') (by simp only [↓runs, isCall, ↓reduceIte, ↓gd_true, ↓gd_false, evs, AV.cells, Nat.reduceEqDiff, Nat.reduceLT, reduceCtorEq, Nat.reduceAdd, sy, gt_other, g0, g3, g4, g5, g13, g14, g30, hl]) ?_;rintro s _ ⟨hl, g0, g3, g4, g5, g13, g14, g31, rfl⟩;refine wpo_nil (then_n ?_);rcases Bool.eq_false_or_eq_true (r68) with c76 | c76
     ·replace hy28 := ifT c76 hy28;refine AM.wp_condT (by simp only [ev_t, ev_c, g31, c76]) ?_;refine AM.wp_seq hp0 (AM.wp_reg hp0 ?_);refine wpo_seg hp0 1 (fun s H' => s.length = 34 ∧ gt s 2 = .nils ∧ H = H') (by simp only [↓runs, isCall, ↓reduceIte, ↓gd_true, ↓gd_false, evs, AV.cells, Nat.reduceEqDiff, Nat.reduceLT, reduceCtorEq, Nat.reduceAdd, sy, g0, g3, g4, g5, g13, g14, g31, hl]) ?_;rintro s _ ⟨hl, g2, rfl⟩;refine wpo_nil (then_n ?_);refine AM.wp_ret ?_;refine blk_r ?_;refine then_r ?_;refine then_r (rnd_r ?_);refine rnd_r ?_;refine then_r ?_;obtain rfl := Option.some.inj hy28;have hx := hx29 _ rfl;subst hx;dsimp only at hy15;obtain rfl := Option.some.inj hy15;have hx := hx16 _ rfl;subst hx;dsimp only at hp;obtain rfl := Option.some.inj hp;replace hst := hst.drop;refine body_ret (vs := [.nils]) (by simp only [rvs, f_subdirect_monolith, Option.map_some, g2]) ?_;exact ⟨W, (((((((((w7.trans w20).trans w34).trans w44).trans w50).trans w54).trans w58).trans w60).trans w65).trans w75), hst, (nl_none _)⟩
     ·replace hy28 := ifF c76 hy28;refine AM.wp_condF (by simp only [ev_t, ev_c, g31, c76]) ?_;refine AM.wp_skip ?_;refine blk_n ?_;refine then_n ?_;refine AM.wp_reg hp0 ?_;refine wpo_seg hp0 3 (fun s H' => s.length = 34 ∧ gt s 0 = v_0 ∧ gt s 3 = rv63 ∧ gt s 4 = .int .i64 (k13 : Int) ∧ gt s 5 = .int .i64 (w64 (x33 + 1)) ∧ gt s 13 = .int .i64 (t.length : Int) ∧ gt s 14 = .int .i64 (k13 : Int) ∧ H = H') (by simp only [↓runs, isCall, ↓reduceIte, ↓gd_true, ↓gd_false, evs, AV.cells, Nat.reduceEqDiff, Nat.reduceLT, reduceCtorEq, Nat.reduceAdd, sy, g0, g3, g4, g5, g13, g14, g31, hl]) ?_;rintro s _ ⟨hl, g0, g3, g4, g5, g13, g14, rfl⟩;refine wpo_nil (then_n ?_);obtain rfl := Option.some.inj hy28;exact ⟨_, rfl, ⟨W, _, _, hl, g3, g5, g0, g4, g13, g14, (((((((w34.trans w44).trans w50).trans w54).trans w58).trans w60).trans w65).trans w75), hst, o67⟩⟩
    ·replace hy28 := ifF c38 hy28;refine AM.wp_condF (by simp only [ev_t, ev_c, g19, c38]) ?_;refine AM.wp_exit ?_;refine then_x ?_;refine then_x (rnd_c rfl ?_);obtain rfl := Option.some.inj hy28;exact ⟨_, rfl, ⟨W, _, _, hl, g3, g0, g13, g14, w34, hst, o37⟩⟩
   ·rintro x77 s H hz hI;subst hz;dsimp only at hy15 hI;obtain ⟨W, v79, fg80, hl, g3, g0, g13, g14, w78, hst, o81⟩ := hI;replace h_0 := Rp.mono w78 h_0;refine rnd_n ?_;obtain rfl := Option.some.inj hy15;exact ⟨_, rfl, hl, g14, g13, ⟨W, _, _, hl, g3, g0, (w20.trans w78), hst, o81⟩⟩
  ·rintro x82 s Hn hz hI;replace hI : (fun s H' => ∃ (W' : AH) (w3 : AV) (q3 : Frag), s.length = 34 ∧ gt s 3 = w3 ∧  Wle W W' ∧ St (q3 :: G) W' H' ∧ OwS W' w3 q3 (x82 : List Int)) s Hn := by
    rcases hI with ⟨hI, -⟩ | ⟨_, hI⟩
    ·obtain ⟨W2, v3, q3, hl, g3, g0, w2, hst2, o3⟩ := hI;exact ⟨W2, _, _, hl, g3, w2, hst2, o3⟩
    ·exact hI
   obtain ⟨H, rfl⟩ : ∃ K, K = Hn := ⟨_, rfl⟩;subst hz;dsimp only at hp hI;obtain ⟨W, v84, fg85, hl, g3, w83, hst, o86⟩ := hI;replace h_0 := Rp.mono w83 h_0;refine then_n ?_;refine AM.wp_seq hp0 (AM.wp_reg hp0 ?_);refine wpo_seg hp0 2 (fun s H' => s.length = 34 ∧ gt s 2 = v84 ∧ H = H') (by simp only [↓runs, isCall, ↓reduceIte, ↓gd_true, ↓gd_false, evs, AV.cells, Nat.reduceEqDiff, Nat.reduceLT, reduceCtorEq, Nat.reduceAdd, sy, g3, hl]) ?_;rintro s _ ⟨hl, g2, rfl⟩;refine wpo_nil (then_n ?_);refine AM.wp_ret ?_;obtain ⟨x87, e88, hp⟩ := bn hp;obtain ⟨h89, rfl⟩ := nzl_ok e88;obtain ⟨W, w91, hst, h90⟩ := ow_frz hst o86;obtain rfl := Option.some.inj hp;refine body_ret (vs := [v84]) (by simp only [rvs, f_subdirect_monolith, Option.map_some, g2]) ?_;exact ⟨W, ((w7.trans w83).trans w91), hst, (nl_some h89 h90)⟩

end Go.Proofs.Ytmdpejgnkoneoaa.Pu
set_option maxRecDepth 100000
set_option maxHeartbeats 4000000
namespace Go.Proofs.Ytmdpejgnkoneoaa.Pu
open Go Go.AM Go.Proofs.Ytmdpejgnkoneoaa.Code

noncomputable def P_subdirect_Irreducible (t : List (List Int)) : Option ((List Int) × Bool) :=
 Option.bind (P_mult_Validate t) fun r1 =>
 if !decide (r1 = 0) then
  some ([], false)
 else
  Option.bind (P_subdirect_monolith t) fun r6 =>
  some ((r6.getD []), !r6.isNone)
theorem R_subdirect_Irreducible {G : List Frag} {W H : AH} {v_0 : AV} {t : List (List Int)} (hst : St G W H) (h_0 : Rp.rv W v_0 t) {r : (List Int) × Bool} (hp : P_subdirect_Irreducible t = some r) :
  wpc E0 N_subdirect_Irreducible [v_0] H fun rv H' => ∃ W', Wle W W' ∧ ∃ (v0 : AV), St G W' H' ∧ rv = .tup [v0, .bool r.2] ∧ Rp.rv W' v0 (r.1 : List Int) := by
 refine enterN (F := f_subdirect_Irreducible) rfl (Nat.le_of_ble_eq_true rfl) fun s hl hg => ?_;replace hl : s.length = 13 := hl;have g0 : gt s 0 = v_0 := hg 0 (Nat.le_of_ble_eq_true rfl);clear hg;unfold P_subdirect_Irreducible at hp;show wp E0 c_subdirect_Irreducible s H _;unfold c_subdirect_Irreducible;refine AM.wp_seq hp0 (AM.wp_reg hp0 ?_);refine wpo_seg hp0 2 (fun s H' => s.length = 13 ∧ gt s 0 = v_0 ∧ H = H') (by simp only [↓runs, isCall, ↓reduceIte, ↓gd_true, ↓gd_false, evs, AV.cells, Nat.reduceEqDiff, Nat.reduceLT, reduceCtorEq, Nat.reduceAdd, sy, g0, hl]) ?_;rintro s _ ⟨hl, g0, rfl⟩;refine wpo_nil (then_n ?_);refine AM.wp_seq hp0 (AM.wp_seq hp0 (AM.wp_reg hp0 ?_));refine wpo_seg hp0 1 (fun s H' => s.length = 13 ∧ gt s 0 = v_0 ∧ gt s 5 = v_0 ∧ H = H') (by simp only [↓runs, isCall, ↓reduceIte, ↓gd_true, ↓gd_false, evs, AV.cells, Nat.reduceEqDiff, Nat.reduceLT, reduceCtorEq, Nat.reduceAdd, sy, g0, hl]) ?_;rintro s _ ⟨hl, g0, g5, rfl⟩;obtain ⟨r1, e2, hp⟩ := bn hp;refine wpo_callK hp0 rfl (ys := [v_0]) (by simp only [evs, List.map_cons, List.map_nil, ev_t, ev_c, g5]) (R_mult_Validate hst h_0 e2) ?_;rintro rv3 H ⟨W, w4, hst, rfl⟩;replace h_0 := Rp.mono w4 h_0;refine wpo_seg hp0 1 (fun s H' => s.length = 13 ∧ gt s 0 = v_0 ∧ gt s 7 = .bool (!decide (r1 = 0)) ∧ H = H') (by simp only [↓runs, isCall, ↓reduceIte, ↓gd_true, ↓gd_false, evs, AV.cells, Nat.reduceEqDiff, Nat.reduceLT, reduceCtorEq, Nat.reduceAdd, sy, gt_other, g0, g5, hl]) ?_;rintro s _ ⟨hl, g0, g7, rfl⟩;refine wpo_nil (then_n ?_);rcases Bool.eq_false_or_eq_true (!decide (r1 = 0)) with c5 | c5
 ·replace hp := ifT c5 hp;refine AM.wp_condT (by simp only [ev_t, ev_c, g7, c5]) ?_;refine AM.wp_seq hp0 (AM.wp_reg hp0 ?_);refine wpo_seg hp0 2 (fun s H' => s.length = 13 ∧ gt s 2 = .nils ∧ gt s 3 = .bool false ∧ H = H') (by simp only [↓runs, isCall, ↓reduceIte, ↓gd_true, ↓gd_false, evs, AV.cells, Nat.reduceEqDiff, Nat.reduceLT, reduceCtorEq, Nat.reduceAdd, sy, g0, g7, hl]) ?_;rintro s _ ⟨hl, g2, g3, rfl⟩;refine wpo_nil (then_n ?_);refine AM.wp_ret ?_;refine then_r ?_;obtain rfl := Option.some.inj hp;refine body_ret (vs := [.nils, .bool false]) (by simp only [rvs, f_subdirect_Irreducible, Option.map_some, g2, g3]) ?_;exact ⟨W, w4, _, hst, rfl, (fz_nil _)⟩
 ·replace hp := ifF c5 hp;refine AM.wp_condF (by simp only [ev_t, ev_c, g7, c5]) ?_;refine AM.wp_skip ?_;refine then_n ?_;refine AM.wp_seq hp0 (AM.wp_reg hp0 ?_);refine wpo_seg hp0 1 (fun s H' => s.length = 13 ∧ gt s 8 = v_0 ∧ H = H') (by simp only [↓runs, isCall, ↓reduceIte, ↓gd_true, ↓gd_false, evs, AV.cells, Nat.reduceEqDiff, Nat.reduceLT, reduceCtorEq, Nat.reduceAdd, sy, g0, g7, hl]) ?_;rintro s _ ⟨hl, g8, rfl⟩;obtain ⟨r6, e7, hp⟩ := bn hp;refine wpo_callK hp0 rfl (ys := [v_0]) (by simp only [evs, List.map_cons, List.map_nil, ev_t, ev_c, g8]) (R_subdirect_monolith hst h_0 e7) ?_;rintro rv8 H ⟨W, w9, hst, h10⟩;replace h_0 := Rp.mono w9 h_0;refine wpo_seg hp0 1 (fun s H' => s.length = 13 ∧ gt s 4 = rv8 ∧ H = H') (by simp only [↓runs, isCall, ↓reduceIte, ↓gd_true, ↓gd_false, evs, AV.cells, Nat.reduceEqDiff, Nat.reduceLT, reduceCtorEq, Nat.reduceAdd, sy, gt_other, g8, hl]) ?_;rintro s _ ⟨hl, g4, rfl⟩;refine wpo_nil (then_n ?_);refine AM.wp_seq hp0 (AM.wp_reg hp0 ?_);have f11 := nl_eq h10;refine wpo_seg hp0 5 (fun s H' => s.length = 13 ∧ gt s 2 = rv8 ∧ gt s 3 = .bool (!r6.isNone) ∧ H = H') (by simp only [↓runs, isCall, ↓reduceIte, ↓gd_true, ↓gd_false, evs, AV.cells, Nat.reduceEqDiff, Nat.reduceLT, reduceCtorEq, Nat.reduceAdd, sy, f11, g4, hl]) ?_;rintro s _ ⟨hl, g2, g3, rfl⟩;refine wpo_nil (then_n ?_);refine AM.wp_ret ?_;obtain rfl := Option.some.inj hp;refine body_ret (vs := [rv8, .bool (!r6.isNone)]) (by simp only [rvs, f_subdirect_Irreducible, Option.map_some, g2, g3]) ?_;exact ⟨W, (w4.trans w9), _, hst, rfl, (nl_get h10)⟩

end Go.Proofs.Ytmdpejgnkoneoaa.Pu
set_option maxRecDepth 100000
set_option maxHeartbeats 4000000
namespace Go.Proofs.Ytmdpejgnkoneoaa.Pu
open Go Go.AM Go.Proofs.Ytmdpejgnkoneoaa.Code

end Go.Proofs.Ytmdpejgnkoneoaa.Pu
set_option maxRecDepth 100000
set_option maxHeartbeats 4000000
namespace Go.Proofs.Ytmdpejgnkoneoaa.Pu
open Go Go.AM Go.Proofs.Ytmdpejgnkoneoaa.Code

end Go.Proofs.Ytmdpejgnkoneoaa.Pu
set_option maxRecDepth 100000
set_option maxHeartbeats 4000000
namespace Go.Proofs.Ytmdpejgnkoneoaa.Pu
open Go Go.AM Go.Proofs.Ytmdpejgnkoneoaa.Code

end Go.Proofs.Ytmdpejgnkoneoaa.Pu
namespace Go.Proofs.Ytmdpejgnkoneoaa.Mt
open Go Go.AM Go.AM.Par Go.AM.Cg Go.AM.Lx Go.Proofs.Ytmdpejgnkoneoaa.Pu

def Mon (n : Nat) (T : Nat → Nat → Nat) (u v : Nat) : Prop := ∀ a b, a < n → b < n → a ≠ b → Gen n T 0 [(a, b)] u v
theorem gen_swap {n : Nat} {T : Nat → Nat → Nat} {sd : Int} {a b u v : Nat} (h : Gen n T sd [(a, b)] u v) : Gen n T sd [(b, a)] u v :=
  fun θ hθ h0 => h θ hθ fun p hp => by
    have := h0 (b, a) (by simp)
    simp only [List.mem_singleton] at hp
    subst hp
    exact hθ.symm _ _ this
def MonTo (n : Nat) (T : Nat → Nat → Nat) (k x : Nat) (u v : Nat) : Prop := ∀ a b, (b < k ∨ (b = k ∧ a < x)) → a < b → b < n → Gen n T 0 [(a, b)] u v
theorem monTo_all {n : Nat} {T : Nat → Nat → Nat} {u v : Nat} : MonTo n T n 0 u v ↔ Mon n T u v := by
  constructor
  · intro h a b ha hb hne
    rcases Nat.lt_or_gt_of_ne hne with h5 | h5
    · exact h a b (.inl hb) h5 hb
    · exact gen_swap (h b a (.inl ha) h5 ha)
  · intro h a b _ hab hb
    exact h a b (by omega) hb (by omega)

open Classical in
theorem monolith {t : List (List Int)} {n : Nat} {T : Nat → Nat → Nat} (h : Sg t n T) :
    (P_subdirect_monolith t = some none ∧ (n < 2 ∨ Disc n (Mon n T))) ∨ ∃ p, P_subdirect_monolith t = some (some p) ∧ 2 ≤ n ∧ ¬ Disc n (Mon n T) ∧ IsP n (Mon n T) p := by
  have h400 := h.le
  unfold P_subdirect_monolith
  rw [h.len]
  by_cases hn : n < 2
  · rw [if_pos (by simp only [decide_eq_true_eq]; omega)]
    exact .inl ⟨rfl, .inl hn⟩
  · rw [if_neg (by simp only [decide_eq_true_eq]; omega), trivial' (by omega)]
    simp only [Option.bind_some]
    -- one row
    have row : ∀ k p, k < n → IsP n (MonTo n T k 0) p → ¬ Disc n (MonTo n T k 0) → (P_subdirect_monolith_l11 t k p = some (.ex none) ∧ Disc n (Mon n T)) ∨ ∃ q, P_subdirect_monolith_l11 t k p = some (.go q) ∧ IsP n (MonTo n T (k + 1) 0) q ∧ ¬ Disc n (MonTo n T (k + 1) 0) := fun k p hk hp hd => by
      have key : ∃ o, loopO (fun x => P_subdirect_monolith_l24 k t x.1 x.2) (p, 0) = some o ∧ ((o = .inr none ∧ Disc n (Mon n T)) ∨ ∃ q, o = .inl (q, (k : Int)) ∧ IsP n (MonTo n T (k + 1) 0) q ∧ ¬ Disc n (MonTo n T (k + 1) 0)) := by
        refine loop_inv (fun q : List Int × Int => ∃ x : Nat, q.2 = x ∧ x ≤ k ∧ IsP n (MonTo n T k x) q.1 ∧ ¬ Disc n (MonTo n T k x)) (fun q => k - q.2.toNat) _ ⟨0, rfl, Nat.zero_le _, hp, hd⟩ ?_
        rintro ⟨q, _⟩ ⟨x, rfl, hx, hq, hd⟩
        dsimp only at hq ⊢
        unfold P_subdirect_monolith_l24
        by_cases hxk : x < k
        · rw [if_pos (by simp only [decide_eq_true_eq]; omega)]
          obtain ⟨g, e1, g1⟩ := Generated (sd := 0) h ⟨by omega, by omega⟩ (P0 := [(x, k)]) (fun p hp => by simp only [List.mem_singleton] at hp; subst hp; exact ⟨by omega, hk⟩) (by simp)
          have e1' : P_congr_Generated t [((x : Int), (k : Int))] 0 = some g := e1
          rw [e1']
          simp only [Option.bind_some]
          obtain ⟨m, e2, m1⟩ := meet hq g1 (by omega)
          rw [e2]
          simp only [Option.bind_some]
          have m2 : IsP n (MonTo n T k (x + 1)) m := m1.mono fun u v hu hv => by
            constructor
            · rintro ⟨a1, a2⟩ a b hc hab hb
              by_cases e : b = k ∧ a = x
              · rw [e.1, e.2]; exact a2
              · exact a1 a b (by omega) hab hb
            · intro a1
              exact ⟨fun a b hc hab hb => a1 a b (by omega) hab hb, a1 x k (.inr ⟨rfl, by omega⟩) hxk hk⟩
          rw [discrete m2 (by omega)]
          simp only [Option.bind_some]
          by_cases hdd : Disc n (MonTo n T k (x + 1))
          · rw [decide_eq_true hdd]
            refine .inr (.inr ⟨none, rfl, .inl ⟨rfl, fun u v hu hv huv => hdd u v hu hv fun a b _ hab hb => huv a b (by omega) hb (by omega)⟩⟩)
          · rw [decide_eq_false hdd]
            have hw : w64 ((x : Int) + 1) = ((x + 1 : Nat) : Int) := by rw [w64_id (by omega) (by omega)]; simp
            refine .inl ⟨_, rfl, ⟨x + 1, hw, by omega, m2, hdd⟩, ?_⟩
            simp only [hw, Int.toNat_natCast]; omega
        · have : x = k := by omega
          subst this
          rw [if_neg (by simp only [decide_eq_true_eq]; omega)]
          have e : ∀ u v, u < n → v < n → (MonTo n T x x u v ↔ MonTo n T (x + 1) 0 u v) := fun u v _ _ => by
            constructor
            · intro a1 a b hc hab hb; exact a1 a b (by omega) hab hb
            · intro a1 a b hc hab hb; exact a1 a b (by omega) hab hb
          refine .inr (.inl ⟨_, rfl, .inr ⟨q, rfl, hq.mono e, fun hd2 => hd fun u v hu hv huv => hd2 u v hu hv ((e u v hu hv).1 huv)⟩⟩)
      obtain ⟨o, ho, hQ⟩ := key
      unfold P_subdirect_monolith_l11
      rw [ho]
      rcases hQ with ⟨rfl, a⟩ | ⟨q, rfl, a, b⟩
      · exact .inl ⟨rfl, a⟩
      · exact .inr ⟨q, rfl, a, b⟩
    obtain ⟨o, ho, hQ⟩ := forR_inv (n := n) (f := fun k x => P_subdirect_monolith_l11 t k x) (x := List.replicate n 0) (fun k p => IsP n (MonTo n T k 0) p ∧ ¬ Disc n (MonTo n T k 0))
      (fun o => (o = .inr none ∧ Disc n (Mon n T)) ∨ ∃ p, o = .inl p ∧ ¬ Disc n (Mon n T) ∧ IsP n (Mon n T) p)
      ⟨(rep_isP n).mono fun u v _ _ => ⟨fun _ a b hc => by omega, fun _ => trivial⟩, fun hd => by
        have := hd 0 1 (by omega) (by omega) (fun a b hc => by omega); omega⟩
      (fun k p hk ⟨h1, h2⟩ => by
        rcases row k p hk h1 h2 with ⟨a, b⟩ | ⟨q, a, b, c⟩
        · exact .inr (.inr ⟨none, a, .inl ⟨rfl, b⟩⟩)
        · exact .inl ⟨q, a, b, c⟩)
      (fun p ⟨h1, h2⟩ => .inr ⟨p, rfl, fun hd => h2 fun u v hu hv huv => hd u v hu hv (monTo_all.1 huv), h1.mono fun u v _ _ => monTo_all⟩)
    rw [ho]
    simp only [Option.bind_some]
    rcases hQ with ⟨rfl, a⟩ | ⟨p, rfl, a, b⟩
    · exact .inl ⟨rfl, .inr a⟩
    · refine .inr ⟨p, ?_, by omega, a, b⟩
      have : p ≠ [] := fun e => by have := b.len; rw [e] at this; simp at this; omega
      show Option.bind (nzl p) _ = _
      unfold nzl
      rw [if_neg this]; rfl

open Classical in
theorem irreducible {t : List (List Int)} {n : Nat} {T : Nat → Nat → Nat} (h : Sg t n T) :
    (P_subdirect_Irreducible t = some ([], false) ∧ (n < 2 ∨ Disc n (Mon n T))) ∨ ∃ p, P_subdirect_Irreducible t = some (p, true) ∧ 2 ≤ n ∧ ¬ Disc n (Mon n T) ∧ IsP n (Mon n T) p := by
  unfold P_subdirect_Irreducible
  rw [validate, h.valid]
  simp only [Option.bind_some, Option.bind_none, decide_true, decide_false, Bool.not_true, Bool.not_false, Bool.true_and, Bool.and_true, Bool.false_eq_true, if_true, if_false, not_true_eq_false, not_false_eq_true, ite_true, ite_false, Bool.not_eq_true, decide_eq_true_eq, decide_eq_false_iff_not, Bool.not_eq_true', Bool.not_eq_false', Option.getD_some, Option.getD_none, Option.isSome_some, Option.isSome_none, Option.isNone_some, Option.isNone_none, eq_self, forall_const, true_implies, false_implies, implies_true]
  rcases monolith h with ⟨a, b⟩ | ⟨p, a, b, c, d⟩
  · rw [a]; exact .inl ⟨rfl, b⟩
  · rw [a]; exact .inr ⟨p, rfl, b, c, d⟩

end Go.Proofs.Ytmdpejgnkoneoaa.Mt
set_option maxRecDepth 100000
set_option maxHeartbeats 4000000
namespace Go.Proofs.Ytmdpejgnkoneoaa.Pu
open Go Go.AM Go.Proofs.Ytmdpejgnkoneoaa.Code

noncomputable def P_congr_firsts_l2 (p_ : List Int) (k5 : Nat) (x4 : List Int) : Option ((List Int)) :=
 Option.bind (gi p_ (k5 : Int)) fun x16 =>
 if decide (x16 = (x4.length : Int)) then
  Option.bind (pus 8 x4 [(k5 : Int)]) fun x37 =>
  some x37
 else
  some x4
noncomputable def P_congr_firsts (p_ : List Int) : Option ((List Int)) :=
 Option.bind (forS p_.length (fun k x => P_congr_firsts_l2 p_ k x) []) fun z9 =>
 some z9
theorem R_congr_firsts {G : List Frag} {W H : AH} {v_0 : AV} {p_ : List Int} (hst : St G W H) (h_0 : Rp.rv W v_0 p_) {r : (List Int)} (hp : P_congr_firsts p_ = some r) :
  wpc E0 N_congr_firsts [v_0] H fun rv H' => ∃ W', Wle W W' ∧ ∃ (g0 : Frag), St (g0 :: G) W' H' ∧ OwS W' rv g0 (r : List Int) := by
 refine enterN (F := f_congr_firsts) rfl (Nat.le_of_ble_eq_true rfl) fun s hl hg => ?_;replace hl : s.length = 23 := hl;have g0 : gt s 0 = v_0 := hg 0 (Nat.le_of_ble_eq_true rfl);clear hg;unfold P_congr_firsts at hp;show wp E0 c_congr_firsts s H _;unfold c_congr_firsts;refine AM.wp_seq hp0 (AM.wp_reg hp0 ?_);refine wpo_seg hp0 1 (fun s H' => s.length = 23 ∧ gt s 0 = v_0 ∧ H = H') (by simp only [↓runs, isCall, ↓reduceIte, ↓gd_true, ↓gd_false, evs, AV.cells, Nat.reduceEqDiff, Nat.reduceLT, reduceCtorEq, Nat.reduceAdd, sy, g0, hl]) ?_;rintro s _ ⟨hl, g0, rfl⟩;refine wpo_nil (then_n ?_);refine AM.wp_seq hp0 (AM.wp_reg hp0 ?_);refine wpo_seg hp0 1 (fun s H' => s.length = 23 ∧ gt s 0 = v_0 ∧ gt s 3 = .nils ∧ H = H') (by simp only [↓runs, isCall, ↓reduceIte, ↓gd_true, ↓gd_false, evs, AV.cells, Nat.reduceEqDiff, Nat.reduceLT, reduceCtorEq, Nat.reduceAdd, sy, g0, hl]) ?_;rintro s _ ⟨hl, g0, g3, rfl⟩;refine wpo_nil (then_n ?_);refine AM.wp_seq hp0 (AM.wp_seq hp0 (AM.wp_reg hp0 ?_));have f1 := fz_ln h_0;refine wpo_seg hp0 3 (fun s H' => s.length = 23 ∧ gt s 3 = .nils ∧ gt s 6 = v_0 ∧ gt s 7 = .int .i64 (p_.length : Int) ∧ gt s 8 = .int .i64 0 ∧ H = H') (by simp only [↓runs, isCall, ↓reduceIte, ↓gd_true, ↓gd_false, evs, AV.cells, Nat.reduceEqDiff, Nat.reduceLT, reduceCtorEq, Nat.reduceAdd, sy, f1, g0, g3, hl]) ?_;rintro s _ ⟨hl, g3, g6, g7, g8, rfl⟩;refine wpo_nil (then_n ?_);replace hst := hst.nil;have o3 := ow_nil (α := Int) W;obtain ⟨z9, e10, hp⟩ := bn hp;refine rangeS_ref hp0 23 p_.length (fun k x => P_congr_firsts_l2 p_ k x) (fun _ x s H' => ∃ (W' : AH) (w3 : AV) (q3 : Frag), s.length = 23 ∧ gt s 3 = w3 ∧ gt s 6 = v_0 ∧  Wle W W' ∧ St (q3 :: G) W' H' ∧ OwS W' w3 q3 (x : List Int)) e10 (fz_big h_0) rfl ?_ ?_ hl g8 g7 ?_ ?_
 ·intro k x s H d v hd h; rcases hd with rfl | rfl | rfl <;> simpa only [gt_other, pt_length, Nat.reduceEqDiff, not_false_eq_true] using h
 ·exact ⟨W, _, _, hl, g3, g6, .refl _, hst, o3⟩
 ·intro k5 x4 y6 s H hk hI hl g8 g7 hy7;change P_congr_firsts_l2 p_ k5 x4 = some y6 at hy7;unfold P_congr_firsts_l2 at hy7;obtain ⟨W, v13, fg14, hl, g3, g6, w12, hst, o15⟩ := hI;replace h_0 := Rp.mono w12 h_0;refine AM.wp_seq hp0 (AM.wp_reg hp0 ?_);obtain ⟨x16, e17, hy7⟩ := bn hy7;obtain ⟨p18, _, f20, f21, rfl⟩ := fz_at (k := .i64) hst h_0 e17 rfl;refine wpo_seg hp0 5 (fun s H' => s.length = 23 ∧ gt s 3 = v13 ∧ gt s 4 = .int .i64 (k5 : Int) ∧ gt s 5 = .int .i64 x16 ∧ gt s 6 = v_0 ∧ gt s 7 = .int .i64 (p_.length : Int) ∧ gt s 8 = .int .i64 (k5 : Int) ∧ H = H') (by simp only [↓runs, isCall, ↓reduceIte, ↓gd_true, ↓gd_false, evs, AV.cells, Nat.reduceEqDiff, Nat.reduceLT, reduceCtorEq, Nat.reduceAdd, sy, f20, f21, g3, g6, g7, g8, hl]) ?_;rintro s _ ⟨hl, g3, g4, g5, g6, g7, g8, rfl⟩;refine wpo_nil (then_n ?_);refine AM.wp_seq hp0 (AM.wp_reg hp0 ?_);have f23 := ow_ln o15;have b24 := ow_big o15;refine wpo_seg hp0 4 (fun s H' => s.length = 23 ∧ gt s 3 = v13 ∧ gt s 4 = .int .i64 (k5 : Int) ∧ gt s 6 = v_0 ∧ gt s 7 = .int .i64 (p_.length : Int) ∧ gt s 8 = .int .i64 (k5 : Int) ∧ gt s 16 = .bool (decide (x16 = (x4.length : Int))) ∧ H = H') (by simp only [↓runs, isCall, ↓reduceIte, ↓gd_true, ↓gd_false, evs, AV.cells, Nat.reduceEqDiff, Nat.reduceLT, reduceCtorEq, Nat.reduceAdd, sy, f23, g3, g4, g5, g6, g7, g8, hl]) ?_;rintro s _ ⟨hl, g3, g4, g6, g7, g8, g16, rfl⟩;refine wpo_nil (then_n ?_);rcases Bool.eq_false_or_eq_true (decide (x16 = (x4.length : Int))) with c25 | c25
  ·replace hy7 := ifT c25 hy7;refine AM.wp_condT (by simp only [ev_t, ev_c, g16, c25]) ?_;refine AM.wp_reg hp0 ?_;obtain ⟨v26, l27, H28, fg29, W, f31, f32, f33, w30, hst, o34⟩ := ow_lit' (n := 1) (k := 1) (z := [.int .i64 0]) (ys := [.int .i64 (k5 : Int)]) (M := ([(k5 : Int)] : List (Int))) [(0, 1, .int .i64 (k5 : Int))] rfl rfl hst (sc_cons (show Rp.rv _ (.int .i64 (k5 : Int)) ((k5 : Int) : Int) from rfl) (sc_nil)) ((List.forall_mem_cons.2 ⟨rfl, fun _ h => (List.not_mem_nil h).elim⟩)) rfl rfl rfl (by decide);replace h_0 := Rp.mono w30 h_0;replace o15 := o15.mono w30;obtain ⟨c35, sn36⟩ := ow_sn hst (.head _) o34;obtain ⟨x37, e38, hy7⟩ := bn hy7;replace hst := hst.p1;obtain ⟨v39, H40, fg41, W, f43, w42, hst, o44⟩ := ow_apps [.int .i64 0] rfl hst o15 sn36 e38;replace h_0 := Rp.mono w42 h_0;replace o34 := o34.mono w42;refine wpo_seg hp0 5 (fun s H' => s.length = 23 ∧ gt s 3 = v39 ∧ gt s 6 = v_0 ∧ gt s 7 = .int .i64 (p_.length : Int) ∧ gt s 8 = .int .i64 (k5 : Int) ∧ H40 = H') (by simp only [↓runs, isCall, ↓reduceIte, ↓gd_true, ↓gd_false, evs, AV.cells, Nat.reduceEqDiff, Nat.reduceLT, reduceCtorEq, Nat.reduceAdd, sy, f31, f32, f33, f43, g3, g4, g6, g7, g8, g16, hl]) ?_;rintro s _ ⟨hl, g3, g6, g7, g8, rfl⟩;refine wpo_nil ?_;refine rnd_n ?_;obtain rfl := Option.some.inj hy7;replace hst := hst.p1;replace hst := hst.drop;exact ⟨hl, g8, g7, ⟨W, _, _, hl, g3, g6, ((w12.trans w30).trans w42), hst, o44⟩⟩
  ·replace hy7 := ifF c25 hy7;refine AM.wp_condF (by simp only [ev_t, ev_c, g16, c25]) ?_;refine AM.wp_skip ?_;refine rnd_n ?_;obtain rfl := Option.some.inj hy7;exact ⟨hl, g8, g7, ⟨W, _, _, hl, g3, g6, w12, hst, o15⟩⟩
 ·rintro s H hI _;obtain ⟨W, v46, fg47, hl, g3, g6, w45, hst, o48⟩ := hI;replace h_0 := Rp.mono w45 h_0;refine then_n ?_;refine AM.wp_seq hp0 (AM.wp_reg hp0 ?_);refine wpo_seg hp0 2 (fun s H' => s.length = 23 ∧ gt s 2 = v46 ∧ H = H') (by simp only [↓runs, isCall, ↓reduceIte, ↓gd_true, ↓gd_false, evs, AV.cells, Nat.reduceEqDiff, Nat.reduceLT, reduceCtorEq, Nat.reduceAdd, sy, g3, g6, hl]) ?_;rintro s _ ⟨hl, g2, rfl⟩;refine wpo_nil (then_n ?_);refine AM.wp_ret ?_;obtain rfl := Option.some.inj hp;refine body_ret (vs := [v46]) (by simp only [rvs, f_congr_firsts, Option.map_some, g2]) ?_;exact ⟨W, w45, _, hst, o48⟩

end Go.Proofs.Ytmdpejgnkoneoaa.Pu
