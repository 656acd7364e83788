/- Part 8 of the proof that the law SubdirectTurned holds: words and lemmas it rests on. No condition. -/
import Derived.Test.YtmdpejgnkoneoaaT5
import Derived.Test.YtmdpejgnkoneoaaT7
set_option linter.unusedSimpArgs false
set_option linter.unusedVariables false
set_option linter.unnecessarySimpa false
set_option linter.unusedSectionVars false
set_option maxRecDepth 100000
set_option maxHeartbeats 4000000
namespace Go.Proofs.Ytmdpejgnkoneoaa.Pu
open Go Go.AM Go.Proofs.Ytmdpejgnkoneoaa.Code

noncomputable def P_congr_Generated_l13 (pairs : List (Int × Int)) (t : List (List Int)) (k15 : Nat) : Option (Lp (Unit) ((List Int))) :=
 Option.bind (gi pairs (k15 : Int)) fun x22 =>
 Option.bind (
  if decide (x22.1 < 0) then
   some true
  else
   if decide ((t.length : Int) ≤ x22.1) then
    some true
   else
    if decide (x22.2 < 0) then
     some true
    else
     some (decide ((t.length : Int) ≤ x22.2))) fun z36 =>
 if z36 then
  some (.ex [])
 else
  some (.go ())
noncomputable def P_congr_Generated (t : List (List Int)) (pairs : List (Int × Int)) (side : Int) : Option ((List Int)) :=
 Option.bind (
  Option.bind (P_mult_Validate t) fun r3 =>
  if !decide (r3 = 0) then
   some true
  else
   if decide (side < 0) then
    some true
   else
    some (decide (2 < side))) fun z1 =>
 if z1 then
  some []
 else
  Option.bind (forR pairs.length (fun k x => P_congr_Generated_l13 pairs t k) ()) fun z19 =>
  match z19 with
  | .inl x54 =>
   Option.bind (P_congr_generated t pairs side) fun r56 =>
   some r56
  | .inr b => some b
theorem R_congr_Generated {G : List Frag} {W H : AH} {v_0 v_1 : AV} {t : List (List Int)} {pairs : List (Int × Int)} {side : Int} (hst : St G W H) (h_0 : Rp.rv W v_0 t) (h_1 : Rp.rv W v_1 pairs) {r : (List Int)} (hp : P_congr_Generated t pairs side = some r) :
  wpc E0 N_congr_Generated [v_0, v_1, .int .i64 side] H fun rv H' => ∃ W', Wle W W' ∧ ∃ (g0 : Frag), St (g0 :: G) W' H' ∧ OwS W' rv g0 (r : List Int) := by
 refine enterN (F := f_congr_Generated) rfl (Nat.le_of_ble_eq_true rfl) fun s hl hg => ?_;replace hl : s.length = 53 := hl;have g0 : gt s 0 = v_0 := hg 0 (Nat.le_of_ble_eq_true rfl);have g1 : gt s 1 = v_1 := hg 1 (Nat.le_of_ble_eq_true rfl);have g2 : gt s 2 = .int .i64 side := hg 2 (Nat.le_of_ble_eq_true rfl);clear hg;unfold P_congr_Generated at hp;show wp E0 c_congr_Generated s H _;unfold c_congr_Generated;refine AM.wp_seq hp0 (AM.wp_reg hp0 ?_);refine wpo_seg hp0 1 (fun s H' => s.length = 53 ∧ gt s 0 = v_0 ∧ gt s 1 = v_1 ∧ gt s 2 = .int .i64 side ∧ H = H') (by simp only [↓runs, isCall, ↓reduceIte, ↓gd_true, ↓gd_false, evs, AV.cells, Nat.reduceEqDiff, Nat.reduceLT, reduceCtorEq, Nat.reduceAdd, sy, g0, g1, g2, hl]) ?_;rintro s _ ⟨hl, g0, g1, g2, rfl⟩;refine wpo_nil (then_n ?_);refine AM.wp_seq hp0 (AM.wp_seq hp0 ?_);obtain ⟨z1, hj2, hp⟩ := bn hp;refine AM.wp_regK hp0 (fun s H' => ∃ (W' : AH), s.length = 53 ∧ gt s 19 = .bool z1 ∧ gt s 0 = v_0 ∧ gt s 1 = v_1 ∧ gt s 2 = .int .i64 side ∧  Wle W W' ∧ St G W' H') ?_ ?_
 ·refine wpo_seg hp0 1 (fun s H' => s.length = 53 ∧ gt s 0 = v_0 ∧ gt s 1 = v_1 ∧ gt s 2 = .int .i64 side ∧ gt s 9 = v_0 ∧ H = H') (by simp only [↓runs, isCall, ↓reduceIte, ↓gd_true, ↓gd_false, evs, AV.cells, Nat.reduceEqDiff, Nat.reduceLT, reduceCtorEq, Nat.reduceAdd, sy, g0, g1, g2, hl]) ?_;rintro s _ ⟨hl, g0, g1, g2, g9, rfl⟩;obtain ⟨r3, e4, hj2⟩ := bn hj2;refine wpo_callK hp0 rfl (ys := [v_0]) (by simp only [evs, List.map_cons, List.map_nil, ev_t, ev_c, g9]) (R_mult_Validate hst h_0 e4) ?_;rintro rv5 H ⟨W, w6, hst, rfl⟩;replace h_0 := Rp.mono w6 h_0;replace h_1 := Rp.mono w6 h_1;rcases Bool.eq_false_or_eq_true (!decide (r3 = 0)) with c7 | c7
  ·replace hj2 := ifT c7 hj2;refine wpo_seg hp0 9 (fun s H' => s.length = 53 ∧ gt s 0 = v_0 ∧ gt s 1 = v_1 ∧ gt s 2 = .int .i64 side ∧ gt s 19 = .bool true ∧ H = H') (by simp only [↓runs, isCall, ↓reduceIte, ↓gd_true, ↓gd_false, evs, AV.cells, Nat.reduceEqDiff, Nat.reduceLT, reduceCtorEq, Nat.reduceAdd, sy, gt_other, c7, g0, g1, g2, g9, hl]) ?_;rintro s _ ⟨hl, g0, g1, g2, g19, rfl⟩;refine wpo_nil ?_;obtain rfl := Option.some.inj hj2;exact ⟨W, hl, g19, g0, g1, g2, w6, hst⟩
  ·replace hj2 := ifF c7 hj2;rcases Bool.eq_false_or_eq_true (decide (side < 0)) with c8 | c8
   ·replace hj2 := ifT c8 hj2;refine wpo_seg hp0 9 (fun s H' => s.length = 53 ∧ gt s 0 = v_0 ∧ gt s 1 = v_1 ∧ gt s 2 = .int .i64 side ∧ gt s 19 = .bool true ∧ H = H') (by simp only [↓runs, isCall, ↓reduceIte, ↓gd_true, ↓gd_false, evs, AV.cells, Nat.reduceEqDiff, Nat.reduceLT, reduceCtorEq, Nat.reduceAdd, sy, gt_other, c7, c8, g0, g1, g2, g9, hl]) ?_;rintro s _ ⟨hl, g0, g1, g2, g19, rfl⟩;refine wpo_nil ?_;obtain rfl := Option.some.inj hj2;exact ⟨W, hl, g19, g0, g1, g2, w6, hst⟩
   ·replace hj2 := ifF c8 hj2;refine wpo_seg hp0 9 (fun s H' => s.length = 53 ∧ gt s 0 = v_0 ∧ gt s 1 = v_1 ∧ gt s 2 = .int .i64 side ∧ gt s 19 = .bool (decide (2 < side)) ∧ H = H') (by simp only [↓runs, isCall, ↓reduceIte, ↓gd_true, ↓gd_false, evs, AV.cells, Nat.reduceEqDiff, Nat.reduceLT, reduceCtorEq, Nat.reduceAdd, sy, gt_other, c7, c8, g0, g1, g2, g9, hl]) ?_;rintro s _ ⟨hl, g0, g1, g2, g19, rfl⟩;refine wpo_nil ?_;obtain rfl := Option.some.inj hj2;exact ⟨W, hl, g19, g0, g1, g2, w6, hst⟩
 ·rintro s H ⟨W, hl, g19, g0, g1, g2, w9, hst⟩;replace h_0 := Rp.mono w9 h_0;replace h_1 := Rp.mono w9 h_1;refine then_n ?_;rcases Bool.eq_false_or_eq_true (z1) with c10 | c10
  ·replace hp := ifT c10 hp;refine AM.wp_condT (by simp only [ev_t, ev_c, g19, c10]) ?_;refine AM.wp_seq hp0 (AM.wp_reg hp0 ?_);refine wpo_seg hp0 1 (fun s H' => s.length = 53 ∧ gt s 6 = .nils ∧ H = H') (by simp only [↓runs, isCall, ↓reduceIte, ↓gd_true, ↓gd_false, evs, AV.cells, Nat.reduceEqDiff, Nat.reduceLT, reduceCtorEq, Nat.reduceAdd, sy, g0, g1, g2, g19, hl]) ?_;rintro s _ ⟨hl, g6, rfl⟩;refine wpo_nil (then_n ?_);refine AM.wp_ret ?_;refine then_r ?_;replace hst := hst.nil;have o11 := ow_nil (α := Int) W;obtain rfl := Option.some.inj hp;refine body_ret (vs := [.nils]) (by simp only [rvs, f_congr_Generated, Option.map_some, g6]) ?_;exact ⟨W, w9, _, hst, o11⟩
  ·replace hp := ifF c10 hp;refine AM.wp_condF (by simp only [ev_t, ev_c, g19, c10]) ?_;refine AM.wp_skip ?_;refine then_n ?_;refine AM.wp_seq hp0 (AM.wp_seq hp0 (AM.wp_reg hp0 ?_));have f12 := fz_ln h_1;refine wpo_seg hp0 3 (fun s H' => s.length = 53 ∧ gt s 0 = v_0 ∧ gt s 1 = v_1 ∧ gt s 2 = .int .i64 side ∧ gt s 20 = v_1 ∧ gt s 21 = .int .i64 (pairs.length : Int) ∧ gt s 22 = .int .i64 0 ∧ H = H') (by simp only [↓runs, isCall, ↓reduceIte, ↓gd_true, ↓gd_false, evs, AV.cells, Nat.reduceEqDiff, Nat.reduceLT, reduceCtorEq, Nat.reduceAdd, sy, f12, g0, g1, g2, g19, hl]) ?_;rintro s _ ⟨hl, g0, g1, g2, g20, g21, g22, rfl⟩;refine wpo_nil (then_n ?_);obtain ⟨z19, e20, hp⟩ := bn hp;refine range_ref hp0 53 pairs.length (fun k x => P_congr_Generated_l13 pairs t k) (fun _ x s H' => ∃ (W' : AH), s.length = 53 ∧ gt s 0 = v_0 ∧ gt s 1 = v_1 ∧ gt s 2 = .int .i64 side ∧ gt s 20 = v_1 ∧  Wle W W' ∧ St G W' H') (fun _ x s H' => ∃ (W' : AH), s.length = 53 ∧ gt s 0 = v_0 ∧ gt s 1 = v_1 ∧ gt s 2 = .int .i64 side ∧  Wle W W' ∧ St G W' H') e20 (fz_big h_1) rfl ?_ ?_ hl g22 g21 ?_ ?_
   ·intro k x s H d v hd h; rcases hd with rfl | rfl | rfl <;> simpa only [gt_other, pt_length, Nat.reduceEqDiff, not_false_eq_true] using h
   ·exact ⟨W, hl, g0, g1, g2, g20, .refl _, hst⟩
   ·intro k15 x14 y16 s H hk hI hl g22 g21 hy17 hx18;change P_congr_Generated_l13 pairs t k15 = some y16 at hy17;unfold P_congr_Generated_l13 at hy17;obtain ⟨W, hl, g0, g1, g2, g20, w21, hst⟩ := hI;replace h_0 := Rp.mono w21 h_0;replace h_1 := Rp.mono w21 h_1;refine AM.wp_seq hp0 (AM.wp_reg hp0 ?_);obtain ⟨x22, e23, hy17⟩ := bn hy17;obtain ⟨p24, y25, f26, f27, h28⟩ := fz_atA (k := .i64) 2 rfl hst h_1 e23 rfl;obtain rfl := pr_ii h28;obtain ⟨p29, H30, W, f32, f33, w31, hst⟩ := bx_new' hst [.int .i64 0, .int .i64 0];replace h_0 := Rp.mono w31 h_0;replace h_1 := Rp.mono w31 h_1;obtain ⟨H34, f35, hst⟩ := bx_st (y := .agg [.int .i64 x22.1, .int .i64 x22.2]) (n := 2) hst rfl rfl rfl;simp only [AV.cells] at hst;refine wpo_seg hp0 4 (fun s H' => s.length = 53 ∧ gt s 0 = v_0 ∧ gt s 1 = v_1 ∧ gt s 2 = .int .i64 side ∧ gt s 8 = .ptr p29 0 ∧ gt s 20 = v_1 ∧ gt s 21 = .int .i64 (pairs.length : Int) ∧ gt s 22 = .int .i64 (k15 : Int) ∧ H34 = H') (by simp only [↓runs, isCall, ↓reduceIte, ↓gd_true, ↓gd_false, evs, AV.cells, Nat.reduceEqDiff, Nat.reduceLT, reduceCtorEq, Nat.reduceAdd, sy, f26, f27, f32, f33, f35, g0, g1, g2, g20, g21, g22, hl]) ?_;rintro s _ ⟨hl, g0, g1, g2, g8, g20, g21, g22, rfl⟩;refine wpo_nil (then_n ?_);refine AM.wp_seq hp0 ?_;obtain ⟨z36, hj37, hy17⟩ := bn hy17;refine AM.wp_regK hp0 (fun s H' => s.length = 53 ∧ gt s 47 = .bool z36 ∧ gt s 0 = v_0 ∧ gt s 1 = v_1 ∧ gt s 2 = .int .i64 side ∧ gt s 20 = v_1 ∧ gt s 21 = .int .i64 (pairs.length : Int) ∧ gt s 22 = .int .i64 (k15 : Int) ∧ H34 = H') ?_ ?_
    ·have f38 : iaA 2 1 (.ptr p29 0) (.int .i64 0) = some (.ptr p29 0) := by simp [iaA]
     have f39 := bx_ld (i := 0) hst (.head _) rfl;rcases Bool.eq_false_or_eq_true (decide (x22.1 < 0)) with c40 | c40
     ·replace hj37 := ifT c40 hj37;refine wpo_seg hp0 22 (fun s H' => s.length = 53 ∧ gt s 0 = v_0 ∧ gt s 1 = v_1 ∧ gt s 2 = .int .i64 side ∧ gt s 20 = v_1 ∧ gt s 21 = .int .i64 (pairs.length : Int) ∧ gt s 22 = .int .i64 (k15 : Int) ∧ gt s 47 = .bool true ∧ H34 = H') (by simp (maxSteps := 1000000) only [↓runs, isCall, ↓reduceIte, ↓gd_true, ↓gd_false, evs, AV.cells, Nat.reduceEqDiff, Nat.reduceLT, reduceCtorEq, Nat.reduceAdd, sy, f38, f39, c40, g0, g1, g2, g8, g20, g21, g22, hl]) ?_;rintro s _ ⟨hl, g0, g1, g2, g20, g21, g22, g47, rfl⟩;refine wpo_nil ?_;obtain rfl := Option.some.inj hj37;exact ⟨hl, g47, g0, g1, g2, g20, g21, g22, rfl⟩
     ·replace hj37 := ifF c40 hj37;have f41 : iaA 2 1 (.ptr p29 0) (.int .i64 0) = some (.ptr p29 0) := by simp [iaA]
      have f42 := bx_ld (i := 0) hst (.head _) rfl;have f43 := fz_ln h_0;rcases Bool.eq_false_or_eq_true (decide ((t.length : Int) ≤ x22.1)) with c44 | c44
      ·replace hj37 := ifT c44 hj37;refine wpo_seg hp0 22 (fun s H' => s.length = 53 ∧ gt s 0 = v_0 ∧ gt s 1 = v_1 ∧ gt s 2 = .int .i64 side ∧ gt s 20 = v_1 ∧ gt s 21 = .int .i64 (pairs.length : Int) ∧ gt s 22 = .int .i64 (k15 : Int) ∧ gt s 47 = .bool true ∧ H34 = H') (by simp (maxSteps := 1000000) only [↓runs, isCall, ↓reduceIte, ↓gd_true, ↓gd_false, evs, AV.cells, Nat.reduceEqDiff, Nat.reduceLT, reduceCtorEq, Nat.reduceAdd, sy, f38, f39, c40, f41, f42, f43, c44, g0, g1, g2, g8, g20, g21, g22, hl]) ?_;rintro s _ ⟨hl, g0, g1, g2, g20, g21, g22, g47, rfl⟩;refine wpo_nil ?_;obtain rfl := Option.some.inj hj37;exact ⟨hl, g47, g0, g1, g2, g20, g21, g22, rfl⟩
      ·replace hj37 := ifF c44 hj37;have f45 : iaA 2 1 (.ptr p29 0) (.int .i64 1) = some (.ptr p29 1) := by simp [iaA]
       have f46 := bx_ld (i := 1) hst (.head _) rfl;rcases Bool.eq_false_or_eq_true (decide (x22.2 < 0)) with c47 | c47
       ·replace hj37 := ifT c47 hj37;refine wpo_seg hp0 22 (fun s H' => s.length = 53 ∧ gt s 0 = v_0 ∧ gt s 1 = v_1 ∧ gt s 2 = .int .i64 side ∧ gt s 20 = v_1 ∧ gt s 21 = .int .i64 (pairs.length : Int) ∧ gt s 22 = .int .i64 (k15 : Int) ∧ gt s 47 = .bool true ∧ H34 = H') (by simp (maxSteps := 1000000) only [↓runs, isCall, ↓reduceIte, ↓gd_true, ↓gd_false, evs, AV.cells, Nat.reduceEqDiff, Nat.reduceLT, reduceCtorEq, Nat.reduceAdd, sy, f38, f39, c40, f41, f42, f43, c44, f45, f46, c47, g0, g1, g2, g8, g20, g21, g22, hl]) ?_;rintro s _ ⟨hl, g0, g1, g2, g20, g21, g22, g47, rfl⟩;refine wpo_nil ?_;obtain rfl := Option.some.inj hj37;exact ⟨hl, g47, g0, g1, g2, g20, g21, g22, rfl⟩
       ·replace hj37 := ifF c47 hj37;have f48 : iaA 2 1 (.ptr p29 0) (.int .i64 1) = some (.ptr p29 1) := by simp [iaA]
        have f49 := bx_ld (i := 1) hst (.head _) rfl;have f50 := fz_ln h_0;refine wpo_seg hp0 22 (fun s H' => s.length = 53 ∧ gt s 0 = v_0 ∧ gt s 1 = v_1 ∧ gt s 2 = .int .i64 side ∧ gt s 20 = v_1 ∧ gt s 21 = .int .i64 (pairs.length : Int) ∧ gt s 22 = .int .i64 (k15 : Int) ∧ gt s 47 = .bool (decide ((t.length : Int) ≤ x22.2)) ∧ H34 = H') (by simp (maxSteps := 1000000) only [↓runs, isCall, ↓reduceIte, ↓gd_true, ↓gd_false, evs, AV.cells, Nat.reduceEqDiff, Nat.reduceLT, reduceCtorEq, Nat.reduceAdd, sy, f38, f39, c40, f41, f42, f43, c44, f45, f46, c47, f48, f49, f50, g0, g1, g2, g8, g20, g21, g22, hl]) ?_;rintro s _ ⟨hl, g0, g1, g2, g20, g21, g22, g47, rfl⟩;refine wpo_nil ?_;obtain rfl := Option.some.inj hj37;exact ⟨hl, g47, g0, g1, g2, g20, g21, g22, rfl⟩
    ·rintro s _ ⟨hl, g47, g0, g1, g2, g20, g21, g22, rfl⟩;refine then_n ?_;rcases Bool.eq_false_or_eq_true (z36) with c52 | c52
     ·replace hy17 := ifT c52 hy17;refine AM.wp_condT (by simp only [ev_t, ev_c, g47, c52]) ?_;refine AM.wp_seq hp0 (AM.wp_reg hp0 ?_);refine wpo_seg hp0 1 (fun s H' => s.length = 53 ∧ gt s 6 = .nils ∧ H34 = H') (by simp only [↓runs, isCall, ↓reduceIte, ↓gd_true, ↓gd_false, evs, AV.cells, Nat.reduceEqDiff, Nat.reduceLT, reduceCtorEq, Nat.reduceAdd, sy, g0, g1, g2, g20, g21, g22, g47, hl]) ?_;rintro s _ ⟨hl, g6, rfl⟩;refine wpo_nil (then_n ?_);refine AM.wp_ret ?_;refine rnd_r ?_;refine then_r ?_;replace hst := hst.nil;have o53 := ow_nil (α := Int) W;obtain rfl := Option.some.inj hy17;have hx := hx18 _ rfl;subst hx;dsimp only at hp;obtain rfl := Option.some.inj hp;replace hst := hst.p1;replace hst := hst.drop;refine body_ret (vs := [.nils]) (by simp only [rvs, f_congr_Generated, Option.map_some, g6]) ?_;exact ⟨W, ((w9.trans w21).trans w31), _, hst, o53⟩
     ·replace hy17 := ifF c52 hy17;refine AM.wp_condF (by simp only [ev_t, ev_c, g47, c52]) ?_;refine AM.wp_skip ?_;refine rnd_n ?_;obtain rfl := Option.some.inj hy17;replace hst := hst.drop;exact ⟨_, rfl, hl, g22, g21, ⟨W, hl, g0, g1, g2, g20, (w21.trans w31), hst⟩⟩
   ·rintro x54 s Hn hz hI;replace hI : (fun s H' => ∃ (W' : AH), s.length = 53 ∧ gt s 0 = v_0 ∧ gt s 1 = v_1 ∧ gt s 2 = .int .i64 side ∧  Wle W W' ∧ St G W' H') s Hn := by
     rcases hI with ⟨hI, -⟩ | ⟨_, hI⟩
     ·obtain ⟨W2, hl, g0, g1, g2, g20, w2, hst2⟩ := hI;exact ⟨W2, hl, g0, g1, g2, w2, hst2⟩
     ·exact hI
    obtain ⟨H, rfl⟩ : ∃ K, K = Hn := ⟨_, rfl⟩;subst hz;dsimp only at hp hI;obtain ⟨W, hl, g0, g1, g2, w55, hst⟩ := hI;replace h_0 := Rp.mono w55 h_0;replace h_1 := Rp.mono w55 h_1;refine then_n ?_;refine AM.wp_seq hp0 (AM.wp_reg hp0 ?_);refine wpo_seg hp0 3 (fun s H' => s.length = 53 ∧ gt s 49 = v_0 ∧ gt s 50 = v_1 ∧ gt s 51 = .int .i64 side ∧ H = H') (by simp only [↓runs, isCall, ↓reduceIte, ↓gd_true, ↓gd_false, evs, AV.cells, Nat.reduceEqDiff, Nat.reduceLT, reduceCtorEq, Nat.reduceAdd, sy, g0, g1, g2, hl]) ?_;rintro s _ ⟨hl, g49, g50, g51, rfl⟩;obtain ⟨r56, e57, hp⟩ := bn hp;refine wpo_callK hp0 rfl (ys := [v_0, v_1, .int .i64 side]) (by simp only [evs, List.map_cons, List.map_nil, ev_t, ev_c, g49, g50, g51]) (R_congr_generated hst h_0 h_1 e57) ?_;rintro rv58 H ⟨W, w59, fg60, hst, o61⟩;replace h_0 := Rp.mono w59 h_0;replace h_1 := Rp.mono w59 h_1;refine wpo_seg hp0 1 (fun s H' => s.length = 53 ∧ gt s 6 = rv58 ∧ H = H') (by simp only [↓runs, isCall, ↓reduceIte, ↓gd_true, ↓gd_false, evs, AV.cells, Nat.reduceEqDiff, Nat.reduceLT, reduceCtorEq, Nat.reduceAdd, sy, gt_other, g49, g50, g51, hl]) ?_;rintro s _ ⟨hl, g6, rfl⟩;refine wpo_nil (then_n ?_);refine AM.wp_ret ?_;obtain rfl := Option.some.inj hp;refine body_ret (vs := [rv58]) (by simp only [rvs, f_congr_Generated, Option.map_some, g6]) ?_;exact ⟨W, ((w9.trans w55).trans w59), _, hst, o61⟩

end Go.Proofs.Ytmdpejgnkoneoaa.Pu
set_option maxRecDepth 100000
set_option maxHeartbeats 4000000
namespace Go.Proofs.Ytmdpejgnkoneoaa.Pu
open Go Go.AM Go.Proofs.Ytmdpejgnkoneoaa.Code

noncomputable def P_semigroupref03_Merge_l17 (x1 : Int) (x8 : Int) (k19 : Nat) (x18 : List Int) : Option ((List Int)) :=
 Option.bind (gi x18 (k19 : Int)) fun x29 =>
 if decide (x29 = x8) then
  Option.bind (si x18 (k19 : Int) x1) fun x37 =>
  some x37
 else
  some x18
noncomputable def P_semigroupref03_Merge (p_ : List Int) (i : Int) (j : Int) : Option ((List Int)) :=
 Option.bind (gi p_ i) fun x1 =>
 Option.bind (gi p_ j) fun x8 =>
 Option.bind (forS p_.length (fun k x => P_semigroupref03_Merge_l17 x1 x8 k x) p_) fun z23 =>
 some z23
theorem R_semigroupref03_Merge {G : List Frag} {W H : AH} {v_0 : AV} {g_0 : Frag} {p_ : List Int} {i : Int} {j : Int} (hst : St (g_0 :: G) W H) (o_0 : OwS W v_0 g_0 p_) {r : (List Int)} (hp : P_semigroupref03_Merge p_ i j = some r) :
  wpc E0 N_semigroupref03_Merge [v_0, .int .i64 i, .int .i64 j] H fun rv H' => ∃ W', Wle W W' ∧ ∃ (gi0 : Frag), St (gi0 :: G) W' H' ∧ rv = .tup [] ∧ OwS W' v_0 gi0 r := by
 refine enterN (F := f_semigroupref03_Merge) rfl (Nat.le_of_ble_eq_true rfl) fun s hl hg => ?_;replace hl : s.length = 33 := hl;have g0 : gt s 0 = v_0 := hg 0 (Nat.le_of_ble_eq_true rfl);have g1 : gt s 1 = .int .i64 i := hg 1 (Nat.le_of_ble_eq_true rfl);have g2 : gt s 2 = .int .i64 j := hg 2 (Nat.le_of_ble_eq_true rfl);clear hg;unfold P_semigroupref03_Merge at hp;show wp E0 c_semigroupref03_Merge s H _;unfold c_semigroupref03_Merge;refine AM.wp_seq hp0 (AM.wp_reg hp0 ?_);obtain ⟨x1, e2, hp⟩ := bn hp;obtain ⟨p3, _, f5, f6, rfl⟩ := ow_at (k := .i64) hst (.head _) o_0 e2 rfl;obtain ⟨x8, e9, hp⟩ := bn hp;obtain ⟨p10, _, f12, f13, rfl⟩ := ow_at (k := .i64) hst (.head _) o_0 e9 rfl;refine wpo_seg hp0 10 (fun s H' => s.length = 33 ∧ gt s 0 = v_0 ∧ gt s 6 = .int .i64 x1 ∧ gt s 7 = .int .i64 x8 ∧ H = H') (by simp only [↓runs, isCall, ↓reduceIte, ↓gd_true, ↓gd_false, evs, AV.cells, Nat.reduceEqDiff, Nat.reduceLT, reduceCtorEq, Nat.reduceAdd, sy, f5, f6, f12, f13, g0, g1, g2, hl]) ?_;rintro s _ ⟨hl, g0, g6, g7, rfl⟩;refine wpo_nil (then_n ?_);refine AM.wp_seq hp0 (AM.wp_reg hp0 ?_);have f15 := ow_ln o_0;have b16 := ow_big o_0;refine wpo_seg hp0 3 (fun s H' => s.length = 33 ∧ gt s 0 = v_0 ∧ gt s 6 = .int .i64 x1 ∧ gt s 7 = .int .i64 x8 ∧ gt s 18 = .int .i64 (p_.length : Int) ∧ gt s 19 = .int .i64 0 ∧ H = H') (by simp only [↓runs, isCall, ↓reduceIte, ↓gd_true, ↓gd_false, evs, AV.cells, Nat.reduceEqDiff, Nat.reduceLT, reduceCtorEq, Nat.reduceAdd, sy, f15, g0, g6, g7, hl]) ?_;rintro s _ ⟨hl, g0, g6, g7, g18, g19, rfl⟩;refine wpo_nil (then_n ?_);obtain ⟨z23, e24, hp⟩ := bn hp;refine rangeS_ref hp0 33 p_.length (fun k x => P_semigroupref03_Merge_l17 x1 x8 k x) (fun _ x s H' => ∃ (W' : AH) (qo1 : Frag), s.length = 33 ∧ gt s 0 = v_0 ∧ gt s 6 = .int .i64 x1 ∧ gt s 7 = .int .i64 x8 ∧  Wle W W' ∧ St (qo1 :: G) W' H' ∧ OwS W' v_0 qo1 (x : List Int)) e24 (b16) rfl ?_ ?_ hl g19 g18 ?_ ?_
 ·intro k x s H d v hd h; rcases hd with rfl | rfl | rfl <;> simpa only [gt_other, pt_length, Nat.reduceEqDiff, not_false_eq_true] using h
 ·exact ⟨W, _, hl, g0, g6, g7, .refl _, hst, o_0⟩
 ·intro k19 x18 y20 s H hk hI hl g19 g18 hy21;change P_semigroupref03_Merge_l17 x1 x8 k19 x18 = some y20 at hy21;unfold P_semigroupref03_Merge_l17 at hy21;obtain ⟨W, fg27, hl, g0, g6, g7, w26, hst, o28⟩ := hI;refine AM.wp_seq hp0 (AM.wp_reg hp0 ?_);refine wpo_seg hp0 2 (fun s H' => s.length = 33 ∧ gt s 0 = v_0 ∧ gt s 6 = .int .i64 x1 ∧ gt s 7 = .int .i64 x8 ∧ gt s 8 = .int .i64 (k19 : Int) ∧ gt s 18 = .int .i64 (p_.length : Int) ∧ gt s 19 = .int .i64 (k19 : Int) ∧ H = H') (by simp only [↓runs, isCall, ↓reduceIte, ↓gd_true, ↓gd_false, evs, AV.cells, Nat.reduceEqDiff, Nat.reduceLT, reduceCtorEq, Nat.reduceAdd, sy, g0, g6, g7, g18, g19, hl]) ?_;rintro s _ ⟨hl, g0, g6, g7, g8, g18, g19, rfl⟩;refine wpo_nil (then_n ?_);refine AM.wp_seq hp0 (AM.wp_reg hp0 ?_);obtain ⟨x29, e30, hy21⟩ := bn hy21;obtain ⟨p31, _, f33, f34, rfl⟩ := ow_at (k := .i64) hst (.head _) o28 e30 rfl;refine wpo_seg hp0 6 (fun s H' => s.length = 33 ∧ gt s 0 = v_0 ∧ gt s 6 = .int .i64 x1 ∧ gt s 7 = .int .i64 x8 ∧ gt s 8 = .int .i64 (k19 : Int) ∧ gt s 18 = .int .i64 (p_.length : Int) ∧ gt s 19 = .int .i64 (k19 : Int) ∧ gt s 27 = .bool (decide (x29 = x8)) ∧ H = H') (by simp only [↓runs, isCall, ↓reduceIte, ↓gd_true, ↓gd_false, evs, AV.cells, Nat.reduceEqDiff, Nat.reduceLT, reduceCtorEq, Nat.reduceAdd, sy, f33, f34, g0, g6, g7, g8, g18, g19, hl]) ?_;rintro s _ ⟨hl, g0, g6, g7, g8, g18, g19, g27, rfl⟩;refine wpo_nil (then_n ?_);rcases Bool.eq_false_or_eq_true (decide (x29 = x8)) with c36 | c36
  ·replace hy21 := ifT c36 hy21;refine AM.wp_condT (by simp only [ev_t, ev_c, g27, c36]) ?_;refine AM.wp_reg hp0 ?_;obtain ⟨x37, e38, hy21⟩ := bn hy21;obtain ⟨p39, H40, fg41, f42, f43, hst, o44⟩ := ow_set (k := .i64) 1 rfl hst o28 (show Rp.rv W (.int .i64 x1) (x1 : Int) from rfl) e38;obtain rfl := Option.some.inj (f42.symm.trans f33);refine wpo_seg hp0 5 (fun s H' => s.length = 33 ∧ gt s 0 = v_0 ∧ gt s 6 = .int .i64 x1 ∧ gt s 7 = .int .i64 x8 ∧ gt s 18 = .int .i64 (p_.length : Int) ∧ gt s 19 = .int .i64 (k19 : Int) ∧ H40 = H') (by simp only [↓runs, isCall, ↓reduceIte, ↓gd_true, ↓gd_false, evs, AV.cells, Nat.reduceEqDiff, Nat.reduceLT, reduceCtorEq, Nat.reduceAdd, sy, f42, f43, g0, g6, g7, g8, g18, g19, g27, hl]) ?_;rintro s _ ⟨hl, g0, g6, g7, g18, g19, rfl⟩;refine wpo_nil ?_;refine rnd_n ?_;obtain rfl := Option.some.inj hy21;exact ⟨hl, g19, g18, ⟨W, _, hl, g0, g6, g7, w26, hst, o44⟩⟩
  ·replace hy21 := ifF c36 hy21;refine AM.wp_condF (by simp only [ev_t, ev_c, g27, c36]) ?_;refine AM.wp_skip ?_;refine rnd_n ?_;obtain rfl := Option.some.inj hy21;exact ⟨hl, g19, g18, ⟨W, _, hl, g0, g6, g7, w26, hst, o28⟩⟩
 ·rintro s H hI _;obtain ⟨W, fg46, hl, g0, g6, g7, w45, hst, o47⟩ := hI;obtain rfl := Option.some.inj hp;refine body_norm (vs := []) (by simp only [rvs, f_semigroupref03_Merge, Option.map_some]) ?_;exact ⟨W, w45, _, hst, rfl, o47⟩

end Go.Proofs.Ytmdpejgnkoneoaa.Pu
set_option maxRecDepth 100000
set_option maxHeartbeats 4000000
namespace Go.Proofs.Ytmdpejgnkoneoaa.Pu
open Go Go.AM Go.Proofs.Ytmdpejgnkoneoaa.Code

noncomputable def P_semigroupref03_FromPairs_l8 (pairs : List (Int × Int)) (k10 : Nat) (x9 : List Int) : Option ((List Int)) :=
 Option.bind (gi pairs (k10 : Int)) fun x20 =>
 Option.bind (P_semigroupref03_Merge x9 x20.1 x20.2) fun r38 =>
 some r38
noncomputable def P_semigroupref03_FromPairs (n : Int) (pairs : List (Int × Int)) : Option ((List Int)) :=
 Option.bind (P_semigroupref03_Discrete n) fun r1 =>
 Option.bind (forS pairs.length (fun k x => P_semigroupref03_FromPairs_l8 pairs k x) r1) fun z14 =>
 Option.bind (P_semigroupref03_Canonical z14) fun r49 =>
 some r49
theorem R_semigroupref03_FromPairs {G : List Frag} {W H : AH} {v_1 : AV} {n : Int} {pairs : List (Int × Int)} (hst : St G W H) (h_1 : Rp.rv W v_1 pairs) {r : (List Int)} (hp : P_semigroupref03_FromPairs n pairs = some r) :
  wpc E0 N_semigroupref03_FromPairs [.int .i64 n, v_1] H fun rv H' => ∃ W', Wle W W' ∧ ∃ (g0 : Frag), St (g0 :: G) W' H' ∧ OwS W' rv g0 (r : List Int) := by
 refine enterN (F := f_semigroupref03_FromPairs) rfl (Nat.le_of_ble_eq_true rfl) fun s hl hg => ?_;replace hl : s.length = 25 := hl;have g0 : gt s 0 = .int .i64 n := hg 0 (Nat.le_of_ble_eq_true rfl);have g1 : gt s 1 = v_1 := hg 1 (Nat.le_of_ble_eq_true rfl);clear hg;unfold P_semigroupref03_FromPairs at hp;show wp E0 c_semigroupref03_FromPairs s H _;unfold c_semigroupref03_FromPairs;refine AM.wp_seq hp0 (AM.wp_reg hp0 ?_);refine wpo_seg hp0 1 (fun s H' => s.length = 25 ∧ gt s 0 = .int .i64 n ∧ gt s 1 = v_1 ∧ H = H') (by simp only [↓runs, isCall, ↓reduceIte, ↓gd_true, ↓gd_false, evs, AV.cells, Nat.reduceEqDiff, Nat.reduceLT, reduceCtorEq, Nat.reduceAdd, sy, g0, g1, hl]) ?_;rintro s _ ⟨hl, g0, g1, rfl⟩;refine wpo_nil (then_n ?_);refine AM.wp_seq hp0 (AM.wp_reg hp0 ?_);refine wpo_seg hp0 1 (fun s H' => s.length = 25 ∧ gt s 1 = v_1 ∧ gt s 8 = .int .i64 n ∧ H = H') (by simp only [↓runs, isCall, ↓reduceIte, ↓gd_true, ↓gd_false, evs, AV.cells, Nat.reduceEqDiff, Nat.reduceLT, reduceCtorEq, Nat.reduceAdd, sy, g0, g1, hl]) ?_;rintro s _ ⟨hl, g1, g8, rfl⟩;obtain ⟨r1, e2, hp⟩ := bn hp;refine wpo_callK hp0 rfl (ys := [.int .i64 n]) (by simp only [evs, List.map_cons, List.map_nil, ev_t, ev_c, g8]) (R_semigroupref03_Discrete hst e2) ?_;rintro rv3 H ⟨W, w4, fg5, hst, o6⟩;replace h_1 := Rp.mono w4 h_1;refine wpo_seg hp0 1 (fun s H' => s.length = 25 ∧ gt s 1 = v_1 ∧ gt s 5 = rv3 ∧ H = H') (by simp only [↓runs, isCall, ↓reduceIte, ↓gd_true, ↓gd_false, evs, AV.cells, Nat.reduceEqDiff, Nat.reduceLT, reduceCtorEq, Nat.reduceAdd, sy, gt_other, g1, g8, hl]) ?_;rintro s _ ⟨hl, g1, g5, rfl⟩;refine wpo_nil (then_n ?_);refine AM.wp_seq hp0 (AM.wp_seq hp0 (AM.wp_reg hp0 ?_));have f7 := fz_ln h_1;refine wpo_seg hp0 3 (fun s H' => s.length = 25 ∧ gt s 5 = rv3 ∧ gt s 10 = v_1 ∧ gt s 11 = .int .i64 (pairs.length : Int) ∧ gt s 12 = .int .i64 0 ∧ H = H') (by simp only [↓runs, isCall, ↓reduceIte, ↓gd_true, ↓gd_false, evs, AV.cells, Nat.reduceEqDiff, Nat.reduceLT, reduceCtorEq, Nat.reduceAdd, sy, f7, g1, g5, hl]) ?_;rintro s _ ⟨hl, g5, g10, g11, g12, rfl⟩;refine wpo_nil (then_n ?_);obtain ⟨z14, e15, hp⟩ := bn hp;refine rangeS_ref hp0 25 pairs.length (fun k x => P_semigroupref03_FromPairs_l8 pairs k x) (fun _ x s H' => ∃ (W' : AH) (qo1 : Frag), s.length = 25 ∧ gt s 5 = rv3 ∧ gt s 10 = v_1 ∧  Wle W W' ∧ St (qo1 :: G) W' H' ∧ OwS W' rv3 qo1 (x : List Int)) e15 (fz_big h_1) rfl ?_ ?_ hl g12 g11 ?_ ?_
 ·intro k x s H d v hd h; rcases hd with rfl | rfl | rfl <;> simpa only [gt_other, pt_length, Nat.reduceEqDiff, not_false_eq_true] using h
 ·exact ⟨W, _, hl, g5, g10, .refl _, hst, o6⟩
 ·intro k10 x9 y11 s H hk hI hl g12 g11 hy12;change P_semigroupref03_FromPairs_l8 pairs k10 x9 = some y11 at hy12;unfold P_semigroupref03_FromPairs_l8 at hy12;obtain ⟨W, fg18, hl, g5, g10, w17, hst, o19⟩ := hI;replace h_1 := Rp.mono w17 h_1;refine AM.wp_seq hp0 (AM.wp_reg hp0 ?_);obtain ⟨x20, e21, hy12⟩ := bn hy12;obtain ⟨p22, y23, f24, f25, h26⟩ := fz_atA (k := .i64) 2 rfl hst h_1 e21 rfl;obtain rfl := pr_ii h26;obtain ⟨p27, H28, W, f30, f31, w29, hst⟩ := bx_new' hst [.int .i64 0, .int .i64 0];replace h_1 := Rp.mono w29 h_1;replace o19 := o19.mono w29;obtain ⟨H32, f33, hst⟩ := bx_st (y := .agg [.int .i64 x20.1, .int .i64 x20.2]) (n := 2) hst rfl rfl rfl;simp only [AV.cells] at hst;refine wpo_seg hp0 4 (fun s H' => s.length = 25 ∧ gt s 5 = rv3 ∧ gt s 7 = .ptr p27 0 ∧ gt s 10 = v_1 ∧ gt s 11 = .int .i64 (pairs.length : Int) ∧ gt s 12 = .int .i64 (k10 : Int) ∧ H32 = H') (by simp only [↓runs, isCall, ↓reduceIte, ↓gd_true, ↓gd_false, evs, AV.cells, Nat.reduceEqDiff, Nat.reduceLT, reduceCtorEq, Nat.reduceAdd, sy, f24, f25, f30, f31, f33, g5, g10, g11, g12, hl]) ?_;rintro s _ ⟨hl, g5, g7, g10, g11, g12, rfl⟩;refine wpo_nil (then_n ?_);refine AM.wp_reg hp0 ?_;have f34 : iaA 2 1 (.ptr p27 0) (.int .i64 0) = some (.ptr p27 0) := by simp [iaA]
  have f35 := bx_ld (i := 0) hst (.head _) rfl;have f36 : iaA 2 1 (.ptr p27 0) (.int .i64 1) = some (.ptr p27 1) := by simp [iaA]
  have f37 := bx_ld (i := 1) hst (.head _) rfl;refine wpo_seg hp0 5 (fun s H' => s.length = 25 ∧ gt s 5 = rv3 ∧ gt s 10 = v_1 ∧ gt s 11 = .int .i64 (pairs.length : Int) ∧ gt s 12 = .int .i64 (k10 : Int) ∧ gt s 16 = rv3 ∧ gt s 18 = .int .i64 x20.1 ∧ gt s 20 = .int .i64 x20.2 ∧ H32 = H') (by simp only [↓runs, isCall, ↓reduceIte, ↓gd_true, ↓gd_false, evs, AV.cells, Nat.reduceEqDiff, Nat.reduceLT, reduceCtorEq, Nat.reduceAdd, sy, f34, f35, f36, f37, g5, g7, g10, g11, g12, hl]) ?_;rintro s _ ⟨hl, g5, g10, g11, g12, g16, g18, g20, rfl⟩;obtain ⟨r38, e39, hy12⟩ := bn hy12;replace hst := hst.p1;refine wpo_callK hp0 rfl (ys := [rv3, .int .i64 x20.1, .int .i64 x20.2]) (by simp only [evs, List.map_cons, List.map_nil, ev_t, ev_c, g16, g18, g20]) (R_semigroupref03_Merge hst o19 e39) ?_;rintro rv40 H ⟨W, w41, fg42, hst, rfl, o43⟩;replace h_1 := Rp.mono w41 h_1;refine wpo_seg hp0 0 (fun s H' => s.length = 25 ∧ gt s 5 = rv3 ∧ gt s 10 = v_1 ∧ gt s 11 = .int .i64 (pairs.length : Int) ∧ gt s 12 = .int .i64 (k10 : Int) ∧ H = H') (by simp only [↓runs, isCall, ↓reduceIte, ↓gd_true, ↓gd_false, evs, AV.cells, Nat.reduceEqDiff, Nat.reduceLT, reduceCtorEq, Nat.reduceAdd, sy, gt_other, g5, g10, g11, g12, g16, g18, g20, hl]) ?_;rintro s _ ⟨hl, g5, g10, g11, g12, rfl⟩;refine wpo_nil ?_;refine rnd_n ?_;obtain rfl := Option.some.inj hy12;replace hst := hst.p1;replace hst := hst.drop;exact ⟨hl, g12, g11, ⟨W, _, hl, g5, g10, ((w17.trans w29).trans w41), hst, o43⟩⟩
 ·rintro s H hI _;obtain ⟨W, fg45, hl, g5, g10, w44, hst, o46⟩ := hI;replace h_1 := Rp.mono w44 h_1;refine then_n ?_;refine AM.wp_seq hp0 (AM.wp_reg hp0 ?_);refine wpo_seg hp0 1 (fun s H' => s.length = 25 ∧ gt s 23 = rv3 ∧ H = H') (by simp only [↓runs, isCall, ↓reduceIte, ↓gd_true, ↓gd_false, evs, AV.cells, Nat.reduceEqDiff, Nat.reduceLT, reduceCtorEq, Nat.reduceAdd, sy, g5, g10, hl]) ?_;rintro s _ ⟨hl, g23, rfl⟩;obtain ⟨W, w48, hst, h47⟩ := ow_frz hst o46;obtain ⟨r49, e50, hp⟩ := bn hp;refine wpo_callK hp0 rfl (ys := [rv3]) (by simp only [evs, List.map_cons, List.map_nil, ev_t, ev_c, g23]) (R_semigroupref03_Canonical hst h47 e50) ?_;rintro rv51 H ⟨W, w52, fg53, hst, o54⟩;replace h47 := Rp.mono w52 h47;refine wpo_seg hp0 1 (fun s H' => s.length = 25 ∧ gt s 4 = rv51 ∧ H = H') (by simp only [↓runs, isCall, ↓reduceIte, ↓gd_true, ↓gd_false, evs, AV.cells, Nat.reduceEqDiff, Nat.reduceLT, reduceCtorEq, Nat.reduceAdd, sy, gt_other, g23, hl]) ?_;rintro s _ ⟨hl, g4, rfl⟩;refine wpo_nil (then_n ?_);refine AM.wp_ret ?_;obtain rfl := Option.some.inj hp;refine body_ret (vs := [rv51]) (by simp only [rvs, f_semigroupref03_FromPairs, Option.map_some, g4]) ?_;exact ⟨W, (((w4.trans w44).trans w48).trans w52), _, hst, o54⟩

end Go.Proofs.Ytmdpejgnkoneoaa.Pu
set_option maxRecDepth 100000
set_option maxHeartbeats 4000000
namespace Go.Proofs.Ytmdpejgnkoneoaa.Pu
open Go Go.AM Go.Proofs.Ytmdpejgnkoneoaa.Code

noncomputable def P_semigroupref19_Generated_l51 (k25 : Nat) (side : Int) (t : List (List Int)) (y45 : Int) (changed59 : Bool) (s60 : Int) (x61 : List Int) : Option (Lp (Bool × Int × (List Int)) (Empty)) :=
 Option.bind (
  if decide (s60 < (t.length : Int)) then
   Option.bind (gi x61 (k25 : Int)) fun x69 =>
   Option.bind (gi x61 y45) fun x76 =>
   some (decide (x69 = x76))
  else
   some false) fun z65 =>
 if z65 then
  Option.bind (gi t s60) fun x85 =>
  Option.bind (gi x85 (k25 : Int)) fun x92 =>
  Option.bind (gi x85 y45) fun x99 =>
  Option.bind (
   if !decide (side = 2) then
    Option.bind (gi x61 x92) fun x109 =>
    Option.bind (gi x61 x99) fun x116 =>
    some (!decide (x109 = x116))
   else
    some false) fun z106 =>
  if z106 then
   Option.bind (P_semigroupref03_Merge x61 x92 x99) fun r125 =>
   Option.bind (gi t (k25 : Int)) fun x131 =>
   Option.bind (gi x131 s60) fun x138 =>
   Option.bind (gi t y45) fun x145 =>
   Option.bind (gi x145 s60) fun x152 =>
   Option.bind (
    if !decide (side = 1) then
     Option.bind (gi r125 x138) fun x162 =>
     Option.bind (gi r125 x152) fun x169 =>
     some (!decide (x162 = x169))
    else
     some false) fun z159 =>
   if z159 then
    Option.bind (P_semigroupref03_Merge r125 x138 x152) fun r178 =>
    some (.go (true, w64 (s60 + 1), r178))
   else
    some (.go (true, w64 (s60 + 1), r125))
  else
   Option.bind (gi t (k25 : Int)) fun x184 =>
   Option.bind (gi x184 s60) fun x191 =>
   Option.bind (gi t y45) fun x198 =>
   Option.bind (gi x198 s60) fun x205 =>
   Option.bind (
    if !decide (side = 1) then
     Option.bind (gi x61 x191) fun x215 =>
     Option.bind (gi x61 x205) fun x222 =>
     some (!decide (x215 = x222))
    else
     some false) fun z212 =>
   if z212 then
    Option.bind (P_semigroupref03_Merge x61 x191 x205) fun r231 =>
    some (.go (true, w64 (s60 + 1), r231))
   else
    some (.go (changed59, w64 (s60 + 1), x61))
 else
  some (.br (changed59, s60, x61))
noncomputable def P_semigroupref19_Generated_l36 (k25 : Nat) (side : Int) (t : List (List Int)) (changed44 : Bool) (y45 : Int) (x46 : List Int) : Option (Lp (Bool × Int × (List Int)) (Empty)) :=
 if decide (y45 < (k25 : Int)) then
  Option.bind (loopO (fun x => P_semigroupref19_Generated_l51 k25 side t y45 x.1 x.2.1 x.2.2) (changed44, 0, x46)) fun z57 =>
  match z57 with
  | .inl x237 =>
   some (.go (x237.1, w64 (y45 + 1), x237.2.2))
  | .inr b => b.elim
 else
  some (.br (changed44, y45, x46))
noncomputable def P_semigroupref19_Generated_l23 (side : Int) (t : List (List Int)) (k25 : Nat) (changed31 : Bool) (x32 : List Int) : Option (Bool × (List Int)) :=
 Option.bind (loopO (fun x => P_semigroupref19_Generated_l36 k25 side t x.1 x.2.1 x.2.2) (changed31, 0, x32)) fun z42 =>
 match z42 with
 | .inl x241 =>
  some (x241.1, x241.2.2)
 | .inr b => b.elim
noncomputable def P_semigroupref19_Generated_l8 (side : Int) (t : List (List Int)) (changed16 : Bool) (x17 : List Int) : Option (Lp (Bool × (List Int)) (Empty)) :=
 if changed16 then
  Option.bind (forS t.length (fun k x => P_semigroupref19_Generated_l23 side t k x.1 x.2) (false, x17)) fun z29 =>
  some (.go (z29.1, z29.2))
 else
  some (.br (changed16, x17))
noncomputable def P_semigroupref19_Generated (t : List (List Int)) (pairs : List (Int × Int)) (side : Int) : Option ((List Int)) :=
 Option.bind (P_semigroupref03_FromPairs (t.length : Int) pairs) fun r2 =>
 Option.bind (loopO (fun x => P_semigroupref19_Generated_l8 side t x.1 x.2) (true, r2)) fun z14 =>
 match z14 with
 | .inl x248 =>
  Option.bind (P_semigroupref03_Canonical x248.2) fun r254 =>
  some r254
 | .inr b => b.elim
theorem R_semigroupref19_Generated {G : List Frag} {W H : AH} {v_0 v_1 : AV} {t : List (List Int)} {pairs : List (Int × Int)} {side : Int} (hst : St G W H) (h_0 : Rp.rv W v_0 t) (h_1 : Rp.rv W v_1 pairs) {r : (List Int)} (hp : P_semigroupref19_Generated t pairs side = some r) :
  wpc E0 N_semigroupref19_Generated [v_0, v_1, .int .i64 side] H fun rv H' => ∃ W', Wle W W' ∧ ∃ (g0 : Frag), St (g0 :: G) W' H' ∧ OwS W' rv g0 (r : List Int) := by
 refine enterN (F := f_semigroupref19_Generated) rfl (Nat.le_of_ble_eq_true rfl) fun s hl hg => ?_;replace hl : s.length = 113 := hl;have g0 : gt s 0 = v_0 := hg 0 (Nat.le_of_ble_eq_true rfl);have g1 : gt s 1 = v_1 := hg 1 (Nat.le_of_ble_eq_true rfl);have g2 : gt s 2 = .int .i64 side := hg 2 (Nat.le_of_ble_eq_true rfl);clear hg;unfold P_semigroupref19_Generated at hp;show wp E0 c_semigroupref19_Generated s H _;unfold c_semigroupref19_Generated;refine AM.wp_seq hp0 (AM.wp_reg hp0 ?_);refine wpo_seg hp0 1 (fun s H' => s.length = 113 ∧ gt s 0 = v_0 ∧ gt s 1 = v_1 ∧ gt s 2 = .int .i64 side ∧ H = H') (by simp only [↓runs, isCall, ↓reduceIte, ↓gd_true, ↓gd_false, evs, AV.cells, Nat.reduceEqDiff, Nat.reduceLT, reduceCtorEq, Nat.reduceAdd, sy, g0, g1, g2, hl]) ?_;rintro s _ ⟨hl, g0, g1, g2, rfl⟩;refine wpo_nil (then_n ?_);refine AM.wp_seq hp0 (AM.wp_reg hp0 ?_);have f1 := fz_ln h_0;refine wpo_seg hp0 3 (fun s H' => s.length = 113 ∧ gt s 0 = v_0 ∧ gt s 2 = .int .i64 side ∧ gt s 17 = .int .i64 (t.length : Int) ∧ gt s 18 = v_1 ∧ H = H') (by simp only [↓runs, isCall, ↓reduceIte, ↓gd_true, ↓gd_false, evs, AV.cells, Nat.reduceEqDiff, Nat.reduceLT, reduceCtorEq, Nat.reduceAdd, sy, f1, g0, g1, g2, hl]) ?_;rintro s _ ⟨hl, g0, g2, g17, g18, rfl⟩;obtain ⟨r2, e3, hp⟩ := bn hp;refine wpo_callK hp0 rfl (ys := [.int .i64 (t.length : Int), v_1]) (by simp only [evs, List.map_cons, List.map_nil, ev_t, ev_c, g17, g18]) (R_semigroupref03_FromPairs hst h_1 e3) ?_;rintro rv4 H ⟨W, w5, fg6, hst, o7⟩;replace h_0 := Rp.mono w5 h_0;replace h_1 := Rp.mono w5 h_1;refine wpo_seg hp0 1 (fun s H' => s.length = 113 ∧ gt s 0 = v_0 ∧ gt s 2 = .int .i64 side ∧ gt s 7 = rv4 ∧ H = H') (by simp only [↓runs, isCall, ↓reduceIte, ↓gd_true, ↓gd_false, evs, AV.cells, Nat.reduceEqDiff, Nat.reduceLT, reduceCtorEq, Nat.reduceAdd, sy, gt_other, g0, g2, g17, g18, hl]) ?_;rintro s _ ⟨hl, g0, g2, g7, rfl⟩;refine wpo_nil (then_n ?_);refine AM.wp_seq hp0 (AM.wp_seq hp0 (AM.wp_reg hp0 ?_));refine wpo_seg hp0 1 (fun s H' => s.length = 113 ∧ gt s 0 = v_0 ∧ gt s 2 = .int .i64 side ∧ gt s 7 = rv4 ∧ gt s 8 = .bool true ∧ H = H') (by simp only [↓runs, isCall, ↓reduceIte, ↓gd_true, ↓gd_false, evs, AV.cells, Nat.reduceEqDiff, Nat.reduceLT, reduceCtorEq, Nat.reduceAdd, sy, g0, g2, g7, hl]) ?_;rintro s _ ⟨hl, g0, g2, g7, g8, rfl⟩;refine wpo_nil (then_n ?_);obtain ⟨z14, e15, hp⟩ := bn hp;refine loop_ref hp0 (fun x => P_semigroupref19_Generated_l8 side t x.1 x.2) (fun x s H' => ∃ (W' : AH) (qo1 : Frag), s.length = 113 ∧ gt s 8 = .bool x.1 ∧ gt s 0 = v_0 ∧ gt s 2 = .int .i64 side ∧ gt s 7 = rv4 ∧  Wle W W' ∧ St (qo1 :: G) W' H' ∧ OwS W' rv4 qo1 (x.2 : List Int)) (fun x s H' => ∃ (W' : AH) (qo1 : Frag), s.length = 113 ∧ gt s 7 = rv4 ∧  Wle W W' ∧ St (qo1 :: G) W' H' ∧ OwS W' rv4 qo1 (x.2 : List Int)) e15 ?_ ?_ ?_
 ·exact ⟨W, _, hl, g8, g0, g2, g7, .refl _, hst, o7⟩
 ·intro x9 y11 s H hI hy12 hx13;obtain ⟨changed16, x17⟩ := x9;dsimp only at hI;change P_semigroupref19_Generated_l8 side t changed16 x17 = some y11 at hy12;unfold P_semigroupref19_Generated_l8 at hy12;obtain ⟨W, fg19, hl, g8, g0, g2, g7, w18, hst, o20⟩ := hI;replace h_0 := Rp.mono w18 h_0;refine AM.wp_seq hp0 (AM.wp_seq hp0 (AM.wp_reg hp0 ?_));refine wpo_seg hp0 1 (fun s H' => s.length = 113 ∧ gt s 0 = v_0 ∧ gt s 2 = .int .i64 side ∧ gt s 7 = rv4 ∧ gt s 20 = .bool changed16 ∧ H = H') (by simp only [↓runs, isCall, ↓reduceIte, ↓gd_true, ↓gd_false, evs, AV.cells, Nat.reduceEqDiff, Nat.reduceLT, reduceCtorEq, Nat.reduceAdd, sy, g0, g2, g7, g8, hl]) ?_;rintro s _ ⟨hl, g0, g2, g7, g20, rfl⟩;refine wpo_nil (then_n ?_);rcases Bool.eq_false_or_eq_true (changed16) with c21 | c21
  ·replace hy12 := ifT c21 hy12;refine AM.wp_condT (by simp only [ev_t, ev_c, g20, c21]) ?_;refine AM.wp_skip ?_;refine then_n ?_;refine AM.wp_block ?_;refine AM.wp_seq hp0 (AM.wp_reg hp0 ?_);refine wpo_seg hp0 1 (fun s H' => s.length = 113 ∧ gt s 0 = v_0 ∧ gt s 2 = .int .i64 side ∧ gt s 7 = rv4 ∧ gt s 8 = .bool false ∧ H = H') (by simp only [↓runs, isCall, ↓reduceIte, ↓gd_true, ↓gd_false, evs, AV.cells, Nat.reduceEqDiff, Nat.reduceLT, reduceCtorEq, Nat.reduceAdd, sy, g0, g2, g7, g20, hl]) ?_;rintro s _ ⟨hl, g0, g2, g7, g8, rfl⟩;refine wpo_nil (then_n ?_);refine AM.wp_seq hp0 (AM.wp_reg hp0 ?_);have f22 := fz_ln h_0;refine wpo_seg hp0 3 (fun s H' => s.length = 113 ∧ gt s 0 = v_0 ∧ gt s 2 = .int .i64 side ∧ gt s 7 = rv4 ∧ gt s 8 = .bool false ∧ gt s 22 = .int .i64 (t.length : Int) ∧ gt s 23 = .int .i64 0 ∧ H = H') (by simp only [↓runs, isCall, ↓reduceIte, ↓gd_true, ↓gd_false, evs, AV.cells, Nat.reduceEqDiff, Nat.reduceLT, reduceCtorEq, Nat.reduceAdd, sy, f22, g0, g2, g7, g8, hl]) ?_;rintro s _ ⟨hl, g0, g2, g7, g8, g22, g23, rfl⟩;refine wpo_nil (then_n ?_);obtain ⟨z29, e30, hy12⟩ := bn hy12;refine rangeS_ref hp0 113 t.length (fun k x => P_semigroupref19_Generated_l23 side t k x.1 x.2) (fun _ x s H' => ∃ (W' : AH) (qo1 : Frag), s.length = 113 ∧ gt s 8 = .bool x.1 ∧ gt s 0 = v_0 ∧ gt s 2 = .int .i64 side ∧ gt s 7 = rv4 ∧  Wle W W' ∧ St (qo1 :: G) W' H' ∧ OwS W' rv4 qo1 (x.2 : List Int)) e30 (fz_big h_0) rfl ?_ ?_ hl g23 g22 ?_ ?_
   ·intro k x s H d v hd h; rcases hd with rfl | rfl | rfl <;> simpa only [gt_other, pt_length, Nat.reduceEqDiff, not_false_eq_true] using h
   ·exact ⟨W, _, hl, g8, g0, g2, g7, .refl _, hst, o20⟩
   ·intro k25 x24 y26 s H hk hI hl g23 g22 hy27;obtain ⟨changed31, x32⟩ := x24;dsimp only at hI;change P_semigroupref19_Generated_l23 side t k25 changed31 x32 = some y26 at hy27;unfold P_semigroupref19_Generated_l23 at hy27;obtain ⟨W, fg34, hl, g8, g0, g2, g7, w33, hst, o35⟩ := hI;replace h_0 := Rp.mono w33 h_0;refine AM.wp_seq hp0 (AM.wp_reg hp0 ?_);refine wpo_seg hp0 2 (fun s H' => s.length = 113 ∧ gt s 0 = v_0 ∧ gt s 2 = .int .i64 side ∧ gt s 7 = rv4 ∧ gt s 8 = .bool changed31 ∧ gt s 9 = .int .i64 (k25 : Int) ∧ gt s 22 = .int .i64 (t.length : Int) ∧ gt s 23 = .int .i64 (k25 : Int) ∧ H = H') (by simp only [↓runs, isCall, ↓reduceIte, ↓gd_true, ↓gd_false, evs, AV.cells, Nat.reduceEqDiff, Nat.reduceLT, reduceCtorEq, Nat.reduceAdd, sy, g0, g2, g7, g8, g22, g23, hl]) ?_;rintro s _ ⟨hl, g0, g2, g7, g8, g9, g22, g23, rfl⟩;refine wpo_nil (then_n ?_);refine AM.wp_seq hp0 (AM.wp_reg hp0 ?_);refine wpo_seg hp0 1 (fun s H' => s.length = 113 ∧ gt s 0 = v_0 ∧ gt s 2 = .int .i64 side ∧ gt s 7 = rv4 ∧ gt s 8 = .bool changed31 ∧ gt s 9 = .int .i64 (k25 : Int) ∧ gt s 10 = .int .i64 0 ∧ gt s 22 = .int .i64 (t.length : Int) ∧ gt s 23 = .int .i64 (k25 : Int) ∧ H = H') (by simp only [↓runs, isCall, ↓reduceIte, ↓gd_true, ↓gd_false, evs, AV.cells, Nat.reduceEqDiff, Nat.reduceLT, reduceCtorEq, Nat.reduceAdd, sy, g0, g2, g7, g8, g9, g22, g23, hl]) ?_;rintro s _ ⟨hl, g0, g2, g7, g8, g9, g10, g22, g23, rfl⟩;refine wpo_nil (then_n ?_);obtain ⟨z42, e43, hy27⟩ := bn hy27;refine loop_ref hp0 (fun x => P_semigroupref19_Generated_l36 k25 side t x.1 x.2.1 x.2.2) (fun x s H' => ∃ (W' : AH) (qo1 : Frag), s.length = 113 ∧ gt s 8 = .bool x.1 ∧ gt s 10 = .int .i64 x.2.1 ∧ gt s 0 = v_0 ∧ gt s 2 = .int .i64 side ∧ gt s 7 = rv4 ∧ gt s 9 = .int .i64 (k25 : Int) ∧ gt s 22 = .int .i64 (t.length : Int) ∧ gt s 23 = .int .i64 (k25 : Int) ∧  Wle W W' ∧ St (qo1 :: G) W' H' ∧ OwS W' rv4 qo1 (x.2.2 : List Int)) (fun x s H' => ∃ (W' : AH) (qo1 : Frag), s.length = 113 ∧ gt s 8 = .bool x.1 ∧ gt s 0 = v_0 ∧ gt s 2 = .int .i64 side ∧ gt s 7 = rv4 ∧ gt s 22 = .int .i64 (t.length : Int) ∧ gt s 23 = .int .i64 (k25 : Int) ∧  Wle W W' ∧ St (qo1 :: G) W' H' ∧ OwS W' rv4 qo1 (x.2.2 : List Int)) e43 ?_ ?_ ?_
    ·exact ⟨W, _, hl, g8, g10, g0, g2, g7, g9, g22, g23, .refl _, hst, o35⟩
    ·intro x37 y39 s H hI hy40 hx41;obtain ⟨changed44, y45, x46⟩ := x37;dsimp only at hI;change P_semigroupref19_Generated_l36 k25 side t changed44 y45 x46 = some y39 at hy40;unfold P_semigroupref19_Generated_l36 at hy40;obtain ⟨W, fg48, hl, g8, g10, g0, g2, g7, g9, g22, g23, w47, hst, o49⟩ := hI;replace h_0 := Rp.mono w47 h_0;refine AM.wp_seq hp0 (AM.wp_seq hp0 (AM.wp_reg hp0 ?_));refine wpo_seg hp0 3 (fun s H' => s.length = 113 ∧ gt s 0 = v_0 ∧ gt s 2 = .int .i64 side ∧ gt s 7 = rv4 ∧ gt s 8 = .bool changed44 ∧ gt s 9 = .int .i64 (k25 : Int) ∧ gt s 10 = .int .i64 y45 ∧ gt s 22 = .int .i64 (t.length : Int) ∧ gt s 23 = .int .i64 (k25 : Int) ∧ gt s 28 = .bool (decide (y45 < (k25 : Int))) ∧ H = H') (by simp only [↓runs, isCall, ↓reduceIte, ↓gd_true, ↓gd_false, evs, AV.cells, Nat.reduceEqDiff, Nat.reduceLT, reduceCtorEq, Nat.reduceAdd, sy, g0, g2, g7, g8, g9, g10, g22, g23, hl]) ?_;rintro s _ ⟨hl, g0, g2, g7, g8, g9, g10, g22, g23, g28, rfl⟩;refine wpo_nil (then_n ?_);rcases Bool.eq_false_or_eq_true (decide (y45 < (k25 : Int))) with c50 | c50
     ·replace hy40 := ifT c50 hy40;refine AM.wp_condT (by simp only [ev_t, ev_c, g28, c50]) ?_;refine AM.wp_skip ?_;refine then_n ?_;refine AM.wp_seq hp0 ?_;refine AM.wp_block ?_;refine AM.wp_seq hp0 (AM.wp_reg hp0 ?_);refine wpo_seg hp0 1 (fun s H' => s.length = 113 ∧ gt s 0 = v_0 ∧ gt s 2 = .int .i64 side ∧ gt s 7 = rv4 ∧ gt s 8 = .bool changed44 ∧ gt s 9 = .int .i64 (k25 : Int) ∧ gt s 10 = .int .i64 y45 ∧ gt s 11 = .int .i64 0 ∧ gt s 22 = .int .i64 (t.length : Int) ∧ gt s 23 = .int .i64 (k25 : Int) ∧ H = H') (by simp only [↓runs, isCall, ↓reduceIte, ↓gd_true, ↓gd_false, evs, AV.cells, Nat.reduceEqDiff, Nat.reduceLT, reduceCtorEq, Nat.reduceAdd, sy, g0, g2, g7, g8, g9, g10, g22, g23, g28, hl]) ?_;rintro s _ ⟨hl, g0, g2, g7, g8, g9, g10, g11, g22, g23, rfl⟩;refine wpo_nil (then_n ?_);obtain ⟨z57, e58, hy40⟩ := bn hy40;refine loop_ref hp0 (fun x => P_semigroupref19_Generated_l51 k25 side t y45 x.1 x.2.1 x.2.2) (fun x s H' => ∃ (W' : AH) (qo1 : Frag), s.length = 113 ∧ gt s 8 = .bool x.1 ∧ gt s 11 = .int .i64 x.2.1 ∧ gt s 0 = v_0 ∧ gt s 2 = .int .i64 side ∧ gt s 7 = rv4 ∧ gt s 9 = .int .i64 (k25 : Int) ∧ gt s 10 = .int .i64 y45 ∧ gt s 22 = .int .i64 (t.length : Int) ∧ gt s 23 = .int .i64 (k25 : Int) ∧  Wle W W' ∧ St (qo1 :: G) W' H' ∧ OwS W' rv4 qo1 (x.2.2 : List Int)) (fun x s H' => ∃ (W' : AH) (qo1 : Frag), s.length = 113 ∧ gt s 8 = .bool x.1 ∧ gt s 0 = v_0 ∧ gt s 2 = .int .i64 side ∧ gt s 7 = rv4 ∧ gt s 9 = .int .i64 (k25 : Int) ∧ gt s 10 = .int .i64 y45 ∧ gt s 22 = .int .i64 (t.length : Int) ∧ gt s 23 = .int .i64 (k25 : Int) ∧  Wle W W' ∧ St (qo1 :: G) W' H' ∧ OwS W' rv4 qo1 (x.2.2 : List Int)) e58 ?_ ?_ ?_
      ·exact ⟨W, _, hl, g8, g11, g0, g2, g7, g9, g10, g22, g23, .refl _, hst, o49⟩
      ·intro x52 y54 s H hI hy55 hx56;obtain ⟨changed59, s60, x61⟩ := x52;dsimp only at hI;change P_semigroupref19_Generated_l51 k25 side t y45 changed59 s60 x61 = some y54 at hy55;unfold P_semigroupref19_Generated_l51 at hy55;obtain ⟨W, fg63, hl, g8, g11, g0, g2, g7, g9, g10, g22, g23, w62, hst, o64⟩ := hI;replace h_0 := Rp.mono w62 h_0;refine AM.wp_seq hp0 (AM.wp_seq hp0 ?_);obtain ⟨z65, hj66, hy55⟩ := bn hy55;refine AM.wp_regK hp0 (fun s H' => s.length = 113 ∧ gt s 45 = .bool z65 ∧ gt s 0 = v_0 ∧ gt s 2 = .int .i64 side ∧ gt s 7 = rv4 ∧ gt s 8 = .bool changed59 ∧ gt s 9 = .int .i64 (k25 : Int) ∧ gt s 10 = .int .i64 y45 ∧ gt s 11 = .int .i64 s60 ∧ gt s 22 = .int .i64 (t.length : Int) ∧ gt s 23 = .int .i64 (k25 : Int) ∧ H = H') ?_ ?_
       ·have f67 := fz_ln h_0;rcases Bool.eq_false_or_eq_true (decide (s60 < (t.length : Int))) with c68 | c68
        ·replace hj66 := ifT c68 hj66;obtain ⟨x69, e70, hj66⟩ := bn hj66;obtain ⟨p71, _, f73, f74, rfl⟩ := ow_at (k := .i64) hst (.head _) o64 e70 rfl;obtain ⟨x76, e77, hj66⟩ := bn hj66;obtain ⟨p78, _, f80, f81, rfl⟩ := ow_at (k := .i64) hst (.head _) o64 e77 rfl;refine wpo_seg hp0 15 (fun s H' => s.length = 113 ∧ gt s 0 = v_0 ∧ gt s 2 = .int .i64 side ∧ gt s 7 = rv4 ∧ gt s 8 = .bool changed59 ∧ gt s 9 = .int .i64 (k25 : Int) ∧ gt s 10 = .int .i64 y45 ∧ gt s 11 = .int .i64 s60 ∧ gt s 22 = .int .i64 (t.length : Int) ∧ gt s 23 = .int .i64 (k25 : Int) ∧ gt s 45 = .bool (decide (x69 = x76)) ∧ H = H') (by simp (maxSteps := 1000000) only [↓runs, isCall, ↓reduceIte, ↓gd_true, ↓gd_false, evs, AV.cells, Nat.reduceEqDiff, Nat.reduceLT, reduceCtorEq, Nat.reduceAdd, sy, f67, c68, f73, f74, f80, f81, g0, g2, g7, g8, g9, g10, g11, g22, g23, hl]) ?_;rintro s _ ⟨hl, g0, g2, g7, g8, g9, g10, g11, g22, g23, g45, rfl⟩;refine wpo_nil ?_;obtain rfl := Option.some.inj hj66;exact ⟨hl, g45, g0, g2, g7, g8, g9, g10, g11, g22, g23, rfl⟩
        ·replace hj66 := ifF c68 hj66;refine wpo_seg hp0 15 (fun s H' => s.length = 113 ∧ gt s 0 = v_0 ∧ gt s 2 = .int .i64 side ∧ gt s 7 = rv4 ∧ gt s 8 = .bool changed59 ∧ gt s 9 = .int .i64 (k25 : Int) ∧ gt s 10 = .int .i64 y45 ∧ gt s 11 = .int .i64 s60 ∧ gt s 22 = .int .i64 (t.length : Int) ∧ gt s 23 = .int .i64 (k25 : Int) ∧ gt s 45 = .bool false ∧ H = H') (by simp (maxSteps := 1000000) only [↓runs, isCall, ↓reduceIte, ↓gd_true, ↓gd_false, evs, AV.cells, Nat.reduceEqDiff, Nat.reduceLT, reduceCtorEq, Nat.reduceAdd, sy, f67, c68, g0, g2, g7, g8, g9, g10, g11, g22, g23, hl]) ?_;rintro s _ ⟨hl, g0, g2, g7, g8, g9, g10, g11, g22, g23, g45, rfl⟩;refine wpo_nil ?_;obtain rfl := Option.some.inj hj66;exact ⟨hl, g45, g0, g2, g7, g8, g9, g10, g11, g22, g23, rfl⟩
       ·rintro s _ ⟨hl, g45, g0, g2, g7, g8, g9, g10, g11, g22, g23, rfl⟩;refine then_n ?_;rcases Bool.eq_false_or_eq_true (z65) with c84 | c84
        ·replace hy55 := ifT c84 hy55;refine AM.wp_condT (by simp only [ev_t, ev_c, g45, c84]) ?_;refine AM.wp_skip ?_;refine then_n ?_;refine AM.wp_seq hp0 ?_;refine AM.wp_block ?_;refine AM.wp_seq hp0 (AM.wp_seq hp0 (AM.wp_reg hp0 ?_));obtain ⟨x85, e86, hy55⟩ := bn hy55;obtain ⟨p87, y88, f89, f90, h91⟩ := fz_at (k := .i64) hst h_0 e86 rfl;obtain ⟨x92, e93, hy55⟩ := bn hy55;obtain ⟨p94, _, f96, f97, rfl⟩ := fz_at (k := .i64) hst h91 e93 rfl;obtain ⟨x99, e100, hy55⟩ := bn hy55;obtain ⟨p101, _, f103, f104, rfl⟩ := fz_at (k := .i64) hst h91 e100 rfl;refine wpo_seg hp0 16 (fun s H' => s.length = 113 ∧ gt s 0 = v_0 ∧ gt s 2 = .int .i64 side ∧ gt s 7 = rv4 ∧ gt s 8 = .bool changed59 ∧ gt s 9 = .int .i64 (k25 : Int) ∧ gt s 10 = .int .i64 y45 ∧ gt s 11 = .int .i64 s60 ∧ gt s 12 = .int .i64 x92 ∧ gt s 13 = .int .i64 x99 ∧ gt s 22 = .int .i64 (t.length : Int) ∧ gt s 23 = .int .i64 (k25 : Int) ∧ H = H') (by simp (maxSteps := 1000000) only [↓runs, isCall, ↓reduceIte, ↓gd_true, ↓gd_false, evs, AV.cells, Nat.reduceEqDiff, Nat.reduceLT, reduceCtorEq, Nat.reduceAdd, sy, f89, f90, f96, f97, f103, f104, g0, g2, g7, g8, g9, g10, g11, g22, g23, g45, hl]) ?_;rintro s _ ⟨hl, g0, g2, g7, g8, g9, g10, g11, g12, g13, g22, g23, rfl⟩;refine wpo_nil (then_n ?_);refine AM.wp_seq hp0 ?_;obtain ⟨z106, hj107, hy55⟩ := bn hy55;refine AM.wp_regK hp0 (fun s H' => s.length = 113 ∧ gt s 74 = .bool z106 ∧ gt s 0 = v_0 ∧ gt s 2 = .int .i64 side ∧ gt s 7 = rv4 ∧ gt s 8 = .bool changed59 ∧ gt s 9 = .int .i64 (k25 : Int) ∧ gt s 10 = .int .i64 y45 ∧ gt s 11 = .int .i64 s60 ∧ gt s 12 = .int .i64 x92 ∧ gt s 13 = .int .i64 x99 ∧ gt s 22 = .int .i64 (t.length : Int) ∧ gt s 23 = .int .i64 (k25 : Int) ∧ H = H') ?_ ?_
         ·rcases Bool.eq_false_or_eq_true (!decide (side = 2)) with c108 | c108
          ·replace hj107 := ifT c108 hj107;obtain ⟨x109, e110, hj107⟩ := bn hj107;obtain ⟨p111, _, f113, f114, rfl⟩ := ow_at (k := .i64) hst (.head _) o64 e110 rfl;obtain ⟨x116, e117, hj107⟩ := bn hj107;obtain ⟨p118, _, f120, f121, rfl⟩ := ow_at (k := .i64) hst (.head _) o64 e117 rfl;refine wpo_seg hp0 13 (fun s H' => s.length = 113 ∧ gt s 0 = v_0 ∧ gt s 2 = .int .i64 side ∧ gt s 7 = rv4 ∧ gt s 8 = .bool changed59 ∧ gt s 9 = .int .i64 (k25 : Int) ∧ gt s 10 = .int .i64 y45 ∧ gt s 11 = .int .i64 s60 ∧ gt s 12 = .int .i64 x92 ∧ gt s 13 = .int .i64 x99 ∧ gt s 22 = .int .i64 (t.length : Int) ∧ gt s 23 = .int .i64 (k25 : Int) ∧ gt s 74 = .bool (!decide (x109 = x116)) ∧ H = H') (by simp (maxSteps := 1000000) only [↓runs, isCall, ↓reduceIte, ↓gd_true, ↓gd_false, evs, AV.cells, Nat.reduceEqDiff, Nat.reduceLT, reduceCtorEq, Nat.reduceAdd, sy, c108, f113, f114, f120, f121, g0, g2, g7, g8, g9, g10, g11, g12, g13, g22, g23, hl]) ?_;rintro s _ ⟨hl, g0, g2, g7, g8, g9, g10, g11, g12, g13, g22, g23, g74, rfl⟩;refine wpo_nil ?_;obtain rfl := Option.some.inj hj107;exact ⟨hl, g74, g0, g2, g7, g8, g9, g10, g11, g12, g13, g22, g23, rfl⟩
          ·replace hj107 := ifF c108 hj107;refine wpo_seg hp0 13 (fun s H' => s.length = 113 ∧ gt s 0 = v_0 ∧ gt s 2 = .int .i64 side ∧ gt s 7 = rv4 ∧ gt s 8 = .bool changed59 ∧ gt s 9 = .int .i64 (k25 : Int) ∧ gt s 10 = .int .i64 y45 ∧ gt s 11 = .int .i64 s60 ∧ gt s 12 = .int .i64 x92 ∧ gt s 13 = .int .i64 x99 ∧ gt s 22 = .int .i64 (t.length : Int) ∧ gt s 23 = .int .i64 (k25 : Int) ∧ gt s 74 = .bool false ∧ H = H') (by simp (maxSteps := 1000000) only [↓runs, isCall, ↓reduceIte, ↓gd_true, ↓gd_false, evs, AV.cells, Nat.reduceEqDiff, Nat.reduceLT, reduceCtorEq, Nat.reduceAdd, sy, c108, g0, g2, g7, g8, g9, g10, g11, g12, g13, g22, g23, hl]) ?_;rintro s _ ⟨hl, g0, g2, g7, g8, g9, g10, g11, g12, g13, g22, g23, g74, rfl⟩;refine wpo_nil ?_;obtain rfl := Option.some.inj hj107;exact ⟨hl, g74, g0, g2, g7, g8, g9, g10, g11, g12, g13, g22, g23, rfl⟩
         ·rintro s _ ⟨hl, g74, g0, g2, g7, g8, g9, g10, g11, g12, g13, g22, g23, rfl⟩;refine then_n ?_;rcases Bool.eq_false_or_eq_true (z106) with c124 | c124
          ·replace hy55 := ifT c124 hy55;refine AM.wp_condT (by simp only [ev_t, ev_c, g74, c124]) ?_;refine AM.wp_seq hp0 (AM.wp_reg hp0 ?_);refine wpo_seg hp0 3 (fun s H' => s.length = 113 ∧ gt s 0 = v_0 ∧ gt s 2 = .int .i64 side ∧ gt s 7 = rv4 ∧ gt s 9 = .int .i64 (k25 : Int) ∧ gt s 10 = .int .i64 y45 ∧ gt s 11 = .int .i64 s60 ∧ gt s 22 = .int .i64 (t.length : Int) ∧ gt s 23 = .int .i64 (k25 : Int) ∧ gt s 75 = rv4 ∧ gt s 76 = .int .i64 x92 ∧ gt s 77 = .int .i64 x99 ∧ H = H') (by simp only [↓runs, isCall, ↓reduceIte, ↓gd_true, ↓gd_false, evs, AV.cells, Nat.reduceEqDiff, Nat.reduceLT, reduceCtorEq, Nat.reduceAdd, sy, g0, g2, g7, g8, g9, g10, g11, g12, g13, g22, g23, g74, hl]) ?_;rintro s _ ⟨hl, g0, g2, g7, g9, g10, g11, g22, g23, g75, g76, g77, rfl⟩;obtain ⟨r125, e126, hy55⟩ := bn hy55;refine wpo_callK hp0 rfl (ys := [rv4, .int .i64 x92, .int .i64 x99]) (by simp only [evs, List.map_cons, List.map_nil, ev_t, ev_c, g75, g76, g77]) (R_semigroupref03_Merge hst o64 e126) ?_;rintro rv127 H ⟨W, w128, fg129, hst, rfl, o130⟩;replace h_0 := Rp.mono w128 h_0;refine wpo_seg hp0 0 (fun s H' => s.length = 113 ∧ gt s 0 = v_0 ∧ gt s 2 = .int .i64 side ∧ gt s 7 = rv4 ∧ gt s 9 = .int .i64 (k25 : Int) ∧ gt s 10 = .int .i64 y45 ∧ gt s 11 = .int .i64 s60 ∧ gt s 22 = .int .i64 (t.length : Int) ∧ gt s 23 = .int .i64 (k25 : Int) ∧ H = H') (by simp only [↓runs, isCall, ↓reduceIte, ↓gd_true, ↓gd_false, evs, AV.cells, Nat.reduceEqDiff, Nat.reduceLT, reduceCtorEq, Nat.reduceAdd, sy, gt_other, g0, g2, g7, g9, g10, g11, g22, g23, g75, g76, g77, hl]) ?_;rintro s _ ⟨hl, g0, g2, g7, g9, g10, g11, g22, g23, rfl⟩;refine wpo_nil (then_n ?_);refine AM.wp_reg hp0 ?_;refine wpo_seg hp0 1 (fun s H' => s.length = 113 ∧ gt s 0 = v_0 ∧ gt s 2 = .int .i64 side ∧ gt s 7 = rv4 ∧ gt s 8 = .bool true ∧ gt s 9 = .int .i64 (k25 : Int) ∧ gt s 10 = .int .i64 y45 ∧ gt s 11 = .int .i64 s60 ∧ gt s 22 = .int .i64 (t.length : Int) ∧ gt s 23 = .int .i64 (k25 : Int) ∧ H = H') (by simp only [↓runs, isCall, ↓reduceIte, ↓gd_true, ↓gd_false, evs, AV.cells, Nat.reduceEqDiff, Nat.reduceLT, reduceCtorEq, Nat.reduceAdd, sy, g0, g2, g7, g9, g10, g11, g22, g23, hl]) ?_;rintro s _ ⟨hl, g0, g2, g7, g8, g9, g10, g11, g22, g23, rfl⟩;refine wpo_nil (then_n ?_);refine AM.wp_seq hp0 (AM.wp_reg hp0 ?_);obtain ⟨x131, e132, hy55⟩ := bn hy55;obtain ⟨p133, y134, f135, f136, h137⟩ := fz_at (k := .i64) hst h_0 e132 rfl;obtain ⟨x138, e139, hy55⟩ := bn hy55;obtain ⟨p140, _, f142, f143, rfl⟩ := fz_at (k := .i64) hst h137 e139 rfl;obtain ⟨x145, e146, hy55⟩ := bn hy55;obtain ⟨p147, y148, f149, f150, h151⟩ := fz_at (k := .i64) hst h_0 e146 rfl;obtain ⟨x152, e153, hy55⟩ := bn hy55;obtain ⟨p154, _, f156, f157, rfl⟩ := fz_at (k := .i64) hst h151 e153 rfl;refine wpo_seg hp0 16 (fun s H' => s.length = 113 ∧ gt s 0 = v_0 ∧ gt s 2 = .int .i64 side ∧ gt s 7 = rv4 ∧ gt s 8 = .bool true ∧ gt s 9 = .int .i64 (k25 : Int) ∧ gt s 10 = .int .i64 y45 ∧ gt s 11 = .int .i64 s60 ∧ gt s 14 = .int .i64 x138 ∧ gt s 15 = .int .i64 x152 ∧ gt s 22 = .int .i64 (t.length : Int) ∧ gt s 23 = .int .i64 (k25 : Int) ∧ H = H') (by simp (maxSteps := 1000000) only [↓runs, isCall, ↓reduceIte, ↓gd_true, ↓gd_false, evs, AV.cells, Nat.reduceEqDiff, Nat.reduceLT, reduceCtorEq, Nat.reduceAdd, sy, f135, f136, f142, f143, f149, f150, f156, f157, g0, g2, g7, g8, g9, g10, g11, g22, g23, hl]) ?_;rintro s _ ⟨hl, g0, g2, g7, g8, g9, g10, g11, g14, g15, g22, g23, rfl⟩;refine wpo_nil (then_n ?_);refine AM.wp_seq hp0 ?_;obtain ⟨z159, hj160, hy55⟩ := bn hy55;refine AM.wp_regK hp0 (fun s H' => s.length = 113 ∧ gt s 105 = .bool z159 ∧ gt s 0 = v_0 ∧ gt s 2 = .int .i64 side ∧ gt s 7 = rv4 ∧ gt s 8 = .bool true ∧ gt s 9 = .int .i64 (k25 : Int) ∧ gt s 10 = .int .i64 y45 ∧ gt s 11 = .int .i64 s60 ∧ gt s 14 = .int .i64 x138 ∧ gt s 15 = .int .i64 x152 ∧ gt s 22 = .int .i64 (t.length : Int) ∧ gt s 23 = .int .i64 (k25 : Int) ∧ H = H') ?_ ?_
           ·rcases Bool.eq_false_or_eq_true (!decide (side = 1)) with c161 | c161
            ·replace hj160 := ifT c161 hj160;obtain ⟨x162, e163, hj160⟩ := bn hj160;obtain ⟨p164, _, f166, f167, rfl⟩ := ow_at (k := .i64) hst (.head _) o130 e163 rfl;obtain ⟨x169, e170, hj160⟩ := bn hj160;obtain ⟨p171, _, f173, f174, rfl⟩ := ow_at (k := .i64) hst (.head _) o130 e170 rfl;refine wpo_seg hp0 13 (fun s H' => s.length = 113 ∧ gt s 0 = v_0 ∧ gt s 2 = .int .i64 side ∧ gt s 7 = rv4 ∧ gt s 8 = .bool true ∧ gt s 9 = .int .i64 (k25 : Int) ∧ gt s 10 = .int .i64 y45 ∧ gt s 11 = .int .i64 s60 ∧ gt s 14 = .int .i64 x138 ∧ gt s 15 = .int .i64 x152 ∧ gt s 22 = .int .i64 (t.length : Int) ∧ gt s 23 = .int .i64 (k25 : Int) ∧ gt s 105 = .bool (!decide (x162 = x169)) ∧ H = H') (by simp (maxSteps := 1000000) only [↓runs, isCall, ↓reduceIte, ↓gd_true, ↓gd_false, evs, AV.cells, Nat.reduceEqDiff, Nat.reduceLT, reduceCtorEq, Nat.reduceAdd, sy, c161, f166, f167, f173, f174, g0, g2, g7, g8, g9, g10, g11, g14, g15, g22, g23, hl]) ?_;rintro s _ ⟨hl, g0, g2, g7, g8, g9, g10, g11, g14, g15, g22, g23, g105, rfl⟩;refine wpo_nil ?_;obtain rfl := Option.some.inj hj160;exact ⟨hl, g105, g0, g2, g7, g8, g9, g10, g11, g14, g15, g22, g23, rfl⟩
            ·replace hj160 := ifF c161 hj160;refine wpo_seg hp0 13 (fun s H' => s.length = 113 ∧ gt s 0 = v_0 ∧ gt s 2 = .int .i64 side ∧ gt s 7 = rv4 ∧ gt s 8 = .bool true ∧ gt s 9 = .int .i64 (k25 : Int) ∧ gt s 10 = .int .i64 y45 ∧ gt s 11 = .int .i64 s60 ∧ gt s 14 = .int .i64 x138 ∧ gt s 15 = .int .i64 x152 ∧ gt s 22 = .int .i64 (t.length : Int) ∧ gt s 23 = .int .i64 (k25 : Int) ∧ gt s 105 = .bool false ∧ H = H') (by simp (maxSteps := 1000000) only [↓runs, isCall, ↓reduceIte, ↓gd_true, ↓gd_false, evs, AV.cells, Nat.reduceEqDiff, Nat.reduceLT, reduceCtorEq, Nat.reduceAdd, sy, c161, g0, g2, g7, g8, g9, g10, g11, g14, g15, g22, g23, hl]) ?_;rintro s _ ⟨hl, g0, g2, g7, g8, g9, g10, g11, g14, g15, g22, g23, g105, rfl⟩;refine wpo_nil ?_;obtain rfl := Option.some.inj hj160;exact ⟨hl, g105, g0, g2, g7, g8, g9, g10, g11, g14, g15, g22, g23, rfl⟩
           ·rintro s _ ⟨hl, g105, g0, g2, g7, g8, g9, g10, g11, g14, g15, g22, g23, rfl⟩;refine then_n ?_;rcases Bool.eq_false_or_eq_true (z159) with c177 | c177
            ·replace hy55 := ifT c177 hy55;refine AM.wp_condT (by simp only [ev_t, ev_c, g105, c177]) ?_;refine AM.wp_seq hp0 (AM.wp_reg hp0 ?_);refine wpo_seg hp0 3 (fun s H' => s.length = 113 ∧ gt s 0 = v_0 ∧ gt s 2 = .int .i64 side ∧ gt s 7 = rv4 ∧ gt s 9 = .int .i64 (k25 : Int) ∧ gt s 10 = .int .i64 y45 ∧ gt s 11 = .int .i64 s60 ∧ gt s 22 = .int .i64 (t.length : Int) ∧ gt s 23 = .int .i64 (k25 : Int) ∧ gt s 106 = rv4 ∧ gt s 107 = .int .i64 x138 ∧ gt s 108 = .int .i64 x152 ∧ H = H') (by simp only [↓runs, isCall, ↓reduceIte, ↓gd_true, ↓gd_false, evs, AV.cells, Nat.reduceEqDiff, Nat.reduceLT, reduceCtorEq, Nat.reduceAdd, sy, g0, g2, g7, g8, g9, g10, g11, g14, g15, g22, g23, g105, hl]) ?_;rintro s _ ⟨hl, g0, g2, g7, g9, g10, g11, g22, g23, g106, g107, g108, rfl⟩;obtain ⟨r178, e179, hy55⟩ := bn hy55;refine wpo_callK hp0 rfl (ys := [rv4, .int .i64 x138, .int .i64 x152]) (by simp only [evs, List.map_cons, List.map_nil, ev_t, ev_c, g106, g107, g108]) (R_semigroupref03_Merge hst o130 e179) ?_;rintro rv180 H ⟨W, w181, fg182, hst, rfl, o183⟩;replace h_0 := Rp.mono w181 h_0;refine wpo_seg hp0 0 (fun s H' => s.length = 113 ∧ gt s 0 = v_0 ∧ gt s 2 = .int .i64 side ∧ gt s 7 = rv4 ∧ gt s 9 = .int .i64 (k25 : Int) ∧ gt s 10 = .int .i64 y45 ∧ gt s 11 = .int .i64 s60 ∧ gt s 22 = .int .i64 (t.length : Int) ∧ gt s 23 = .int .i64 (k25 : Int) ∧ H = H') (by simp only [↓runs, isCall, ↓reduceIte, ↓gd_true, ↓gd_false, evs, AV.cells, Nat.reduceEqDiff, Nat.reduceLT, reduceCtorEq, Nat.reduceAdd, sy, gt_other, g0, g2, g7, g9, g10, g11, g22, g23, g106, g107, g108, hl]) ?_;rintro s _ ⟨hl, g0, g2, g7, g9, g10, g11, g22, g23, rfl⟩;refine wpo_nil (then_n ?_);refine AM.wp_reg hp0 ?_;refine wpo_seg hp0 1 (fun s H' => s.length = 113 ∧ gt s 0 = v_0 ∧ gt s 2 = .int .i64 side ∧ gt s 7 = rv4 ∧ gt s 8 = .bool true ∧ gt s 9 = .int .i64 (k25 : Int) ∧ gt s 10 = .int .i64 y45 ∧ gt s 11 = .int .i64 s60 ∧ gt s 22 = .int .i64 (t.length : Int) ∧ gt s 23 = .int .i64 (k25 : Int) ∧ H = H') (by simp only [↓runs, isCall, ↓reduceIte, ↓gd_true, ↓gd_false, evs, AV.cells, Nat.reduceEqDiff, Nat.reduceLT, reduceCtorEq, Nat.reduceAdd, sy, g0, g2, g7, g9, g10, g11, g22, g23, hl]) ?_;rintro s _ ⟨hl, g0, g2, g7, g8, g9, g10, g11, g22, g23, rfl⟩;refine wpo_nil ?_;refine blk_n ?_;refine then_n ?_;refine AM.wp_reg hp0 ?_;refine wpo_seg hp0 3 (fun s H' => s.length = 113 ∧ gt s 0 = v_0 ∧ gt s 2 = .int .i64 side ∧ gt s 7 = rv4 ∧ gt s 8 = .bool true ∧ gt s 9 = .int .i64 (k25 : Int) ∧ gt s 10 = .int .i64 y45 ∧ gt s 11 = .int .i64 (w64 (s60 + 1)) ∧ gt s 22 = .int .i64 (t.length : Int) ∧ gt s 23 = .int .i64 (k25 : Int) ∧ H = H') (by simp only [↓runs, isCall, ↓reduceIte, ↓gd_true, ↓gd_false, evs, AV.cells, Nat.reduceEqDiff, Nat.reduceLT, reduceCtorEq, Nat.reduceAdd, sy, g0, g2, g7, g8, g9, g10, g11, g22, g23, hl]) ?_;rintro s _ ⟨hl, g0, g2, g7, g8, g9, g10, g11, g22, g23, rfl⟩;refine wpo_nil (then_n ?_);obtain rfl := Option.some.inj hy55;exact ⟨_, rfl, ⟨W, _, hl, g8, g11, g0, g2, g7, g9, g10, g22, g23, ((w62.trans w128).trans w181), hst, o183⟩⟩
            ·replace hy55 := ifF c177 hy55;refine AM.wp_condF (by simp only [ev_t, ev_c, g105, c177]) ?_;refine AM.wp_skip ?_;refine blk_n ?_;refine then_n ?_;refine AM.wp_reg hp0 ?_;refine wpo_seg hp0 3 (fun s H' => s.length = 113 ∧ gt s 0 = v_0 ∧ gt s 2 = .int .i64 side ∧ gt s 7 = rv4 ∧ gt s 8 = .bool true ∧ gt s 9 = .int .i64 (k25 : Int) ∧ gt s 10 = .int .i64 y45 ∧ gt s 11 = .int .i64 (w64 (s60 + 1)) ∧ gt s 22 = .int .i64 (t.length : Int) ∧ gt s 23 = .int .i64 (k25 : Int) ∧ H = H') (by simp only [↓runs, isCall, ↓reduceIte, ↓gd_true, ↓gd_false, evs, AV.cells, Nat.reduceEqDiff, Nat.reduceLT, reduceCtorEq, Nat.reduceAdd, sy, g0, g2, g7, g8, g9, g10, g11, g14, g15, g22, g23, g105, hl]) ?_;rintro s _ ⟨hl, g0, g2, g7, g8, g9, g10, g11, g22, g23, rfl⟩;refine wpo_nil (then_n ?_);obtain rfl := Option.some.inj hy55;exact ⟨_, rfl, ⟨W, _, hl, g8, g11, g0, g2, g7, g9, g10, g22, g23, (w62.trans w128), hst, o130⟩⟩
          ·replace hy55 := ifF c124 hy55;refine AM.wp_condF (by simp only [ev_t, ev_c, g74, c124]) ?_;refine AM.wp_skip ?_;refine then_n ?_;refine AM.wp_seq hp0 (AM.wp_reg hp0 ?_);obtain ⟨x184, e185, hy55⟩ := bn hy55;obtain ⟨p186, y187, f188, f189, h190⟩ := fz_at (k := .i64) hst h_0 e185 rfl;obtain ⟨x191, e192, hy55⟩ := bn hy55;obtain ⟨p193, _, f195, f196, rfl⟩ := fz_at (k := .i64) hst h190 e192 rfl;obtain ⟨x198, e199, hy55⟩ := bn hy55;obtain ⟨p200, y201, f202, f203, h204⟩ := fz_at (k := .i64) hst h_0 e199 rfl;obtain ⟨x205, e206, hy55⟩ := bn hy55;obtain ⟨p207, _, f209, f210, rfl⟩ := fz_at (k := .i64) hst h204 e206 rfl;refine wpo_seg hp0 16 (fun s H' => s.length = 113 ∧ gt s 0 = v_0 ∧ gt s 2 = .int .i64 side ∧ gt s 7 = rv4 ∧ gt s 8 = .bool changed59 ∧ gt s 9 = .int .i64 (k25 : Int) ∧ gt s 10 = .int .i64 y45 ∧ gt s 11 = .int .i64 s60 ∧ gt s 14 = .int .i64 x191 ∧ gt s 15 = .int .i64 x205 ∧ gt s 22 = .int .i64 (t.length : Int) ∧ gt s 23 = .int .i64 (k25 : Int) ∧ H = H') (by simp (maxSteps := 1000000) only [↓runs, isCall, ↓reduceIte, ↓gd_true, ↓gd_false, evs, AV.cells, Nat.reduceEqDiff, Nat.reduceLT, reduceCtorEq, Nat.reduceAdd, sy, f188, f189, f195, f196, f202, f203, f209, f210, g0, g2, g7, g8, g9, g10, g11, g12, g13, g22, g23, g74, hl]) ?_;rintro s _ ⟨hl, g0, g2, g7, g8, g9, g10, g11, g14, g15, g22, g23, rfl⟩;refine wpo_nil (then_n ?_);refine AM.wp_seq hp0 ?_;obtain ⟨z212, hj213, hy55⟩ := bn hy55;refine AM.wp_regK hp0 (fun s H' => s.length = 113 ∧ gt s 105 = .bool z212 ∧ gt s 0 = v_0 ∧ gt s 2 = .int .i64 side ∧ gt s 7 = rv4 ∧ gt s 8 = .bool changed59 ∧ gt s 9 = .int .i64 (k25 : Int) ∧ gt s 10 = .int .i64 y45 ∧ gt s 11 = .int .i64 s60 ∧ gt s 14 = .int .i64 x191 ∧ gt s 15 = .int .i64 x205 ∧ gt s 22 = .int .i64 (t.length : Int) ∧ gt s 23 = .int .i64 (k25 : Int) ∧ H = H') ?_ ?_
           ·rcases Bool.eq_false_or_eq_true (!decide (side = 1)) with c214 | c214
            ·replace hj213 := ifT c214 hj213;obtain ⟨x215, e216, hj213⟩ := bn hj213;obtain ⟨p217, _, f219, f220, rfl⟩ := ow_at (k := .i64) hst (.head _) o64 e216 rfl;obtain ⟨x222, e223, hj213⟩ := bn hj213;obtain ⟨p224, _, f226, f227, rfl⟩ := ow_at (k := .i64) hst (.head _) o64 e223 rfl;refine wpo_seg hp0 13 (fun s H' => s.length = 113 ∧ gt s 0 = v_0 ∧ gt s 2 = .int .i64 side ∧ gt s 7 = rv4 ∧ gt s 8 = .bool changed59 ∧ gt s 9 = .int .i64 (k25 : Int) ∧ gt s 10 = .int .i64 y45 ∧ gt s 11 = .int .i64 s60 ∧ gt s 14 = .int .i64 x191 ∧ gt s 15 = .int .i64 x205 ∧ gt s 22 = .int .i64 (t.length : Int) ∧ gt s 23 = .int .i64 (k25 : Int) ∧ gt s 105 = .bool (!decide (x215 = x222)) ∧ H = H') (by simp (maxSteps := 1000000) only [↓runs, isCall, ↓reduceIte, ↓gd_true, ↓gd_false, evs, AV.cells, Nat.reduceEqDiff, Nat.reduceLT, reduceCtorEq, Nat.reduceAdd, sy, c214, f219, f220, f226, f227, g0, g2, g7, g8, g9, g10, g11, g14, g15, g22, g23, hl]) ?_;rintro s _ ⟨hl, g0, g2, g7, g8, g9, g10, g11, g14, g15, g22, g23, g105, rfl⟩;refine wpo_nil ?_;obtain rfl := Option.some.inj hj213;exact ⟨hl, g105, g0, g2, g7, g8, g9, g10, g11, g14, g15, g22, g23, rfl⟩
            ·replace hj213 := ifF c214 hj213;refine wpo_seg hp0 13 (fun s H' => s.length = 113 ∧ gt s 0 = v_0 ∧ gt s 2 = .int .i64 side ∧ gt s 7 = rv4 ∧ gt s 8 = .bool changed59 ∧ gt s 9 = .int .i64 (k25 : Int) ∧ gt s 10 = .int .i64 y45 ∧ gt s 11 = .int .i64 s60 ∧ gt s 14 = .int .i64 x191 ∧ gt s 15 = .int .i64 x205 ∧ gt s 22 = .int .i64 (t.length : Int) ∧ gt s 23 = .int .i64 (k25 : Int) ∧ gt s 105 = .bool false ∧ H = H') (by simp (maxSteps := 1000000) only [↓runs, isCall, ↓reduceIte, ↓gd_true, ↓gd_false, evs, AV.cells, Nat.reduceEqDiff, Nat.reduceLT, reduceCtorEq, Nat.reduceAdd, sy, c214, g0, g2, g7, g8, g9, g10, g11, g14, g15, g22, g23, hl]) ?_;rintro s _ ⟨hl, g0, g2, g7, g8, g9, g10, g11, g14, g15, g22, g23, g105, rfl⟩;refine wpo_nil ?_;obtain rfl := Option.some.inj hj213;exact ⟨hl, g105, g0, g2, g7, g8, g9, g10, g11, g14, g15, g22, g23, rfl⟩
           ·rintro s _ ⟨hl, g105, g0, g2, g7, g8, g9, g10, g11, g14, g15, g22, g23, rfl⟩;refine then_n ?_;rcases Bool.eq_false_or_eq_true (z212) with c230 | c230
            ·replace hy55 := ifT c230 hy55;refine AM.wp_condT (by simp only [ev_t, ev_c, g105, c230]) ?_;refine AM.wp_seq hp0 (AM.wp_reg hp0 ?_);refine wpo_seg hp0 3 (fun s H' => s.length = 113 ∧ gt s 0 = v_0 ∧ gt s 2 = .int .i64 side ∧ gt s 7 = rv4 ∧ gt s 9 = .int .i64 (k25 : Int) ∧ gt s 10 = .int .i64 y45 ∧ gt s 11 = .int .i64 s60 ∧ gt s 22 = .int .i64 (t.length : Int) ∧ gt s 23 = .int .i64 (k25 : Int) ∧ gt s 106 = rv4 ∧ gt s 107 = .int .i64 x191 ∧ gt s 108 = .int .i64 x205 ∧ H = H') (by simp only [↓runs, isCall, ↓reduceIte, ↓gd_true, ↓gd_false, evs, AV.cells, Nat.reduceEqDiff, Nat.reduceLT, reduceCtorEq, Nat.reduceAdd, sy, g0, g2, g7, g8, g9, g10, g11, g14, g15, g22, g23, g105, hl]) ?_;rintro s _ ⟨hl, g0, g2, g7, g9, g10, g11, g22, g23, g106, g107, g108, rfl⟩;obtain ⟨r231, e232, hy55⟩ := bn hy55;refine wpo_callK hp0 rfl (ys := [rv4, .int .i64 x191, .int .i64 x205]) (by simp only [evs, List.map_cons, List.map_nil, ev_t, ev_c, g106, g107, g108]) (R_semigroupref03_Merge hst o64 e232) ?_;rintro rv233 H ⟨W, w234, fg235, hst, rfl, o236⟩;replace h_0 := Rp.mono w234 h_0;refine wpo_seg hp0 0 (fun s H' => s.length = 113 ∧ gt s 0 = v_0 ∧ gt s 2 = .int .i64 side ∧ gt s 7 = rv4 ∧ gt s 9 = .int .i64 (k25 : Int) ∧ gt s 10 = .int .i64 y45 ∧ gt s 11 = .int .i64 s60 ∧ gt s 22 = .int .i64 (t.length : Int) ∧ gt s 23 = .int .i64 (k25 : Int) ∧ H = H') (by simp only [↓runs, isCall, ↓reduceIte, ↓gd_true, ↓gd_false, evs, AV.cells, Nat.reduceEqDiff, Nat.reduceLT, reduceCtorEq, Nat.reduceAdd, sy, gt_other, g0, g2, g7, g9, g10, g11, g22, g23, g106, g107, g108, hl]) ?_;rintro s _ ⟨hl, g0, g2, g7, g9, g10, g11, g22, g23, rfl⟩;refine wpo_nil (then_n ?_);refine AM.wp_reg hp0 ?_;refine wpo_seg hp0 1 (fun s H' => s.length = 113 ∧ gt s 0 = v_0 ∧ gt s 2 = .int .i64 side ∧ gt s 7 = rv4 ∧ gt s 8 = .bool true ∧ gt s 9 = .int .i64 (k25 : Int) ∧ gt s 10 = .int .i64 y45 ∧ gt s 11 = .int .i64 s60 ∧ gt s 22 = .int .i64 (t.length : Int) ∧ gt s 23 = .int .i64 (k25 : Int) ∧ H = H') (by simp only [↓runs, isCall, ↓reduceIte, ↓gd_true, ↓gd_false, evs, AV.cells, Nat.reduceEqDiff, Nat.reduceLT, reduceCtorEq, Nat.reduceAdd, sy, g0, g2, g7, g9, g10, g11, g22, g23, hl]) ?_;rintro s _ ⟨hl, g0, g2, g7, g8, g9, g10, g11, g22, g23, rfl⟩;refine wpo_nil ?_;refine blk_n ?_;refine then_n ?_;refine AM.wp_reg hp0 ?_;refine wpo_seg hp0 3 (fun s H' => s.length = 113 ∧ gt s 0 = v_0 ∧ gt s 2 = .int .i64 side ∧ gt s 7 = rv4 ∧ gt s 8 = .bool true ∧ gt s 9 = .int .i64 (k25 : Int) ∧ gt s 10 = .int .i64 y45 ∧ gt s 11 = .int .i64 (w64 (s60 + 1)) ∧ gt s 22 = .int .i64 (t.length : Int) ∧ gt s 23 = .int .i64 (k25 : Int) ∧ H = H') (by simp only [↓runs, isCall, ↓reduceIte, ↓gd_true, ↓gd_false, evs, AV.cells, Nat.reduceEqDiff, Nat.reduceLT, reduceCtorEq, Nat.reduceAdd, sy, g0, g2, g7, g8, g9, g10, g11, g22, g23, hl]) ?_;rintro s _ ⟨hl, g0, g2, g7, g8, g9, g10, g11, g22, g23, rfl⟩;refine wpo_nil (then_n ?_);obtain rfl := Option.some.inj hy55;exact ⟨_, rfl, ⟨W, _, hl, g8, g11, g0, g2, g7, g9, g10, g22, g23, (w62.trans w234), hst, o236⟩⟩
            ·replace hy55 := ifF c230 hy55;refine AM.wp_condF (by simp only [ev_t, ev_c, g105, c230]) ?_;refine AM.wp_skip ?_;refine blk_n ?_;refine then_n ?_;refine AM.wp_reg hp0 ?_;refine wpo_seg hp0 3 (fun s H' => s.length = 113 ∧ gt s 0 = v_0 ∧ gt s 2 = .int .i64 side ∧ gt s 7 = rv4 ∧ gt s 8 = .bool changed59 ∧ gt s 9 = .int .i64 (k25 : Int) ∧ gt s 10 = .int .i64 y45 ∧ gt s 11 = .int .i64 (w64 (s60 + 1)) ∧ gt s 22 = .int .i64 (t.length : Int) ∧ gt s 23 = .int .i64 (k25 : Int) ∧ H = H') (by simp only [↓runs, isCall, ↓reduceIte, ↓gd_true, ↓gd_false, evs, AV.cells, Nat.reduceEqDiff, Nat.reduceLT, reduceCtorEq, Nat.reduceAdd, sy, g0, g2, g7, g8, g9, g10, g11, g14, g15, g22, g23, g105, hl]) ?_;rintro s _ ⟨hl, g0, g2, g7, g8, g9, g10, g11, g22, g23, rfl⟩;refine wpo_nil (then_n ?_);obtain rfl := Option.some.inj hy55;exact ⟨_, rfl, ⟨W, _, hl, g8, g11, g0, g2, g7, g9, g10, g22, g23, w62, hst, o64⟩⟩
        ·replace hy55 := ifF c84 hy55;refine AM.wp_condF (by simp only [ev_t, ev_c, g45, c84]) ?_;refine AM.wp_exit ?_;refine then_x ?_;refine then_x (rnd_c rfl ?_);obtain rfl := Option.some.inj hy55;exact ⟨_, rfl, ⟨W, _, hl, g8, g0, g2, g7, g9, g10, g22, g23, w62, hst, o64⟩⟩
      ·rintro x237 s H hz hI;subst hz;dsimp only at hy40 hI;obtain ⟨W, fg239, hl, g8, g0, g2, g7, g9, g10, g22, g23, w238, hst, o240⟩ := hI;replace h_0 := Rp.mono w238 h_0;refine blk_n ?_;refine then_n ?_;refine AM.wp_reg hp0 ?_;refine wpo_seg hp0 3 (fun s H' => s.length = 113 ∧ gt s 0 = v_0 ∧ gt s 2 = .int .i64 side ∧ gt s 7 = rv4 ∧ gt s 8 = .bool x237.1 ∧ gt s 9 = .int .i64 (k25 : Int) ∧ gt s 10 = .int .i64 (w64 (y45 + 1)) ∧ gt s 22 = .int .i64 (t.length : Int) ∧ gt s 23 = .int .i64 (k25 : Int) ∧ H = H') (by simp only [↓runs, isCall, ↓reduceIte, ↓gd_true, ↓gd_false, evs, AV.cells, Nat.reduceEqDiff, Nat.reduceLT, reduceCtorEq, Nat.reduceAdd, sy, g0, g2, g7, g8, g9, g10, g22, g23, hl]) ?_;rintro s _ ⟨hl, g0, g2, g7, g8, g9, g10, g22, g23, rfl⟩;refine wpo_nil (then_n ?_);obtain rfl := Option.some.inj hy40;exact ⟨_, rfl, ⟨W, _, hl, g8, g10, g0, g2, g7, g9, g22, g23, (w47.trans w238), hst, o240⟩⟩
     ·replace hy40 := ifF c50 hy40;refine AM.wp_condF (by simp only [ev_t, ev_c, g28, c50]) ?_;refine AM.wp_exit ?_;refine then_x ?_;refine then_x (rnd_c rfl ?_);obtain rfl := Option.some.inj hy40;exact ⟨_, rfl, ⟨W, _, hl, g8, g0, g2, g7, g22, g23, w47, hst, o49⟩⟩
    ·rintro x241 s H hz hI;subst hz;dsimp only at hy27 hI;obtain ⟨W, fg243, hl, g8, g0, g2, g7, g22, g23, w242, hst, o244⟩ := hI;replace h_0 := Rp.mono w242 h_0;refine rnd_n ?_;obtain rfl := Option.some.inj hy27;exact ⟨hl, g23, g22, ⟨W, _, hl, g8, g0, g2, g7, (w33.trans w242), hst, o244⟩⟩
   ·rintro s H hI _;obtain ⟨W, fg246, hl, g8, g0, g2, g7, w245, hst, o247⟩ := hI;replace h_0 := Rp.mono w245 h_0;refine blk_n ?_;refine then_n ?_;obtain rfl := Option.some.inj hy12;exact ⟨_, rfl, ⟨W, _, hl, g8, g0, g2, g7, (w18.trans w245), hst, o247⟩⟩
  ·replace hy12 := ifF c21 hy12;refine AM.wp_condF (by simp only [ev_t, ev_c, g20, c21]) ?_;refine AM.wp_exit ?_;refine then_x ?_;refine then_x (rnd_c rfl ?_);obtain rfl := Option.some.inj hy12;exact ⟨_, rfl, ⟨W, _, hl, g7, w18, hst, o20⟩⟩
 ·rintro x248 s H hz hI;subst hz;dsimp only at hp hI;obtain ⟨W, fg250, hl, g7, w249, hst, o251⟩ := hI;replace h_0 := Rp.mono w249 h_0;refine then_n ?_;refine AM.wp_seq hp0 (AM.wp_reg hp0 ?_);refine wpo_seg hp0 1 (fun s H' => s.length = 113 ∧ gt s 111 = rv4 ∧ H = H') (by simp only [↓runs, isCall, ↓reduceIte, ↓gd_true, ↓gd_false, evs, AV.cells, Nat.reduceEqDiff, Nat.reduceLT, reduceCtorEq, Nat.reduceAdd, sy, g7, hl]) ?_;rintro s _ ⟨hl, g111, rfl⟩;obtain ⟨W, w253, hst, h252⟩ := ow_frz hst o251;obtain ⟨r254, e255, hp⟩ := bn hp;refine wpo_callK hp0 rfl (ys := [rv4]) (by simp only [evs, List.map_cons, List.map_nil, ev_t, ev_c, g111]) (R_semigroupref03_Canonical hst h252 e255) ?_;rintro rv256 H ⟨W, w257, fg258, hst, o259⟩;replace h252 := Rp.mono w257 h252;refine wpo_seg hp0 1 (fun s H' => s.length = 113 ∧ gt s 6 = rv256 ∧ H = H') (by simp only [↓runs, isCall, ↓reduceIte, ↓gd_true, ↓gd_false, evs, AV.cells, Nat.reduceEqDiff, Nat.reduceLT, reduceCtorEq, Nat.reduceAdd, sy, gt_other, g111, hl]) ?_;rintro s _ ⟨hl, g6, rfl⟩;refine wpo_nil (then_n ?_);refine AM.wp_ret ?_;obtain rfl := Option.some.inj hp;refine body_ret (vs := [rv256]) (by simp only [rvs, f_semigroupref19_Generated, Option.map_some, g6]) ?_;exact ⟨W, (((w5.trans w249).trans w253).trans w257), _, hst, o259⟩

end Go.Proofs.Ytmdpejgnkoneoaa.Pu
namespace Go.Proofs.Ytmdpejgnkoneoaa.Mt
open Go Go.AM Go.AM.Par Go.AM.Cg Go.Proofs.Ytmdpejgnkoneoaa.Pu

def pz (p : Nat × Nat) : Int × Int := ((p.1 : Int), (p.2 : Int))
def RootL (n : Nat) (R : List Int) : Prop := R.length = n ∧ ∀ x, x < n → ∃ r : Nat, r < n ∧ R.getD x 0 = (r : Int) ∧ R.getD r 0 = (r : Int)

theorem sub_to {α : Type} {A B : List α} {i : Int} (h : i = (A.length : Int)) : sub (A ++ B) none (some i) = some A := by
  subst h
  have e : bd (some (A.length : Int)) (A ++ B).length (A ++ B).length = some A.length := by
    unfold bd; dsimp only; rw [if_pos ⟨by omega, by simp; omega⟩]; simp
  unfold sub
  rw [e]
  simp [bd]

theorem join_step {t : List (List Int)} {n : Nat} {T : Nat → Nat → Nat} {sd : Int} (h : Tab t n T) {p : Nat × Nat} (hp : p.1 < n ∧ p.2 < n) (W : List (Nat × Nat)) (hW : W.length ≤ 1500000) :
    ∃ W' : List (Nat × Nat), forS t.length (fun k x => P_congr_forest_join_l96 sd t (pz p) k x) (W.map pz) = some (W'.map pz) ∧ W'.length ≤ W.length + 2 * n ∧
      ∀ q, q ∈ W' ↔ q ∈ W ∨ ∃ s, s < n ∧ ((sd ≠ 2 ∧ q = (T s p.1, T s p.2)) ∨ (sd ≠ 1 ∧ q = (T p.1 s, T p.2 s))) := by
  have h400 := h.le
  obtain ⟨y, hy, W', rfl, h1, h2⟩ := forS_inv (n := t.length) (f := fun k x => P_congr_forest_join_l96 sd t (pz p) k x) (x := W.map pz)
    (fun k X => ∃ W' : List (Nat × Nat), X = W'.map pz ∧ W'.length ≤ W.length + 2 * k ∧ ∀ q, q ∈ W' ↔ q ∈ W ∨ ∃ s, s < k ∧ ((sd ≠ 2 ∧ q = (T s p.1, T s p.2)) ∨ (sd ≠ 1 ∧ q = (T p.1 s, T p.2 s))))
    ⟨W, rfl, by omega, fun q => by simp⟩ (by
      rintro k _ hk ⟨W', rfl, h1, h2⟩
      have hk' : k < n := by rw [← h.len]; exact hk
      unfold P_congr_forest_join_l96 pz
      rw [h.gi1 hk', h.gi1 hp.1, h.gi1 hp.2]
      simp only [Option.bind_some]
      rw [h.gi2 hk' hp.1, h.gi2 hk' hp.2, h.gi2 hp.1 hk', h.gi2 hp.2 hk']
      simp only [Option.bind_some]
      have pu : ∀ (V : List (Nat × Nat)) (a b : Nat), V.length ≤ 2000000 → pus 16 (V.map pz) [((a : Int), (b : Int))] = some ((V ++ [(a, b)]).map pz) := fun V a b hV => by
        rw [pus_ok (by simp; omega) (by omega)]; simp [pz]
      have fin : ∀ V : List (Nat × Nat), V.length ≤ W'.length + 2 → (∀ q, q ∈ V ↔ q ∈ W' ∨ ((sd ≠ 2 ∧ q = (T k p.1, T k p.2)) ∨ (sd ≠ 1 ∧ q = (T p.1 k, T p.2 k)))) →
          ∃ V' : List (Nat × Nat), V.map pz = V'.map pz ∧ V'.length ≤ W.length + 2 * (k + 1) ∧ ∀ q, q ∈ V' ↔ q ∈ W ∨ ∃ s, s < k + 1 ∧ ((sd ≠ 2 ∧ q = (T s p.1, T s p.2)) ∨ (sd ≠ 1 ∧ q = (T p.1 s, T p.2 s))) := fun V hl hV => by
        refine ⟨V, rfl, by omega, fun q => ?_⟩
        rw [hV, h2]
        constructor
        · rintro ((a | ⟨s, a, b⟩) | a)
          · exact .inl a
          · exact .inr ⟨s, by omega, b⟩
          · exact .inr ⟨k, by omega, a⟩
        · rintro (a | ⟨s, a, b⟩)
          · exact .inl (.inl a)
          · rcases Nat.lt_or_ge s k with h5 | h5
            · exact .inl (.inr ⟨s, h5, b⟩)
            · have : s = k := by omega
              subst this; exact .inr b
      change ∃ y, (if !decide (sd = 2) then Option.bind (pus 16 (W'.map pz) [((T k p.1 : Int), (T k p.2 : Int))]) _ else if !decide (sd = 1) then Option.bind (pus 16 (W'.map pz) [((T p.1 k : Int), (T p.2 k : Int))]) _ else _) = some y ∧ _
      by_cases s2 : sd = 2
      · have s1 : ¬ sd = 1 := by omega
        rw [show (!decide (sd = 2)) = false by simp [s2], show (!decide (sd = 1)) = true by simp [s1]]
        simp only [Bool.false_eq_true, if_false, if_true]
        rw [pu _ _ _ (by omega)]
        refine ⟨_, rfl, fin _ (by simp) fun q => ?_⟩
        simp [s2]
      · by_cases s1 : sd = 1
        · rw [show (!decide (sd = 2)) = true by simp [s2], show (!decide (sd = 1)) = false by simp [s1]]
          simp only [Bool.false_eq_true, if_false, if_true]
          rw [pu _ _ _ (by omega)]
          refine ⟨_, rfl, fin _ (by simp) fun q => ?_⟩
          simp [s1]
        · simp only [s2, s1, Option.bind_some, Option.bind_none, decide_true, decide_false, Bool.not_true, Bool.not_false, Bool.true_and, Bool.and_true, Bool.false_eq_true, if_true, if_false, not_true_eq_false, not_false_eq_true, ite_true, ite_false, Bool.not_eq_true, decide_eq_true_eq, decide_eq_false_iff_not, Bool.not_eq_true', Bool.not_eq_false', Option.getD_some, Option.getD_none, Option.isSome_some, Option.isSome_none, Option.isNone_some, Option.isNone_none, eq_self, forall_const, true_implies, false_implies, implies_true]
          rw [pu _ _ _ (by omega)]
          simp only [Option.bind_some]
          rw [pu _ _ _ (by simp; omega)]
          refine ⟨_, rfl, fin _ (by simp) fun q => ?_⟩
          simp [s1, s2, or_assoc])
  exact ⟨W', hy, by rw [← h.len]; exact h1, by rw [← h.len]; exact h2⟩

theorem join {t : List (List Int)} {n : Nat} {T : Nat → Nat → Nat} {sd : Int} (h : Tab t n T) {f : List Int} {P0 W0 : List (Nat × Nat)} (hr : RootL n f) (hj : JI n T sd P0 f W0) (hW0 : W0.length ≤ 1000000) :
    ∃ R, P_congr_forest_join f t sd (W0.map pz) = some R ∧ RootL n R ∧ JI n T sd P0 R [] := by
  have h400 := h.le
  have key : ∃ y, loopO (fun x => P_congr_forest_join_l1 sd t x.1 x.2) (W0.map pz, f) = some y ∧ ∃ q : List (Int × Int) × List Int, y = .inl q ∧ RootL n q.2 ∧ JI n T sd P0 q.2 [] := by
    refine loop_inv (fun q : List (Int × Int) × List Int => ∃ W : List (Nat × Nat), q.1 = W.map pz ∧ RootL n q.2 ∧ JI n T sd P0 q.2 W ∧ (2 * n + 1) * cls n q.2 + W.length ≤ 1400000)
      (fun q => (2 * n + 1) * cls n q.2 + q.1.length) _ ⟨W0, rfl, hr, hj, ?_⟩ ?_
    · have : (2 * n + 1) * cls n f ≤ 801 * 400 := Nat.mul_le_mul (by omega) (Nat.le_trans (cls_le _ _) h400)
      dsimp only; omega
    · rintro ⟨_, R⟩ ⟨W, rfl, hr, hj, hb⟩
      dsimp only at hr hj hb ⊢
      unfold P_congr_forest_join_l1
      rcases List.eq_nil_or_concat W with rfl | ⟨W1, p, rfl⟩
      · exact .inr (.inl ⟨(([] : List (Int × Int)), R), by simp, _, rfl, hr, hj⟩)
      · rw [List.concat_eq_append] at *
        have hp := hj.lt p (by simp)
        have hlen : ((W1 ++ [p]).map pz).length = W1.length + 1 := by simp
        have hw : w64 ((((W1 ++ [p]).map pz).length : Int) - 1) = ((W1.map pz).length : Int) := by
          rw [hlen, w64_id (by omega) (by simp at hb; omega)]; simp
        have h0 : decide ((0 : Int) < (((W1 ++ [p]).map pz).length : Int)) = true := by rw [hlen]; simp
        have g0 : gi ((W1 ++ [p]).map pz) ((W1.map pz).length : Int) = some (pz p) := by
          unfold gi; rw [if_pos (by omega)]; simp
        have s0 : sub ((W1 ++ [p]).map pz) none (some ((W1.map pz).length : Int)) = some (W1.map pz) := by
          rw [List.map_append]; exact sub_to rfl
        rw [if_pos h0, hw, g0]
        simp only [Option.bind_some]
        rw [s0]
        simp only [Option.bind_some]
        obtain ⟨r1, hr1, e1, f1⟩ := hr.2 p.1 hp.1
        obtain ⟨r2, hr2, e2, f2⟩ := hr.2 p.2 hp.2
        have gf : ∀ x : Nat, x < n → P_congr_forest_findF R (x : Int) = some (R.getD x 0) := fun x hx => gi_lt 0 (by rw [hr.1]; exact hx)
        have a1 : P_congr_forest_findF R (pz p).1 = some (r1 : Int) := by rw [← e1]; exact gf p.1 hp.1
        have a2 : P_congr_forest_findF R (pz p).2 = some (r2 : Int) := by rw [← e2]; exact gf p.2 hp.2
        rw [a1, a2]
        simp only [Option.bind_some]
        by_cases e : r1 = r2
        · subst e
          rw [if_pos (by simp)]
          refine .inl ⟨_, rfl, ⟨W1, rfl, hr, hj.drop (by rw [e1, e2]), by simp at hb; dsimp only; omega⟩, by simp⟩
        · rw [if_neg (by simp only [decide_eq_true_eq]; omega)]
          have hfs : fset R (r1 : Int) (r2 : Int) = some (mrg R (R.getD p.2 0) (R.getD p.1 0)) := by
            unfold fset
            rw [if_pos ⟨by rw [gi_lt 0 (by rw [hr.1]; exact hr1), f1], by rw [gi_lt 0 (by rw [hr.1]; exact hr2), f2]⟩, e1, e2]
            rfl
          rw [hfs]
          simp only [Option.bind_some]
          simp only [List.length_append, List.length_singleton] at hb
          obtain ⟨W', hW', hl', hm'⟩ := join_step (sd := sd) h hp W1 (by omega)
          rw [hW']
          have hcl := cls_mrg (n := n) (L := R) (i := p.2) (j := p.1) hr.1 hp.2 hp.1 (by rw [e1, e2]; omega)
          have hmul : (2 * n + 1) * (cls n (mrg R (R.getD p.2 0) (R.getD p.1 0)) + 1) ≤ (2 * n + 1) * cls n R := Nat.mul_le_mul_left _ hcl
          rw [Nat.mul_add, Nat.mul_one] at hmul
          refine .inl ⟨_, rfl, ⟨W', rfl, ⟨by simp [hr.1], fun x hx => ?_⟩, hj.union (fun x y hx hy => h.lt x y hx hy) (by simp [hr.1]) (fun z hz => by rw [mrg_at (by rw [hr.1]; exact hz)]) hm', by dsimp only; omega⟩, by simp only [List.length_map, List.length_append, List.length_singleton]; omega⟩
          obtain ⟨r, q1, q2, q3⟩ := hr.2 x hx
          rw [mrg_at (by rw [hr.1]; exact hx), e1, e2, q2]
          by_cases e3 : (r : Int) = r1
          · rw [if_pos e3]
            exact ⟨r2, hr2, rfl, by rw [mrg_at (by rw [hr.1]; exact hr2), f2, if_neg (by omega)]⟩
          · rw [if_neg e3]
            exact ⟨r, q1, rfl, by rw [mrg_at (by rw [hr.1]; exact q1), q3, if_neg e3]⟩
  obtain ⟨y, hy, q, rfl, h1, h2⟩ := key
  unfold P_congr_forest_join
  rw [hy]
  exact ⟨q.2, rfl, h1, h2⟩

theorem list_fill {n : Nat} {f : Nat → List Int → Option (List Int)} {R : List Int} (hR : R.length = n) (hf : ∀ k (X : List Int), k < n → X.length = n → f k X = some (X.set k (R.getD k 0))) : forS n f (List.replicate n 0) = some R := by
  rw [fill_loop 0 (by simp) hf, ← hR]
  congr 1
  exact tab_of.symm
theorem forest_partition {R : List Int} {n : Nat} (hR : R.length = n) (hn : n ≤ 4096) : P_congr_forest_partition R = some (canonI R) := by
  unfold P_congr_forest_partition
  rw [hR, mkz_ok (by omega) (by omega)]
  simp only [Option.bind_some, List.length_replicate]
  rw [list_fill hR fun k X hk hX => by
    unfold P_congr_forest_partition_l14
    have : P_congr_forest_findF R (k : Int) = some (R.getD k 0) := gi_lt 0 (by omega)
    rw [this]; simp only [Option.bind_some]
    rw [si_lt (by omega)]; rfl]
  simp only [Option.bind_some]
  rw [canonical _ (by omega)]; rfl

theorem iota_inj {n x y : Nat} (hx : x < n) (hy : y < n) (e : (iota n).getD x 0 = (iota n).getD y 0) : x = y := by
  unfold iota at e; rw [tab_getD hx, tab_getD hy] at e; omega
theorem iota_root (n : Nat) : RootL n (iota n) := ⟨by simp [iota], fun x hx => ⟨x, hx, by unfold iota; rw [tab_getD hx], by unfold iota; rw [tab_getD hx]⟩⟩
theorem iota_fnew (n : Nat) : fnew (iota n) = some (iota n) := by
  unfold fnew
  rw [if_pos]
  simp [iota, tab]
theorem generated {t : List (List Int)} {n : Nat} {T : Nat → Nat → Nat} {sd : Int} (h : Tab t n T) {P0 : List (Nat × Nat)} (hP : ∀ p ∈ P0, p.1 < n ∧ p.2 < n) (hl : P0.length ≤ 1000000) :
    ∃ r, P_congr_generated t (P0.map pz) sd = some r ∧ IsP n (Gen n T sd P0) r := by
  have h400 := h.le
  unfold P_congr_generated
  rw [h.len, discrete' (by omega)]
  simp only [Option.bind_some]
  rw [pus_ok (by simp; omega) (by omega), List.nil_append]
  simp only [Option.bind_some]
  rw [iota_fnew]
  simp only [Option.bind_some]
  obtain ⟨R, h1, h2, h3⟩ := join (sd := sd) h (iota_root n) (JI.start (by simp [iota]) (fun x y hx hy e => by unfold iota at e; rw [tab_getD hx, tab_getD hy] at e; omega) hP) hl
  rw [h1]
  simp only [Option.bind_some]
  rw [forest_partition h2.1 (by omega)]
  exact ⟨_, rfl, IsP.of h2.1 fun x y hx hy => h3.done h.lt hx hy⟩

open Classical in
theorem Generated {t : List (List Int)} {n : Nat} {T : Nat → Nat → Nat} {sd : Int} (h : Sg t n T) (hs : 0 ≤ sd ∧ sd ≤ 2) {P0 : List (Nat × Nat)} (hP : ∀ p ∈ P0, p.1 < n ∧ p.2 < n) (hl : P0.length ≤ 1000000) :
    ∃ r, P_congr_Generated t (P0.map pz) sd = some r ∧ IsP n (Gen n T sd P0) r := by
  unfold P_congr_Generated
  rw [validate, h.valid]
  have a1 : ¬ sd < 0 := by omega
  have a2 : ¬ 2 < sd := by omega
  simp only [a1, a2, Option.bind_some, Option.bind_none, decide_true, decide_false, Bool.not_true, Bool.not_false, Bool.true_and, Bool.and_true, Bool.false_eq_true, if_true, if_false, not_true_eq_false, not_false_eq_true, ite_true, ite_false, Bool.not_eq_true, decide_eq_true_eq, decide_eq_false_iff_not, Bool.not_eq_true', Bool.not_eq_false', Option.getD_some, Option.getD_none, Option.isSome_some, Option.isSome_none, Option.isNone_some, Option.isNone_none, eq_self, forall_const, true_implies, false_implies, implies_true]
  rw [look_const (ok := fun _ => True) (b := []) fun k hk => by
    unfold P_congr_Generated_l13
    rw [gi_lt (0, 0) hk]
    have hm := hP (P0.getD k (0, 0)) (getD_mem (by simpa using hk))
    have e : (P0.map pz).getD k (0, 0) = pz (P0.getD k (0, 0)) := by
      have : k < P0.length := by simpa using hk
      simp [List.getD_eq_getElem?_getD, this]
    rw [e]
    have b1 : ¬ (pz (P0.getD k (0, 0))).1 < 0 := by simp [pz]
    have b2 : ¬ (pz (P0.getD k (0, 0))).2 < 0 := by simp [pz]
    have b3 : ¬ (t.length : Int) ≤ (pz (P0.getD k (0, 0))).1 := by rw [h.len]; simp only [pz]; omega
    have b4 : ¬ (t.length : Int) ≤ (pz (P0.getD k (0, 0))).2 := by rw [h.len]; simp only [pz]; omega
    simp only [b1, b2, b3, b4, Option.bind_some, Option.bind_none, decide_true, decide_false, Bool.not_true, Bool.not_false, Bool.true_and, Bool.and_true, Bool.false_eq_true, if_true, if_false, not_true_eq_false, not_false_eq_true, ite_true, ite_false, Bool.not_eq_true, decide_eq_true_eq, decide_eq_false_iff_not, Bool.not_eq_true', Bool.not_eq_false', Option.getD_some, Option.getD_none, Option.isSome_some, Option.isSome_none, Option.isNone_some, Option.isNone_none, eq_self, forall_const, true_implies, false_implies, implies_true]]
  rw [if_pos (fun _ _ => trivial)]
  obtain ⟨r, h1, h2⟩ := generated (sd := sd) h.toTab hP hl
  simp only [Option.bind_some]
  rw [h1]
  exact ⟨r, rfl, h2⟩

theorem merge {L : List Int} {n i j : Nat} (hl : L.length = n) (hi : i < n) (hj : j < n) : P_semigroupref03_Merge L (i : Int) (j : Int) = some (mrg L (L.getD i 0) (L.getD j 0)) := by
  unfold P_semigroupref03_Merge
  rw [gi_lt 0 (by omega), gi_lt 0 (by omega)]
  simp only [Option.bind_some]
  obtain ⟨y, hy, h1, h2⟩ := forS_inv (n := L.length) (f := fun k x => P_semigroupref03_Merge_l17 (L.getD i 0) (L.getD j 0) k x) (x := L)
    (fun k X => X.length = L.length ∧ ∀ q, q < L.length → X.getD q 0 = if q < k then (mrg L (L.getD i 0) (L.getD j 0)).getD q 0 else L.getD q 0) ⟨rfl, fun q hq => by simp⟩ (by
      rintro k X hk ⟨h1, h2⟩
      unfold P_semigroupref03_Merge_l17
      have hk2 := h2 k hk
      rw [if_neg (by omega)] at hk2
      rw [gi_lt 0 (by omega), hk2]
      simp only [Option.bind_some]
      by_cases e : L.getD k 0 = L.getD j 0
      · rw [if_pos (by simp only [e, decide_true]), si_lt (by omega)]
        refine ⟨_, rfl, by simpa using h1, fun q hq => ?_⟩
        rw [getD_set', h2 q hq]
        by_cases e2 : k = q
        · subst e2
          rw [if_pos ⟨rfl, by omega⟩, if_pos (by omega), mrg_at hk, if_pos e]
        · rw [if_neg (fun h => e2 h.1)]
          by_cases e3 : q < k
          · rw [if_pos e3, if_pos (by omega)]
          · rw [if_neg e3, if_neg (by omega)]
      · rw [if_neg (by simp only [e, decide_false]; exact Bool.false_ne_true)]
        refine ⟨_, rfl, h1, fun q hq => ?_⟩
        rw [h2 q hq]
        by_cases e2 : q = k
        · subst e2
          rw [if_neg (by omega), if_pos (by omega), mrg_at hk, if_neg e]
        · by_cases e3 : q < k
          · rw [if_pos e3, if_pos (by omega)]
          · rw [if_neg e3, if_neg (by omega)])
  rw [hy]
  simp only [Option.bind_some, Option.some.injEq]
  exact list_ext 0 (by simp [h1]) fun q hq => by rw [h2 q (by omega), if_pos (by omega)]

structure Lab (n : Nat) (T : Nat → Nat → Nat) (sd : Int) (P0 : List (Nat × Nat)) (L : List Int) : Prop where
  len : L.length = n
  sound : ∀ θ, Cgr n T sd θ → (∀ p ∈ P0, θ p.1 p.2) → ∀ x y, x < n → y < n → L.getD x 0 = L.getD y 0 → θ x y
section
variable {n : Nat} {T : Nat → Nat → Nat} {sd : Int} {P0 : List (Nat × Nat)}
theorem mrg_keep {L : List Int} {n : Nat} (hl : L.length = n) {a b : Int} {x y : Nat} (hx : x < n) (hy : y < n) (e : L.getD x 0 = L.getD y 0) : (mrg L a b).getD x 0 = (mrg L a b).getD y 0 := by
  rw [mrg_at (by omega), mrg_at (by omega), e]
theorem mrg_join {L : List Int} {n : Nat} (hl : L.length = n) {i j : Nat} (hi : i < n) (hj : j < n) : (mrg L (L.getD i 0) (L.getD j 0)).getD i 0 = (mrg L (L.getD i 0) (L.getD j 0)).getD j 0 := by
  rw [mrg_at (by omega), mrg_at (by omega), if_pos rfl]
  split <;> rfl
theorem Lab.merge {L : List Int} (h : Lab n T sd P0 L) {i j : Nat} (hi : i < n) (hj : j < n) (hij : ∀ θ, Cgr n T sd θ → (∀ p ∈ P0, θ p.1 p.2) → θ i j) : Lab n T sd P0 (mrg L (L.getD i 0) (L.getD j 0)) := by
  refine ⟨by simp [h.len], fun θ hθ h0 x y hx hy e => ?_⟩
  have s := h.sound θ hθ h0
  have ij := hij θ hθ h0
  rw [mrg_at (by rw [h.len]; exact hx), mrg_at (by rw [h.len]; exact hy)] at e
  split at e <;> split at e
  · rename_i a b; exact s x y hx hy (a.trans b.symm)
  · rename_i a b; exact hθ.trans _ _ _ (s x j hx hj a) (hθ.trans _ _ _ (hθ.symm _ _ ij) (s i y hi hy e))
  · rename_i a b; exact hθ.trans _ _ _ (s x i hx hi e) (hθ.trans _ _ _ ij (s j y hj hy b.symm))
  · exact s x y hx hy e
end

theorem fromPairs {t : List (List Int)} {n : Nat} {T : Nat → Nat → Nat} (sd : Int) (hn : n ≤ 400) {P0 : List (Nat × Nat)} (hP : ∀ p ∈ P0, p.1 < n ∧ p.2 < n) :
    ∃ L, P_semigroupref03_FromPairs (n : Int) (P0.map pz) = some L ∧ Lab n T sd P0 L ∧ ∀ p ∈ P0, L.getD p.1 0 = L.getD p.2 0 := by
  unfold P_semigroupref03_FromPairs
  rw [ref_discrete' (by omega)]
  simp only [Option.bind_some]
  obtain ⟨y, hy, h1, h2⟩ := forS_inv (n := (P0.map pz).length) (f := fun k x => P_semigroupref03_FromPairs_l8 (P0.map pz) k x) (x := iota n)
    (fun k L => Lab n T sd P0 L ∧ ∀ q, q < k → q < P0.length → L.getD (P0.getD q (0, 0)).1 0 = L.getD (P0.getD q (0, 0)).2 0)
    ⟨⟨by simp [iota], fun θ hθ _ x y hx hy e => by rw [iota_inj hx hy e]; exact hθ.refl _⟩, fun q hq => by omega⟩ (by
      rintro k L hk ⟨h1, h2⟩
      have hk' : k < P0.length := by simpa using hk
      have hm := hP (P0.getD k (0, 0)) (getD_mem hk')
      have e : (P0.map pz).getD k (0, 0) = pz (P0.getD k (0, 0)) := by simp [List.getD_eq_getElem?_getD, hk']
      unfold P_semigroupref03_FromPairs_l8
      rw [gi_lt (0, 0) hk, e]
      simp only [Option.bind_some]
      unfold pz
      rw [merge h1.len hm.1 hm.2]
      refine ⟨_, rfl, h1.merge hm.1 hm.2 fun θ _ h0 => h0 _ (getD_mem hk'), fun q hq hq2 => ?_⟩
      rcases Nat.lt_or_ge q k with h5 | h5
      · have hq3 := hP (P0.getD q (0, 0)) (getD_mem hq2)
        exact mrg_keep h1.len hq3.1 hq3.2 (h2 q h5 hq2)
      · have : q = k := by omega
        subst this
        exact mrg_join h1.len hm.1 hm.2)
  rw [hy]
  simp only [Option.bind_some]
  rw [ref_canonical _ (by rw [h1.len]; omega)]
  refine ⟨_, rfl, ⟨by simp [h1.len], fun θ hθ h0 x y hx hy e => ?_⟩, fun p hp => ?_⟩
  · rw [canonI_ker (by rw [h1.len]; exact hx) (by rw [h1.len]; exact hy)] at e
    exact h1.sound θ hθ h0 x y hx hy e
  · obtain ⟨q, hq, rfl⟩ := mem_getD (d := (0, 0)) hp
    have hm := hP _ hp
    rw [canonI_ker (by rw [h1.len]; exact hm.1) (by rw [h1.len]; exact hm.2)]
    exact h2 q (by simpa using hq) hq

def Clo (T : Nat → Nat → Nat) (sd : Int) (L : List Int) (x y s : Nat) : Prop := L.getD x 0 = L.getD y 0 → (sd ≠ 2 → L.getD (T s x) 0 = L.getD (T s y) 0) ∧ (sd ≠ 1 → L.getD (T x s) 0 = L.getD (T y s) 0)
structure Rnd (n : Nat) (T : Nat → Nat → Nat) (sd : Int) (P0 : List (Nat × Nat)) (L0 : List Int) (ch : Bool) (L : List Int) : Prop where
  lab : Lab n T sd P0 L
  has : ∀ p ∈ P0, L.getD p.1 0 = L.getD p.2 0
  less : ch = true → cls n L < cls n L0
  same : ch = false → L = L0
theorem Rnd.le {n : Nat} {T : Nat → Nat → Nat} {sd : Int} {P0 : List (Nat × Nat)} {L0 L : List Int} {ch : Bool} (h : Rnd n T sd P0 L0 ch L) : cls n L ≤ cls n L0 := by
  cases ch with
  | true => exact Nat.le_of_lt (h.less rfl)
  | false => rw [h.same rfl]; exact Nat.le_refl _
theorem Rnd.merge {n : Nat} {T : Nat → Nat → Nat} {sd : Int} {P0 : List (Nat × Nat)} {L0 L : List Int} {ch : Bool} (h : Rnd n T sd P0 L0 ch L) (hP : ∀ p ∈ P0, p.1 < n ∧ p.2 < n) {i j : Nat} (hi : i < n) (hj : j < n) (hne : L.getD i 0 ≠ L.getD j 0)
    (hij : ∀ θ, Cgr n T sd θ → (∀ p ∈ P0, θ p.1 p.2) → θ i j) : Rnd n T sd P0 L0 true (mrg L (L.getD i 0) (L.getD j 0)) :=
  ⟨h.lab.merge hi hj hij, fun p hp => mrg_keep h.lab.len (hP p hp).1 (hP p hp).2 (h.has p hp), fun _ => Nat.lt_of_lt_of_le (cls_mrg h.lab.len hi hj hne) h.le, fun h => by cases h⟩

theorem ref_inner {t : List (List Int)} {n : Nat} {T : Nat → Nat → Nat} {sd : Int} (h : Tab t n T) {P0 : List (Nat × Nat)} (hP : ∀ p ∈ P0, p.1 < n ∧ p.2 < n) {L0 L : List Int} {ch : Bool} {x y : Nat} (hx : x < n) (hy : y < n) (hr : Rnd n T sd P0 L0 ch L) :
    ∃ ch' s' L', loopO (fun q => P_semigroupref19_Generated_l51 x sd t (y : Int) q.1 q.2.1 q.2.2) (ch, 0, L) = some (.inl (ch', s', L')) ∧ Rnd n T sd P0 L0 ch' L' ∧ (ch' = false → ch = false ∧ ∀ s, s < n → Clo T sd L0 x y s) := by
  have h400 := h.le
  have key : ∃ o, loopO (fun q => P_semigroupref19_Generated_l51 x sd t (y : Int) q.1 q.2.1 q.2.2) (ch, 0, L) = some o ∧ ∃ q : Bool × Int × List Int, o = .inl q ∧ Rnd n T sd P0 L0 q.1 q.2.2 ∧ (q.1 = false → ch = false ∧ ∀ s, s < n → Clo T sd L0 x y s) := by
    refine loop_inv (fun q : Bool × Int × List Int => ∃ s : Nat, q.2.1 = (s : Int) ∧ s ≤ n ∧ Rnd n T sd P0 L0 q.1 q.2.2 ∧ (q.1 = false → ch = false ∧ ∀ s', s' < s → Clo T sd L0 x y s')) (fun q => n - q.2.1.toNat) _
      ⟨0, rfl, Nat.zero_le _, hr, fun e => ⟨e, fun s' hs => by omega⟩⟩ ?_
    rintro ⟨c, _, M⟩ ⟨s, rfl, hs, hr, hc⟩
    dsimp only at hr hc ⊢
    have gM : ∀ k : Nat, k < n → gi M (k : Int) = some (M.getD k 0) := fun k hk => gi_lt 0 (by rw [hr.lab.len]; exact hk)
    unfold P_semigroupref19_Generated_l51
    rw [gM x hx, gM y hy, h.len]
    simp only [Option.bind_some]
    by_cases hsn : s < n
    · have d1 : decide ((s : Int) < (n : Int)) = true := by simpa using hsn
      rw [if_pos d1]
      simp only [Option.bind_some]
      by_cases e : M.getD x 0 = M.getD y 0
      · rw [if_pos (by simp only [e, decide_true])]
        have t1 := h.lt s x hsn hx; have t2 := h.lt s y hsn hy; have t3 := h.lt x s hx hsn; have t4 := h.lt y s hy hsn
        rw [h.gi1 hsn]; simp only [Option.bind_some]
        rw [h.gi2 hsn hx]; simp only [Option.bind_some]
        rw [h.gi2 hsn hy]; simp only [Option.bind_some]
        rw [gM _ t1, gM _ t2]; simp only [Option.bind_some]
        rw [h.gi1 hx, h.gi1 hy]; simp only [Option.bind_some]
        rw [h.gi2 hx hsn, h.gi2 hy hsn]; simp only [Option.bind_some]
        have hw : w64 ((s : Int) + 1) = ((s + 1 : Nat) : Int) := by rw [w64_id (by omega) (by omega)]; simp
        rw [hw]
        -- the end of the round, by the second half
        have half : ∀ (c1 : Bool) (M1 : List Int), Rnd n T sd P0 L0 c1 M1 → M1.getD x 0 = M1.getD y 0 → (c1 = false → c = false ∧ (sd ≠ 2 → L0.getD (T s x) 0 = L0.getD (T s y) 0)) →
            ∃ q : Bool × Int × List Int, (Option.bind (if !decide (sd = 1) then Option.bind (gi M1 (T x s : Int)) fun a => Option.bind (gi M1 (T y s : Int)) fun b => some (!decide (a = b)) else some false) fun z =>
              if z then Option.bind (P_semigroupref03_Merge M1 (T x s : Int) (T y s : Int)) fun r => some (Lp.go (β := Empty) (true, ((s + 1 : Nat) : Int), r)) else some (.go (c1, ((s + 1 : Nat) : Int), M1))) = some (.go q) ∧
              (∃ s' : Nat, q.2.1 = (s' : Int) ∧ s' ≤ n ∧ Rnd n T sd P0 L0 q.1 q.2.2 ∧ (q.1 = false → ch = false ∧ ∀ s'', s'' < s' → Clo T sd L0 x y s'')) ∧ n - q.2.1.toNat < n - s := fun c1 M1 r1 e1 k1 => by
          have gM1 : ∀ k : Nat, k < n → gi M1 (k : Int) = some (M1.getD k 0) := fun k hk => gi_lt 0 (by rw [r1.lab.len]; exact hk)
          rw [gM1 _ t3, gM1 _ t4]; simp only [Option.bind_some]
          by_cases s1 : sd = 1
          · rw [show (!decide (sd = 1)) = false by simp [s1]]
            simp only [Bool.false_eq_true, if_false, Option.bind_some]
            refine ⟨_, rfl, ⟨s + 1, rfl, by omega, r1, fun hf => ?_⟩, by simp; omega⟩
            obtain ⟨k2, k3⟩ := k1 hf
            obtain ⟨k4, k5⟩ := hc k2
            refine ⟨k4, fun s'' hs'' => ?_⟩
            rcases Nat.lt_or_ge s'' s with h5 | h5
            · exact k5 s'' h5
            · have : s'' = s := by omega
              subst this
              exact fun _ => ⟨k3, fun h => absurd s1 h⟩
          · simp only [s1, Option.bind_some, Option.bind_none, decide_true, decide_false, Bool.not_true, Bool.not_false, Bool.true_and, Bool.and_true, Bool.false_eq_true, if_true, if_false, not_true_eq_false, not_false_eq_true, ite_true, ite_false, Bool.not_eq_true, decide_eq_true_eq, decide_eq_false_iff_not, Bool.not_eq_true', Bool.not_eq_false', Option.getD_some, Option.getD_none, Option.isSome_some, Option.isSome_none, Option.isNone_some, Option.isNone_none, eq_self, forall_const, true_implies, false_implies, implies_true]
            by_cases e3 : M1.getD (T x s) 0 = M1.getD (T y s) 0
            · simp only [e3, Option.bind_some, Option.bind_none, decide_true, decide_false, Bool.not_true, Bool.not_false, Bool.true_and, Bool.and_true, Bool.false_eq_true, if_true, if_false, not_true_eq_false, not_false_eq_true, ite_true, ite_false, Bool.not_eq_true, decide_eq_true_eq, decide_eq_false_iff_not, Bool.not_eq_true', Bool.not_eq_false', Option.getD_some, Option.getD_none, Option.isSome_some, Option.isSome_none, Option.isNone_some, Option.isNone_none, eq_self, forall_const, true_implies, false_implies, implies_true]
              refine ⟨_, rfl, ⟨s + 1, rfl, by omega, r1, fun hf => ?_⟩, by simp; omega⟩
              obtain ⟨k2, k3⟩ := k1 hf
              obtain ⟨k4, k5⟩ := hc k2
              refine ⟨k4, fun s'' hs'' => ?_⟩
              rcases Nat.lt_or_ge s'' s with h5 | h5
              · exact k5 s'' h5
              · have : s'' = s := by omega
                subst this
                rw [r1.same hf] at e3
                exact fun _ => ⟨k3, fun _ => e3⟩
            · simp only [e3, Option.bind_some, Option.bind_none, decide_true, decide_false, Bool.not_true, Bool.not_false, Bool.true_and, Bool.and_true, Bool.false_eq_true, if_true, if_false, not_true_eq_false, not_false_eq_true, ite_true, ite_false, Bool.not_eq_true, decide_eq_true_eq, decide_eq_false_iff_not, Bool.not_eq_true', Bool.not_eq_false', Option.getD_some, Option.getD_none, Option.isSome_some, Option.isSome_none, Option.isNone_some, Option.isNone_none, eq_self, forall_const, true_implies, false_implies, implies_true]
              rw [merge r1.lab.len t3 t4]
              refine ⟨_, rfl, ⟨s + 1, rfl, by omega, r1.merge hP t3 t4 e3 fun θ hθ h0 => hθ.right s1 s x y hsn hx hy (r1.lab.sound θ hθ h0 x y hx hy e1), fun hf => by cases hf⟩, by simp; omega⟩
        by_cases s2 : sd = 2
        · have d2 : (!decide (sd = 2)) = false := by simp [s2]
          rw [d2]
          simp only [Bool.false_eq_true, if_false, Option.bind_some]
          obtain ⟨q, q1, q2, q3⟩ := half c M hr e fun hf => ⟨hf, fun h => absurd s2 h⟩
          exact .inl ⟨q, q1, q2, q3⟩
        · have d2 : (!decide (sd = 2)) = true := by simp [s2]
          rw [d2]
          simp only [if_true, Option.bind_some]
          by_cases e2 : M.getD (T s x) 0 = M.getD (T s y) 0
          · rw [if_neg (by simp only [e2, decide_true]; decide)]
            obtain ⟨q, q1, q2, q3⟩ := half c M hr e fun hf => ⟨hf, fun _ => by rw [← hr.same hf]; exact e2⟩
            exact .inl ⟨q, q1, q2, q3⟩
          · rw [if_pos (by simp only [e2, decide_false]; rfl), merge hr.lab.len t1 t2]
            simp only [Option.bind_some]
            obtain ⟨q, q1, q2, q3⟩ := half true _ (hr.merge hP t1 t2 e2 fun θ hθ h0 => hθ.left s2 s x y hsn hx hy (hr.lab.sound θ hθ h0 x y hx hy e)) (mrg_keep hr.lab.len hx hy e) fun hf => by cases hf
            exact .inl ⟨q, q1, q2, q3⟩
      · rw [if_neg (by simp only [e, decide_false]; exact Bool.false_ne_true)]
        refine .inr (.inl ⟨_, rfl, _, rfl, hr, fun hf => ⟨(hc hf).1, fun s' hs' e' => ?_⟩⟩)
        rw [hr.same hf] at e
        exact absurd e' e
    · have d1 : decide ((s : Int) < (n : Int)) = false := by simpa using Nat.le_of_not_lt hsn
      rw [d1]
      simp only [Option.bind_some, Option.bind_none, decide_true, decide_false, Bool.not_true, Bool.not_false, Bool.true_and, Bool.and_true, Bool.false_eq_true, if_true, if_false, not_true_eq_false, not_false_eq_true, ite_true, ite_false, Bool.not_eq_true, decide_eq_true_eq, decide_eq_false_iff_not, Bool.not_eq_true', Bool.not_eq_false', Option.getD_some, Option.getD_none, Option.isSome_some, Option.isSome_none, Option.isNone_some, Option.isNone_none, eq_self, forall_const, true_implies, false_implies, implies_true]
      refine .inr (.inl ⟨_, rfl, _, rfl, hr, fun hf => ⟨(hc hf).1, fun s' hs' => (hc hf).2 s' (by omega)⟩⟩)
  obtain ⟨o, ho, q, rfl, h1, h2⟩ := key
  exact ⟨q.1, q.2.1, q.2.2, ho, h1, h2⟩

theorem ref_rowloop {t : List (List Int)} {n : Nat} {T : Nat → Nat → Nat} {sd : Int} (h : Tab t n T) {P0 : List (Nat × Nat)} (hP : ∀ p ∈ P0, p.1 < n ∧ p.2 < n) {L0 L : List Int} {ch : Bool} {x : Nat} (hx : x < n) (hr : Rnd n T sd P0 L0 ch L) :
    ∃ ch' L', P_semigroupref19_Generated_l23 sd t x ch L = some (ch', L') ∧ Rnd n T sd P0 L0 ch' L' ∧ (ch' = false → ch = false ∧ ∀ y, y < x → ∀ s, s < n → Clo T sd L0 x y s) := by
  have h400 := h.le
  have key : ∃ o, loopO (fun q => P_semigroupref19_Generated_l36 x sd t q.1 q.2.1 q.2.2) (ch, 0, L) = some o ∧ ∃ q : Bool × Int × List Int, o = .inl q ∧ Rnd n T sd P0 L0 q.1 q.2.2 ∧ (q.1 = false → ch = false ∧ ∀ y, y < x → ∀ s, s < n → Clo T sd L0 x y s) := by
    refine loop_inv (fun q : Bool × Int × List Int => ∃ y : Nat, q.2.1 = (y : Int) ∧ y ≤ x ∧ Rnd n T sd P0 L0 q.1 q.2.2 ∧ (q.1 = false → ch = false ∧ ∀ y', y' < y → ∀ s, s < n → Clo T sd L0 x y' s)) (fun q => x - q.2.1.toNat) _
      ⟨0, rfl, Nat.zero_le _, hr, fun e => ⟨e, fun s' hs => by omega⟩⟩ ?_
    rintro ⟨c, _, M⟩ ⟨y, rfl, hy, hr, hc⟩
    dsimp only at hr hc ⊢
    unfold P_semigroupref19_Generated_l36
    by_cases hyx : y < x
    · rw [if_pos (by simpa using hyx)]
      obtain ⟨c', s', M', e1, r1, k1⟩ := ref_inner (y := y) h hP hx (by omega) hr
      rw [e1]
      have hw : w64 ((y : Int) + 1) = ((y + 1 : Nat) : Int) := by rw [w64_id (by omega) (by omega)]; simp
      refine .inl ⟨_, rfl, ⟨y + 1, hw, by omega, r1, fun hf => ?_⟩, by rw [hw]; simp; omega⟩
      obtain ⟨k2, k3⟩ := k1 hf
      obtain ⟨k4, k5⟩ := hc k2
      refine ⟨k4, fun y' hy' => ?_⟩
      rcases Nat.lt_or_ge y' y with h5 | h5
      · exact k5 y' h5
      · have : y' = y := by omega
        subst this; exact k3
    · rw [if_neg (by simpa using Nat.le_of_not_lt hyx)]
      exact .inr (.inl ⟨_, rfl, _, rfl, hr, fun hf => ⟨(hc hf).1, fun y' hy' => (hc hf).2 y' (by omega)⟩⟩)
  obtain ⟨o, ho, q, rfl, h1, h2⟩ := key
  unfold P_semigroupref19_Generated_l23
  rw [ho]
  exact ⟨q.1, q.2.2, rfl, h1, h2⟩

theorem ref_Generated {t : List (List Int)} {n : Nat} {T : Nat → Nat → Nat} {sd : Int} (h : Tab t n T) {P0 : List (Nat × Nat)} (hP : ∀ p ∈ P0, p.1 < n ∧ p.2 < n) :
    ∃ r, P_semigroupref19_Generated t (P0.map pz) sd = some r ∧ IsP n (Gen n T sd P0) r := by
  have h400 := h.le
  unfold P_semigroupref19_Generated
  rw [h.len]
  obtain ⟨L, e1, l1, p1⟩ := fromPairs (t := t) (T := T) sd h400 hP
  rw [e1]
  simp only [Option.bind_some]
  have key : ∃ o, loopO (fun q => P_semigroupref19_Generated_l8 sd t q.1 q.2) (true, L) = some o ∧ ∃ q : Bool × List Int, o = .inl q ∧ Lab n T sd P0 q.2 ∧ (∀ p ∈ P0, q.2.getD p.1 0 = q.2.getD p.2 0) ∧ ∀ x y s, x < n → y < x → s < n → Clo T sd q.2 x y s := by
    refine loop_inv (fun q : Bool × List Int => Lab n T sd P0 q.2 ∧ (∀ p ∈ P0, q.2.getD p.1 0 = q.2.getD p.2 0) ∧ (q.1 = false → ∀ x y s, x < n → y < x → s < n → Clo T sd q.2 x y s)) (fun q => 2 * cls n q.2 + if q.1 then 1 else 0) _
      ⟨l1, p1, fun h => by cases h⟩ ?_
    rintro ⟨c, M⟩ ⟨l1, p1, c1⟩
    dsimp only at l1 p1 c1 ⊢
    unfold P_semigroupref19_Generated_l8
    cases c with
    | false => exact .inr (.inl ⟨_, rfl, _, rfl, l1, p1, c1 rfl⟩)
    | true =>
      simp only [if_true]
      obtain ⟨y, hy, h1, h2⟩ := forS_inv (n := t.length) (f := fun k q => P_semigroupref19_Generated_l23 sd t k q.1 q.2) (x := (false, M))
        (fun k q => Rnd n T sd P0 M q.1 q.2 ∧ (q.1 = false → ∀ x y s, x < k → x < n → y < x → s < n → Clo T sd M x y s)) ⟨⟨l1, p1, fun h => (by cases h), fun _ => rfl⟩, fun _ x y s hx => by omega⟩ (by
          rintro k ⟨c, L⟩ hk ⟨r1, k1⟩
          have hk' : k < n := by rw [← h.len]; exact hk
          obtain ⟨c', L', e1, r2, k2⟩ := ref_rowloop h hP hk' r1
          refine ⟨_, e1, r2, fun hf x y s hx hx2 hy hs => ?_⟩
          obtain ⟨k3, k4⟩ := k2 hf
          rcases Nat.lt_or_ge x k with h5 | h5
          · exact k1 k3 x y s h5 hx2 hy hs
          · have : x = k := by omega
            subst this; exact k4 y hy s hs)
      rw [hy]
      obtain ⟨c', L'⟩ := y
      dsimp only at h1 h2 ⊢
      refine .inl ⟨_, rfl, ⟨h1.lab, h1.has, fun hf x y s hx hy hs => ?_⟩, ?_⟩
      · rw [h1.same hf]; exact h2 hf x y s (by rw [h.len]; exact hx) hx hy hs
      · dsimp only
        cases c' with
        | true => have := h1.less rfl; simp; omega
        | false => rw [h1.same rfl]; simp
  obtain ⟨o, ho, q, rfl, l2, p2, c2⟩ := key
  rw [ho]
  simp only [Option.bind_some]
  rw [ref_canonical _ (by rw [l2.len]; omega)]
  refine ⟨_, rfl, IsP.of l2.len fun x y hx hy => ker_gen h.lt l2.sound (fun p hp => ?_) (fun s x y hs hx hy e => ?_) hx hy⟩
  · have := hP p hp
    exact .inr ⟨this.1, this.2, p2 p hp⟩
  · rcases Nat.lt_trichotomy x y with h5 | h5 | h5
    · have := c2 y x s hy h5 hs e.symm
      exact ⟨fun h => (this.1 h).symm, fun h => (this.2 h).symm⟩
    · subst h5; exact ⟨fun _ => rfl, fun _ => rfl⟩
    · exact c2 x y s hx h5 hs e
end Go.Proofs.Ytmdpejgnkoneoaa.Mt
namespace Go.AM.Lx

def lexB : List Int → List Int → Bool
  | [], [] => false
  | [], _ :: _ => true
  | _ :: _, [] => false
  | x :: a, y :: b => if x = y then lexB a b else decide (x < y)
theorem lexB_irrefl : ∀ a : List Int, lexB a a = false
  | [] => rfl
  | x :: a => by simp [lexB, lexB_irrefl a]
theorem lexB_trans : ∀ {a b c : List Int}, lexB a b = true → lexB b c = true → lexB a c = true
  | [], [], c, h, _ => by simp [lexB] at h
  | [], _ :: _, [], _, h => by simp [lexB] at h
  | [], _ :: _, _ :: _, _, _ => rfl
  | _ :: _, [], _, h, _ => by simp [lexB] at h
  | _ :: _, _ :: _, [], _, h => by simp [lexB] at h
  | x :: a, y :: b, z :: c, h1, h2 => by
    simp only [lexB] at h1 h2 ⊢
    by_cases e1 : x = y
    · subst e1
      rw [if_pos rfl] at h1
      by_cases e2 : x = z
      · subst e2
        rw [if_pos rfl] at h2 ⊢
        exact lexB_trans h1 h2
      · rw [if_neg e2] at h2 ⊢; exact h2
    · rw [if_neg e1] at h1
      by_cases e2 : y = z
      · subst e2
        rw [if_neg e1]; exact h1
      · rw [if_neg e2] at h2
        simp only [decide_eq_true_eq] at h1 h2
        rw [if_neg (by omega)]
        simp only [decide_eq_true_eq]; omega
theorem lexB_total : ∀ {a b : List Int}, a ≠ b → lexB a b = true ∨ lexB b a = true
  | [], [], h => absurd rfl h
  | [], _ :: _, _ => .inl rfl
  | _ :: _, [], _ => .inr rfl
  | x :: a, y :: b, h => by
    simp only [lexB]
    by_cases e : x = y
    · subst e
      rw [if_pos rfl, if_pos rfl]
      exact lexB_total fun e => h (by rw [e])
    · rw [if_neg e, if_neg fun h => e h.symm]
      simp only [decide_eq_true_eq]
      omega

def Asc (l : List (List Int)) : Prop := l.Pairwise fun a b => lexB a b = true
theorem asc_insert {A B : List (List Int)} {x : List Int} (h : Asc (A ++ B)) (ha : ∀ a ∈ A, lexB a x = true) (hb : ∀ b ∈ B, lexB x b = true) : Asc (A ++ x :: B) := by
  unfold Asc at h ⊢
  rw [List.pairwise_append] at h ⊢
  obtain ⟨h1, h2, h3⟩ := h
  refine ⟨h1, List.pairwise_cons.2 ⟨hb, h2⟩, fun a ha' b hb' => ?_⟩
  rcases List.mem_cons.1 hb' with rfl | hb'
  · exact ha a ha'
  · exact h3 a ha' b hb'
theorem asc_unique : ∀ {A B : List (List Int)}, Asc A → Asc B → (∀ x, x ∈ A ↔ x ∈ B) → A = B
  | [], [], _, _, _ => rfl
  | [], b :: B, _, _, h => by have := (h b).2 (by simp); simp at this
  | a :: A, [], _, _, h => by have := (h a).1 (by simp); simp at this
  | a :: A, b :: B, h1, h2, h => by
    have ha := List.pairwise_cons.1 h1
    have hb := List.pairwise_cons.1 h2
    have e : a = b := by
      refine Classical.byContradiction fun hne => ?_
      have m1 : a ∈ B := by rcases List.mem_cons.1 ((h a).1 (by simp)) with e | e; exact absurd e hne; exact e
      have m2 : b ∈ A := by rcases List.mem_cons.1 ((h b).2 (by simp)) with e | e; exact absurd e.symm hne; exact e
      have l1 := hb.1 a m1
      have l2 := ha.1 b m2
      have := lexB_trans l1 l2
      rw [lexB_irrefl] at this; cases this
    subst e
    congr 1
    refine asc_unique ha.2 hb.2 fun x => ?_
    have nx : ∀ (L : List (List Int)), (∀ q ∈ L, lexB a q = true) → a ∉ L := fun L hL hm => by
      have := hL a hm; rw [lexB_irrefl] at this; cases this
    constructor
    · intro hx
      rcases List.mem_cons.1 ((h x).1 (by simp [hx])) with rfl | e
      · exact absurd hx (nx A ha.1)
      · exact e
    · intro hx
      rcases List.mem_cons.1 ((h x).2 (by simp [hx])) with rfl | e
      · exact absurd hx (nx B hb.1)
      · exact e
end Go.AM.Lx
