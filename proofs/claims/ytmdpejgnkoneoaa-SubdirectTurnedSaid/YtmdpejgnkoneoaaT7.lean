/- Part 7 of the proof that the law SubdirectTurned holds: words and lemmas it rests on. No condition. -/
import Derived.Test.YtmdpejgnkoneoaaT5
import Derived.Test.YtmdpejgnkoneoaaT6
import Derived.Test.YtmdpejgnkoneoaaT3
set_option linter.unusedSimpArgs false
set_option linter.unusedVariables false
set_option linter.unnecessarySimpa false
set_option linter.unusedSectionVars false
set_option maxRecDepth 100000
set_option maxHeartbeats 4000000
namespace Go.Proofs.Ytmdpejgnkoneoaa.Pu
open Go Go.AM Go.Proofs.Ytmdpejgnkoneoaa.Code

noncomputable def P_mult_failing_l22 (k4 : Nat) (k14 : Nat) (t : List (List Int)) (k24 : Nat) : Option (Lp (Unit) (Int × Int × Int × Bool)) :=
 Option.bind (gi t (k4 : Int)) fun x31 =>
 Option.bind (gi x31 (k14 : Int)) fun x38 =>
 Option.bind (gi t x38) fun x45 =>
 Option.bind (gi x45 (k24 : Int)) fun x52 =>
 Option.bind (gi t (k14 : Int)) fun x59 =>
 Option.bind (gi x59 (k24 : Int)) fun x66 =>
 Option.bind (gi x31 x66) fun x73 =>
 if !decide (x52 = x73) then
  some (.ex ((k4 : Int), (k14 : Int), (k24 : Int), true))
 else
  some (.go ())
noncomputable def P_mult_failing_l12 (k4 : Nat) (t : List (List Int)) (k14 : Nat) : Option (Lp (Unit) (Int × Int × Int × Bool)) :=
 Option.bind (forR t.length (fun k x => P_mult_failing_l22 k4 k14 t k) ()) fun z28 =>
 match z28 with
 | .inl x81 =>
  some (.go ())
 | .inr b => some (.ex b)
noncomputable def P_mult_failing_l2 (t : List (List Int)) (k4 : Nat) : Option (Lp (Unit) (Int × Int × Int × Bool)) :=
 Option.bind (forR t.length (fun k x => P_mult_failing_l12 k4 t k) ()) fun z18 =>
 match z18 with
 | .inl x83 =>
  some (.go ())
 | .inr b => some (.ex b)
noncomputable def P_mult_failing (t : List (List Int)) : Option (Int × Int × Int × Bool) :=
 Option.bind (forR t.length (fun k x => P_mult_failing_l2 t k) ()) fun z8 =>
 match z8 with
 | .inl x85 =>
  some (0, 0, 0, false)
 | .inr b => some b
theorem R_mult_failing {G : List Frag} {W H : AH} {v_0 : AV} {t : List (List Int)} (hst : St G W H) (h_0 : Rp.rv W v_0 t) {r : Int × Int × Int × Bool} (hp : P_mult_failing t = some r) :
  wpc E0 N_mult_failing [v_0] H fun rv H' => ∃ W', Wle W W' ∧ St G W' H' ∧ rv = .tup [.int .i64 r.1, .int .i64 r.2.1, .int .i64 r.2.2.1, .bool r.2.2.2] := by
 refine enterN (F := f_mult_failing) rfl (Nat.le_of_ble_eq_true rfl) fun s hl hg => ?_;replace hl : s.length = 57 := hl;have g0 : gt s 0 = v_0 := hg 0 (Nat.le_of_ble_eq_true rfl);clear hg;unfold P_mult_failing at hp;show wp E0 c_mult_failing s H _;unfold c_mult_failing;refine AM.wp_seq hp0 (AM.wp_reg hp0 ?_);refine wpo_seg hp0 4 (fun s H' => s.length = 57 ∧ gt s 0 = v_0 ∧ H = H') (by simp only [↓runs, isCall, ↓reduceIte, ↓gd_true, ↓gd_false, evs, AV.cells, Nat.reduceEqDiff, Nat.reduceLT, reduceCtorEq, Nat.reduceAdd, sy, g0, hl]) ?_;rintro s _ ⟨hl, g0, rfl⟩;refine wpo_nil (then_n ?_);refine AM.wp_seq hp0 (AM.wp_seq hp0 (AM.wp_reg hp0 ?_));have f1 := fz_ln h_0;refine wpo_seg hp0 3 (fun s H' => s.length = 57 ∧ gt s 0 = v_0 ∧ gt s 10 = .int .i64 (t.length : Int) ∧ gt s 11 = .int .i64 0 ∧ H = H') (by simp only [↓runs, isCall, ↓reduceIte, ↓gd_true, ↓gd_false, evs, AV.cells, Nat.reduceEqDiff, Nat.reduceLT, reduceCtorEq, Nat.reduceAdd, sy, f1, g0, hl]) ?_;rintro s _ ⟨hl, g0, g10, g11, rfl⟩;refine wpo_nil (then_n ?_);obtain ⟨z8, e9, hp⟩ := bn hp;refine range_ref hp0 57 t.length (fun k x => P_mult_failing_l2 t k) (fun _ x s H' => s.length = 57 ∧ gt s 0 = v_0 ∧ H = H') (fun _ x s H' => s.length = 57 ∧ H = H') e9 (fz_big h_0) rfl ?_ ?_ hl g11 g10 ?_ ?_
 ·intro k x s H d v hd h; rcases hd with rfl | rfl | rfl <;> simpa only [gt_other, pt_length, Nat.reduceEqDiff, not_false_eq_true] using h
 ·exact ⟨hl, g0, rfl⟩
 ·intro k4 x3 y5 s H hk hI hl g11 g10 hy6 hx7;change P_mult_failing_l2 t k4 = some y5 at hy6;unfold P_mult_failing_l2 at hy6;obtain ⟨hl, g0, rfl⟩ := hI;refine AM.wp_seq hp0 (AM.wp_reg hp0 ?_);refine wpo_seg hp0 2 (fun s H' => s.length = 57 ∧ gt s 0 = v_0 ∧ gt s 6 = .int .i64 (k4 : Int) ∧ gt s 10 = .int .i64 (t.length : Int) ∧ gt s 11 = .int .i64 (k4 : Int) ∧ H = H') (by simp only [↓runs, isCall, ↓reduceIte, ↓gd_true, ↓gd_false, evs, AV.cells, Nat.reduceEqDiff, Nat.reduceLT, reduceCtorEq, Nat.reduceAdd, sy, g0, g10, g11, hl]) ?_;rintro s _ ⟨hl, g0, g6, g10, g11, rfl⟩;refine wpo_nil (then_n ?_);refine AM.wp_seq hp0 (AM.wp_reg hp0 ?_);have f11 := fz_ln h_0;refine wpo_seg hp0 3 (fun s H' => s.length = 57 ∧ gt s 0 = v_0 ∧ gt s 6 = .int .i64 (k4 : Int) ∧ gt s 10 = .int .i64 (t.length : Int) ∧ gt s 11 = .int .i64 (k4 : Int) ∧ gt s 15 = .int .i64 (t.length : Int) ∧ gt s 16 = .int .i64 0 ∧ H = H') (by simp only [↓runs, isCall, ↓reduceIte, ↓gd_true, ↓gd_false, evs, AV.cells, Nat.reduceEqDiff, Nat.reduceLT, reduceCtorEq, Nat.reduceAdd, sy, f11, g0, g6, g10, g11, hl]) ?_;rintro s _ ⟨hl, g0, g6, g10, g11, g15, g16, rfl⟩;refine wpo_nil (then_n ?_);obtain ⟨z18, e19, hy6⟩ := bn hy6;refine range_ref hp0 57 t.length (fun k x => P_mult_failing_l12 k4 t k) (fun _ x s H' => s.length = 57 ∧ gt s 0 = v_0 ∧ gt s 6 = .int .i64 (k4 : Int) ∧ gt s 10 = .int .i64 (t.length : Int) ∧ gt s 11 = .int .i64 (k4 : Int) ∧ H = H') (fun _ x s H' => s.length = 57 ∧ gt s 0 = v_0 ∧ gt s 10 = .int .i64 (t.length : Int) ∧ gt s 11 = .int .i64 (k4 : Int) ∧ H = H') e19 (fz_big h_0) rfl ?_ ?_ hl g16 g15 ?_ ?_
  ·intro k x s H d v hd h; rcases hd with rfl | rfl | rfl <;> simpa only [gt_other, pt_length, Nat.reduceEqDiff, not_false_eq_true] using h
  ·exact ⟨hl, g0, g6, g10, g11, rfl⟩
  ·intro k14 x13 y15 s H hk hI hl g16 g15 hy16 hx17;change P_mult_failing_l12 k4 t k14 = some y15 at hy16;unfold P_mult_failing_l12 at hy16;obtain ⟨hl, g0, g6, g10, g11, rfl⟩ := hI;refine AM.wp_seq hp0 (AM.wp_reg hp0 ?_);refine wpo_seg hp0 2 (fun s H' => s.length = 57 ∧ gt s 0 = v_0 ∧ gt s 6 = .int .i64 (k4 : Int) ∧ gt s 7 = .int .i64 (k14 : Int) ∧ gt s 10 = .int .i64 (t.length : Int) ∧ gt s 11 = .int .i64 (k4 : Int) ∧ gt s 15 = .int .i64 (t.length : Int) ∧ gt s 16 = .int .i64 (k14 : Int) ∧ H = H') (by simp only [↓runs, isCall, ↓reduceIte, ↓gd_true, ↓gd_false, evs, AV.cells, Nat.reduceEqDiff, Nat.reduceLT, reduceCtorEq, Nat.reduceAdd, sy, g0, g6, g10, g11, g15, g16, hl]) ?_;rintro s _ ⟨hl, g0, g6, g7, g10, g11, g15, g16, rfl⟩;refine wpo_nil (then_n ?_);refine AM.wp_seq hp0 (AM.wp_reg hp0 ?_);have f21 := fz_ln h_0;refine wpo_seg hp0 3 (fun s H' => s.length = 57 ∧ gt s 0 = v_0 ∧ gt s 6 = .int .i64 (k4 : Int) ∧ gt s 7 = .int .i64 (k14 : Int) ∧ gt s 10 = .int .i64 (t.length : Int) ∧ gt s 11 = .int .i64 (k4 : Int) ∧ gt s 15 = .int .i64 (t.length : Int) ∧ gt s 16 = .int .i64 (k14 : Int) ∧ gt s 20 = .int .i64 (t.length : Int) ∧ gt s 21 = .int .i64 0 ∧ H = H') (by simp only [↓runs, isCall, ↓reduceIte, ↓gd_true, ↓gd_false, evs, AV.cells, Nat.reduceEqDiff, Nat.reduceLT, reduceCtorEq, Nat.reduceAdd, sy, f21, g0, g6, g7, g10, g11, g15, g16, hl]) ?_;rintro s _ ⟨hl, g0, g6, g7, g10, g11, g15, g16, g20, g21, rfl⟩;refine wpo_nil (then_n ?_);obtain ⟨z28, e29, hy16⟩ := bn hy16;refine range_ref hp0 57 t.length (fun k x => P_mult_failing_l22 k4 k14 t k) (fun _ x s H' => s.length = 57 ∧ gt s 0 = v_0 ∧ gt s 6 = .int .i64 (k4 : Int) ∧ gt s 7 = .int .i64 (k14 : Int) ∧ gt s 10 = .int .i64 (t.length : Int) ∧ gt s 11 = .int .i64 (k4 : Int) ∧ gt s 15 = .int .i64 (t.length : Int) ∧ gt s 16 = .int .i64 (k14 : Int) ∧ H = H') (fun _ x s H' => s.length = 57 ∧ gt s 0 = v_0 ∧ gt s 6 = .int .i64 (k4 : Int) ∧ gt s 10 = .int .i64 (t.length : Int) ∧ gt s 11 = .int .i64 (k4 : Int) ∧ gt s 15 = .int .i64 (t.length : Int) ∧ gt s 16 = .int .i64 (k14 : Int) ∧ H = H') e29 (fz_big h_0) rfl ?_ ?_ hl g21 g20 ?_ ?_
   ·intro k x s H d v hd h; rcases hd with rfl | rfl | rfl <;> simpa only [gt_other, pt_length, Nat.reduceEqDiff, not_false_eq_true] using h
   ·exact ⟨hl, g0, g6, g7, g10, g11, g15, g16, rfl⟩
   ·intro k24 x23 y25 s H hk hI hl g21 g20 hy26 hx27;change P_mult_failing_l22 k4 k14 t k24 = some y25 at hy26;unfold P_mult_failing_l22 at hy26;obtain ⟨hl, g0, g6, g7, g10, g11, g15, g16, rfl⟩ := hI;refine AM.wp_seq hp0 (AM.wp_reg hp0 ?_);refine wpo_seg hp0 2 (fun s H' => s.length = 57 ∧ gt s 0 = v_0 ∧ gt s 6 = .int .i64 (k4 : Int) ∧ gt s 7 = .int .i64 (k14 : Int) ∧ gt s 8 = .int .i64 (k24 : Int) ∧ gt s 10 = .int .i64 (t.length : Int) ∧ gt s 11 = .int .i64 (k4 : Int) ∧ gt s 15 = .int .i64 (t.length : Int) ∧ gt s 16 = .int .i64 (k14 : Int) ∧ gt s 20 = .int .i64 (t.length : Int) ∧ gt s 21 = .int .i64 (k24 : Int) ∧ H = H') (by simp only [↓runs, isCall, ↓reduceIte, ↓gd_true, ↓gd_false, evs, AV.cells, Nat.reduceEqDiff, Nat.reduceLT, reduceCtorEq, Nat.reduceAdd, sy, g0, g6, g7, g10, g11, g15, g16, g20, g21, hl]) ?_;rintro s _ ⟨hl, g0, g6, g7, g8, g10, g11, g15, g16, g20, g21, rfl⟩;refine wpo_nil (then_n ?_);refine AM.wp_seq hp0 (AM.wp_reg hp0 ?_);obtain ⟨x31, e32, hy26⟩ := bn hy26;obtain ⟨p33, y34, f35, f36, h37⟩ := fz_at (k := .i64) hst h_0 e32 rfl;obtain ⟨x38, e39, hy26⟩ := bn hy26;obtain ⟨p40, _, f42, f43, rfl⟩ := fz_at (k := .i64) hst h37 e39 rfl;obtain ⟨x45, e46, hy26⟩ := bn hy26;obtain ⟨p47, y48, f49, f50, h51⟩ := fz_at (k := .i64) hst h_0 e46 rfl;obtain ⟨x52, e53, hy26⟩ := bn hy26;obtain ⟨p54, _, f56, f57, rfl⟩ := fz_at (k := .i64) hst h51 e53 rfl;obtain ⟨x59, e60, hy26⟩ := bn hy26;obtain ⟨p61, y62, f63, f64, h65⟩ := fz_at (k := .i64) hst h_0 e60 rfl;obtain ⟨x66, e67, hy26⟩ := bn hy26;obtain ⟨p68, _, f70, f71, rfl⟩ := fz_at (k := .i64) hst h65 e67 rfl;obtain ⟨x73, e74, hy26⟩ := bn hy26;obtain ⟨p75, _, f77, f78, rfl⟩ := fz_at (k := .i64) hst h37 e74 rfl;refine wpo_seg hp0 27 (fun s H' => s.length = 57 ∧ gt s 0 = v_0 ∧ gt s 6 = .int .i64 (k4 : Int) ∧ gt s 7 = .int .i64 (k14 : Int) ∧ gt s 8 = .int .i64 (k24 : Int) ∧ gt s 10 = .int .i64 (t.length : Int) ∧ gt s 11 = .int .i64 (k4 : Int) ∧ gt s 15 = .int .i64 (t.length : Int) ∧ gt s 16 = .int .i64 (k14 : Int) ∧ gt s 20 = .int .i64 (t.length : Int) ∧ gt s 21 = .int .i64 (k24 : Int) ∧ gt s 50 = .bool (!decide (x52 = x73)) ∧ H = H') (by simp (maxSteps := 1000000) only [↓runs, isCall, ↓reduceIte, ↓gd_true, ↓gd_false, evs, AV.cells, Nat.reduceEqDiff, Nat.reduceLT, reduceCtorEq, Nat.reduceAdd, sy, f35, f36, f42, f43, f49, f50, f56, f57, f63, f64, f70, f71, f77, f78, g0, g6, g7, g8, g10, g11, g15, g16, g20, g21, hl]) ?_;rintro s _ ⟨hl, g0, g6, g7, g8, g10, g11, g15, g16, g20, g21, g50, rfl⟩;refine wpo_nil (then_n ?_);rcases Bool.eq_false_or_eq_true (!decide (x52 = x73)) with c80 | c80
    ·replace hy26 := ifT c80 hy26;refine AM.wp_condT (by simp only [ev_t, ev_c, g50, c80]) ?_;refine AM.wp_seq hp0 (AM.wp_reg hp0 ?_);refine wpo_seg hp0 7 (fun s H' => s.length = 57 ∧ gt s 2 = .int .i64 (k4 : Int) ∧ gt s 3 = .int .i64 (k14 : Int) ∧ gt s 4 = .int .i64 (k24 : Int) ∧ gt s 5 = .bool true ∧ H = H') (by simp only [↓runs, isCall, ↓reduceIte, ↓gd_true, ↓gd_false, evs, AV.cells, Nat.reduceEqDiff, Nat.reduceLT, reduceCtorEq, Nat.reduceAdd, sy, g0, g6, g7, g8, g10, g11, g15, g16, g20, g21, g50, hl]) ?_;rintro s _ ⟨hl, g2, g3, g4, g5, rfl⟩;refine wpo_nil (then_n ?_);refine AM.wp_ret ?_;refine rnd_r ?_;refine rnd_r ?_;refine rnd_r ?_;refine then_r ?_;obtain rfl := Option.some.inj hy26;have hx := hx27 _ rfl;subst hx;dsimp only at hy16;obtain rfl := Option.some.inj hy16;have hx := hx17 _ rfl;subst hx;dsimp only at hy6;obtain rfl := Option.some.inj hy6;have hx := hx7 _ rfl;subst hx;dsimp only at hp;obtain rfl := Option.some.inj hp;refine body_ret (vs := [.int .i64 (k4 : Int), .int .i64 (k14 : Int), .int .i64 (k24 : Int), .bool true]) (by simp only [rvs, f_mult_failing, Option.map_some, g2, g3, g4, g5]) ?_;exact ⟨W, .refl _, hst, rfl⟩
    ·replace hy26 := ifF c80 hy26;refine AM.wp_condF (by simp only [ev_t, ev_c, g50, c80]) ?_;refine AM.wp_skip ?_;refine rnd_n ?_;obtain rfl := Option.some.inj hy26;exact ⟨_, rfl, hl, g21, g20, ⟨hl, g0, g6, g7, g10, g11, g15, g16, rfl⟩⟩
   ·rintro x81 s Hn hz hI;replace hI : (fun s H' => s.length = 57 ∧ gt s 0 = v_0 ∧ gt s 6 = .int .i64 (k4 : Int) ∧ gt s 10 = .int .i64 (t.length : Int) ∧ gt s 11 = .int .i64 (k4 : Int) ∧ gt s 15 = .int .i64 (t.length : Int) ∧ gt s 16 = .int .i64 (k14 : Int) ∧ H = H') s Hn := by
     rcases hI with ⟨hI, -⟩ | ⟨_, hI⟩
     ·obtain ⟨hl, g0, g6, g7, g10, g11, g15, g16, e2⟩ := hI;exact ⟨hl, g0, g6, g10, g11, g15, g16, e2⟩
     ·exact hI
    subst hz;dsimp only at hy16 hI;obtain ⟨hl, g0, g6, g10, g11, g15, g16, rfl⟩ := hI;refine rnd_n ?_;obtain rfl := Option.some.inj hy16;exact ⟨_, rfl, hl, g16, g15, ⟨hl, g0, g6, g10, g11, rfl⟩⟩
  ·rintro x83 s Hn hz hI;replace hI : (fun s H' => s.length = 57 ∧ gt s 0 = v_0 ∧ gt s 10 = .int .i64 (t.length : Int) ∧ gt s 11 = .int .i64 (k4 : Int) ∧ H = H') s Hn := by
    rcases hI with ⟨hI, -⟩ | ⟨_, hI⟩
    ·obtain ⟨hl, g0, g6, g10, g11, e2⟩ := hI;exact ⟨hl, g0, g10, g11, e2⟩
    ·exact hI
   subst hz;dsimp only at hy6 hI;obtain ⟨hl, g0, g10, g11, rfl⟩ := hI;refine rnd_n ?_;obtain rfl := Option.some.inj hy6;exact ⟨_, rfl, hl, g11, g10, ⟨hl, g0, rfl⟩⟩
 ·rintro x85 s Hn hz hI;replace hI : (fun s H' => s.length = 57 ∧ H = H') s Hn := by
   rcases hI with ⟨hI, -⟩ | ⟨_, hI⟩
   ·obtain ⟨hl, g0, e2⟩ := hI;exact ⟨hl, e2⟩
   ·exact hI
  subst hz;dsimp only at hp hI;obtain ⟨hl, rfl⟩ := hI;refine then_n ?_;refine AM.wp_seq hp0 (AM.wp_reg hp0 ?_);refine wpo_seg hp0 4 (fun s H' => s.length = 57 ∧ gt s 2 = .int .i64 0 ∧ gt s 3 = .int .i64 0 ∧ gt s 4 = .int .i64 0 ∧ gt s 5 = .bool false ∧ H = H') (by simp only [↓runs, isCall, ↓reduceIte, ↓gd_true, ↓gd_false, evs, AV.cells, Nat.reduceEqDiff, Nat.reduceLT, reduceCtorEq, Nat.reduceAdd, sy, hl]) ?_;rintro s _ ⟨hl, g2, g3, g4, g5, rfl⟩;refine wpo_nil (then_n ?_);refine AM.wp_ret ?_;obtain rfl := Option.some.inj hp;refine body_ret (vs := [.int .i64 0, .int .i64 0, .int .i64 0, .bool false]) (by simp only [rvs, f_mult_failing, Option.map_some, g2, g3, g4, g5]) ?_;exact ⟨W, .refl _, hst, rfl⟩

end Go.Proofs.Ytmdpejgnkoneoaa.Pu
set_option maxRecDepth 100000
set_option maxHeartbeats 4000000
namespace Go.Proofs.Ytmdpejgnkoneoaa.Pu
open Go Go.AM Go.Proofs.Ytmdpejgnkoneoaa.Code

noncomputable def P_mult_shape_l26 (t : List (List Int)) (x15 : List Int) (k28 : Nat) : Option (Lp (Unit) (Int)) :=
 Option.bind (gi x15 (k28 : Int)) fun x35 =>
 Option.bind (
  if decide (x35 < 0) then
   some true
  else
   some (decide ((t.length : Int) ≤ x35))) fun z42 =>
 if z42 then
  some (.ex 4)
 else
  some (.go ())
noncomputable def P_mult_shape_l6 (t : List (List Int)) (k8 : Nat) : Option (Lp (Unit) (Int)) :=
 Option.bind (gi t (k8 : Int)) fun x15 =>
 if !decide ((x15.length : Int) = (t.length : Int)) then
  some (.ex 4)
 else
  Option.bind (forR x15.length (fun k x => P_mult_shape_l26 t x15 k) ()) fun z32 =>
  match z32 with
  | .inl x48 =>
   some (.go ())
  | .inr b => some (.ex b)
noncomputable def P_mult_shape (t : List (List Int)) : Option (Int) :=
 if decide (400 < (t.length : Int)) then
  some 3
 else
  if decide ((t.length : Int) = 0) then
   some 4
  else
   Option.bind (forR t.length (fun k x => P_mult_shape_l6 t k) ()) fun z12 =>
   match z12 with
   | .inl x50 =>
    some 0
   | .inr b => some b
theorem R_mult_shape {G : List Frag} {W H : AH} {v_0 : AV} {t : List (List Int)} (hst : St G W H) (h_0 : Rp.rv W v_0 t) {r : Int} (hp : P_mult_shape t = some r) :
  wpc E0 N_mult_shape [v_0] H fun rv H' => ∃ W', Wle W W' ∧ St G W' H' ∧ rv = .int .i64 r := by
 refine enterN (F := f_mult_shape) rfl (Nat.le_of_ble_eq_true rfl) fun s hl hg => ?_;replace hl : s.length = 42 := hl;have g0 : gt s 0 = v_0 := hg 0 (Nat.le_of_ble_eq_true rfl);clear hg;unfold P_mult_shape at hp;show wp E0 c_mult_shape s H _;unfold c_mult_shape;refine AM.wp_seq hp0 (AM.wp_reg hp0 ?_);refine wpo_seg hp0 1 (fun s H' => s.length = 42 ∧ gt s 0 = v_0 ∧ H = H') (by simp only [↓runs, isCall, ↓reduceIte, ↓gd_true, ↓gd_false, evs, AV.cells, Nat.reduceEqDiff, Nat.reduceLT, reduceCtorEq, Nat.reduceAdd, sy, g0, hl]) ?_;rintro s _ ⟨hl, g0, rfl⟩;refine wpo_nil (then_n ?_);refine AM.wp_seq hp0 ?_;refine AM.wp_block ?_;refine AM.wp_seq hp0 (AM.wp_reg hp0 ?_);have f1 := fz_ln h_0;refine wpo_seg hp0 4 (fun s H' => s.length = 42 ∧ gt s 0 = v_0 ∧ gt s 7 = .bool (decide (400 < (t.length : Int))) ∧ H = H') (by simp only [↓runs, isCall, ↓reduceIte, ↓gd_true, ↓gd_false, evs, AV.cells, Nat.reduceEqDiff, Nat.reduceLT, reduceCtorEq, Nat.reduceAdd, sy, f1, g0, hl]) ?_;rintro s _ ⟨hl, g0, g7, rfl⟩;refine wpo_nil (then_n ?_);rcases Bool.eq_false_or_eq_true (decide (400 < (t.length : Int))) with c2 | c2
 ·replace hp := ifT c2 hp;refine AM.wp_condT (by simp only [ev_t, ev_c, g7, c2]) ?_;refine AM.wp_seq hp0 (AM.wp_reg hp0 ?_);refine wpo_seg hp0 1 (fun s H' => s.length = 42 ∧ gt s 2 = .int .i64 3 ∧ H = H') (by simp only [↓runs, isCall, ↓reduceIte, ↓gd_true, ↓gd_false, evs, AV.cells, Nat.reduceEqDiff, Nat.reduceLT, reduceCtorEq, Nat.reduceAdd, sy, g0, g7, hl]) ?_;rintro s _ ⟨hl, g2, rfl⟩;refine wpo_nil (then_n ?_);refine AM.wp_ret ?_;refine blk_r ?_;refine then_r ?_;obtain rfl := Option.some.inj hp;refine body_ret (vs := [.int .i64 3]) (by simp only [rvs, f_mult_shape, Option.map_some, g2]) ?_;exact ⟨W, .refl _, hst, rfl⟩
 ·replace hp := ifF c2 hp;refine AM.wp_condF (by simp only [ev_t, ev_c, g7, c2]) ?_;refine AM.wp_seq hp0 (AM.wp_reg hp0 ?_);have f3 := fz_ln h_0;refine wpo_seg hp0 4 (fun s H' => s.length = 42 ∧ gt s 0 = v_0 ∧ gt s 11 = .bool (decide ((t.length : Int) = 0)) ∧ H = H') (by simp only [↓runs, isCall, ↓reduceIte, ↓gd_true, ↓gd_false, evs, AV.cells, Nat.reduceEqDiff, Nat.reduceLT, reduceCtorEq, Nat.reduceAdd, sy, f3, g0, g7, hl]) ?_;rintro s _ ⟨hl, g0, g11, rfl⟩;refine wpo_nil (then_n ?_);rcases Bool.eq_false_or_eq_true (decide ((t.length : Int) = 0)) with c4 | c4
  ·replace hp := ifT c4 hp;refine AM.wp_condT (by simp only [ev_t, ev_c, g11, c4]) ?_;refine AM.wp_seq hp0 (AM.wp_reg hp0 ?_);refine wpo_seg hp0 1 (fun s H' => s.length = 42 ∧ gt s 2 = .int .i64 4 ∧ H = H') (by simp only [↓runs, isCall, ↓reduceIte, ↓gd_true, ↓gd_false, evs, AV.cells, Nat.reduceEqDiff, Nat.reduceLT, reduceCtorEq, Nat.reduceAdd, sy, g0, g11, hl]) ?_;rintro s _ ⟨hl, g2, rfl⟩;refine wpo_nil (then_n ?_);refine AM.wp_ret ?_;refine blk_r ?_;refine then_r ?_;obtain rfl := Option.some.inj hp;refine body_ret (vs := [.int .i64 4]) (by simp only [rvs, f_mult_shape, Option.map_some, g2]) ?_;exact ⟨W, .refl _, hst, rfl⟩
  ·replace hp := ifF c4 hp;refine AM.wp_condF (by simp only [ev_t, ev_c, g11, c4]) ?_;refine AM.wp_skip ?_;refine blk_n ?_;refine then_n ?_;refine AM.wp_seq hp0 (AM.wp_seq hp0 (AM.wp_reg hp0 ?_));have f5 := fz_ln h_0;refine wpo_seg hp0 3 (fun s H' => s.length = 42 ∧ gt s 0 = v_0 ∧ gt s 15 = v_0 ∧ gt s 16 = .int .i64 (t.length : Int) ∧ gt s 17 = .int .i64 0 ∧ H = H') (by simp only [↓runs, isCall, ↓reduceIte, ↓gd_true, ↓gd_false, evs, AV.cells, Nat.reduceEqDiff, Nat.reduceLT, reduceCtorEq, Nat.reduceAdd, sy, f5, g0, g11, hl]) ?_;rintro s _ ⟨hl, g0, g15, g16, g17, rfl⟩;refine wpo_nil (then_n ?_);obtain ⟨z12, e13, hp⟩ := bn hp;refine range_ref hp0 42 t.length (fun k x => P_mult_shape_l6 t k) (fun _ x s H' => s.length = 42 ∧ gt s 0 = v_0 ∧ gt s 15 = v_0 ∧ H = H') (fun _ x s H' => s.length = 42 ∧ H = H') e13 (fz_big h_0) rfl ?_ ?_ hl g17 g16 ?_ ?_
   ·intro k x s H d v hd h; rcases hd with rfl | rfl | rfl <;> simpa only [gt_other, pt_length, Nat.reduceEqDiff, not_false_eq_true] using h
   ·exact ⟨hl, g0, g15, rfl⟩
   ·intro k8 x7 y9 s H hk hI hl g17 g16 hy10 hx11;change P_mult_shape_l6 t k8 = some y9 at hy10;unfold P_mult_shape_l6 at hy10;obtain ⟨hl, g0, g15, rfl⟩ := hI;refine AM.wp_seq hp0 (AM.wp_reg hp0 ?_);obtain ⟨x15, e16, hy10⟩ := bn hy10;obtain ⟨p17, y18, f19, f20, h21⟩ := fz_at (k := .i64) hst h_0 e16 rfl;refine wpo_seg hp0 3 (fun s H' => s.length = 42 ∧ gt s 0 = v_0 ∧ gt s 4 = y18 ∧ gt s 15 = v_0 ∧ gt s 16 = .int .i64 (t.length : Int) ∧ gt s 17 = .int .i64 (k8 : Int) ∧ H = H') (by simp only [↓runs, isCall, ↓reduceIte, ↓gd_true, ↓gd_false, evs, AV.cells, Nat.reduceEqDiff, Nat.reduceLT, reduceCtorEq, Nat.reduceAdd, sy, f19, f20, g0, g15, g16, g17, hl]) ?_;rintro s _ ⟨hl, g0, g4, g15, g16, g17, rfl⟩;refine wpo_nil (then_n ?_);refine AM.wp_seq hp0 (AM.wp_seq hp0 (AM.wp_reg hp0 ?_));have f22 := fz_ln h21;have f23 := fz_ln h_0;refine wpo_seg hp0 5 (fun s H' => s.length = 42 ∧ gt s 0 = v_0 ∧ gt s 4 = y18 ∧ gt s 15 = v_0 ∧ gt s 16 = .int .i64 (t.length : Int) ∧ gt s 17 = .int .i64 (k8 : Int) ∧ gt s 25 = .bool (!decide ((x15.length : Int) = (t.length : Int))) ∧ H = H') (by simp only [↓runs, isCall, ↓reduceIte, ↓gd_true, ↓gd_false, evs, AV.cells, Nat.reduceEqDiff, Nat.reduceLT, reduceCtorEq, Nat.reduceAdd, sy, f22, f23, g0, g4, g15, g16, g17, hl]) ?_;rintro s _ ⟨hl, g0, g4, g15, g16, g17, g25, rfl⟩;refine wpo_nil (then_n ?_);rcases Bool.eq_false_or_eq_true (!decide ((x15.length : Int) = (t.length : Int))) with c24 | c24
    ·replace hy10 := ifT c24 hy10;refine AM.wp_condT (by simp only [ev_t, ev_c, g25, c24]) ?_;refine AM.wp_seq hp0 (AM.wp_reg hp0 ?_);refine wpo_seg hp0 1 (fun s H' => s.length = 42 ∧ gt s 2 = .int .i64 4 ∧ H = H') (by simp only [↓runs, isCall, ↓reduceIte, ↓gd_true, ↓gd_false, evs, AV.cells, Nat.reduceEqDiff, Nat.reduceLT, reduceCtorEq, Nat.reduceAdd, sy, g0, g4, g15, g16, g17, g25, hl]) ?_;rintro s _ ⟨hl, g2, rfl⟩;refine wpo_nil (then_n ?_);refine AM.wp_ret ?_;refine then_r ?_;refine rnd_r ?_;refine then_r ?_;obtain rfl := Option.some.inj hy10;have hx := hx11 _ rfl;subst hx;dsimp only at hp;obtain rfl := Option.some.inj hp;refine body_ret (vs := [.int .i64 4]) (by simp only [rvs, f_mult_shape, Option.map_some, g2]) ?_;exact ⟨W, .refl _, hst, rfl⟩
    ·replace hy10 := ifF c24 hy10;refine AM.wp_condF (by simp only [ev_t, ev_c, g25, c24]) ?_;refine AM.wp_skip ?_;refine then_n ?_;refine AM.wp_seq hp0 (AM.wp_reg hp0 ?_);have f25 := fz_ln h21;refine wpo_seg hp0 3 (fun s H' => s.length = 42 ∧ gt s 0 = v_0 ∧ gt s 15 = v_0 ∧ gt s 16 = .int .i64 (t.length : Int) ∧ gt s 17 = .int .i64 (k8 : Int) ∧ gt s 26 = y18 ∧ gt s 27 = .int .i64 (x15.length : Int) ∧ gt s 28 = .int .i64 0 ∧ H = H') (by simp only [↓runs, isCall, ↓reduceIte, ↓gd_true, ↓gd_false, evs, AV.cells, Nat.reduceEqDiff, Nat.reduceLT, reduceCtorEq, Nat.reduceAdd, sy, f25, g0, g4, g15, g16, g17, g25, hl]) ?_;rintro s _ ⟨hl, g0, g15, g16, g17, g26, g27, g28, rfl⟩;refine wpo_nil (then_n ?_);obtain ⟨z32, e33, hy10⟩ := bn hy10;refine range_ref hp0 42 x15.length (fun k x => P_mult_shape_l26 t x15 k) (fun _ x s H' => s.length = 42 ∧ gt s 0 = v_0 ∧ gt s 15 = v_0 ∧ gt s 16 = .int .i64 (t.length : Int) ∧ gt s 17 = .int .i64 (k8 : Int) ∧ gt s 26 = y18 ∧ H = H') (fun _ x s H' => s.length = 42 ∧ gt s 0 = v_0 ∧ gt s 15 = v_0 ∧ gt s 16 = .int .i64 (t.length : Int) ∧ gt s 17 = .int .i64 (k8 : Int) ∧ H = H') e33 (fz_big h21) rfl ?_ ?_ hl g28 g27 ?_ ?_
     ·intro k x s H d v hd h; rcases hd with rfl | rfl | rfl <;> simpa only [gt_other, pt_length, Nat.reduceEqDiff, not_false_eq_true] using h
     ·exact ⟨hl, g0, g15, g16, g17, g26, rfl⟩
     ·intro k28 x27 y29 s H hk hI hl g28 g27 hy30 hx31;change P_mult_shape_l26 t x15 k28 = some y29 at hy30;unfold P_mult_shape_l26 at hy30;obtain ⟨hl, g0, g15, g16, g17, g26, rfl⟩ := hI;refine AM.wp_seq hp0 (AM.wp_reg hp0 ?_);obtain ⟨x35, e36, hy30⟩ := bn hy30;obtain ⟨p37, _, f39, f40, rfl⟩ := fz_at (k := .i64) hst h21 e36 rfl;refine wpo_seg hp0 3 (fun s H' => s.length = 42 ∧ gt s 0 = v_0 ∧ gt s 6 = .int .i64 x35 ∧ gt s 15 = v_0 ∧ gt s 16 = .int .i64 (t.length : Int) ∧ gt s 17 = .int .i64 (k8 : Int) ∧ gt s 26 = y18 ∧ gt s 27 = .int .i64 (x15.length : Int) ∧ gt s 28 = .int .i64 (k28 : Int) ∧ H = H') (by simp only [↓runs, isCall, ↓reduceIte, ↓gd_true, ↓gd_false, evs, AV.cells, Nat.reduceEqDiff, Nat.reduceLT, reduceCtorEq, Nat.reduceAdd, sy, f39, f40, g0, g15, g16, g17, g26, g27, g28, hl]) ?_;rintro s _ ⟨hl, g0, g6, g15, g16, g17, g26, g27, g28, rfl⟩;refine wpo_nil (then_n ?_);refine AM.wp_seq hp0 ?_;obtain ⟨z42, hj43, hy30⟩ := bn hy30;refine AM.wp_regK hp0 (fun s H' => s.length = 42 ∧ gt s 39 = .bool z42 ∧ gt s 0 = v_0 ∧ gt s 15 = v_0 ∧ gt s 16 = .int .i64 (t.length : Int) ∧ gt s 17 = .int .i64 (k8 : Int) ∧ gt s 26 = y18 ∧ gt s 27 = .int .i64 (x15.length : Int) ∧ gt s 28 = .int .i64 (k28 : Int) ∧ H = H') ?_ ?_
      ·rcases Bool.eq_false_or_eq_true (decide (x35 < 0)) with c44 | c44
       ·replace hj43 := ifT c44 hj43;refine wpo_seg hp0 8 (fun s H' => s.length = 42 ∧ gt s 0 = v_0 ∧ gt s 15 = v_0 ∧ gt s 16 = .int .i64 (t.length : Int) ∧ gt s 17 = .int .i64 (k8 : Int) ∧ gt s 26 = y18 ∧ gt s 27 = .int .i64 (x15.length : Int) ∧ gt s 28 = .int .i64 (k28 : Int) ∧ gt s 39 = .bool true ∧ H = H') (by simp only [↓runs, isCall, ↓reduceIte, ↓gd_true, ↓gd_false, evs, AV.cells, Nat.reduceEqDiff, Nat.reduceLT, reduceCtorEq, Nat.reduceAdd, sy, c44, g0, g6, g15, g16, g17, g26, g27, g28, hl]) ?_;rintro s _ ⟨hl, g0, g15, g16, g17, g26, g27, g28, g39, rfl⟩;refine wpo_nil ?_;obtain rfl := Option.some.inj hj43;exact ⟨hl, g39, g0, g15, g16, g17, g26, g27, g28, rfl⟩
       ·replace hj43 := ifF c44 hj43;have f45 := fz_ln h_0;refine wpo_seg hp0 8 (fun s H' => s.length = 42 ∧ gt s 0 = v_0 ∧ gt s 15 = v_0 ∧ gt s 16 = .int .i64 (t.length : Int) ∧ gt s 17 = .int .i64 (k8 : Int) ∧ gt s 26 = y18 ∧ gt s 27 = .int .i64 (x15.length : Int) ∧ gt s 28 = .int .i64 (k28 : Int) ∧ gt s 39 = .bool (decide ((t.length : Int) ≤ x35)) ∧ H = H') (by simp only [↓runs, isCall, ↓reduceIte, ↓gd_true, ↓gd_false, evs, AV.cells, Nat.reduceEqDiff, Nat.reduceLT, reduceCtorEq, Nat.reduceAdd, sy, c44, f45, g0, g6, g15, g16, g17, g26, g27, g28, hl]) ?_;rintro s _ ⟨hl, g0, g15, g16, g17, g26, g27, g28, g39, rfl⟩;refine wpo_nil ?_;obtain rfl := Option.some.inj hj43;exact ⟨hl, g39, g0, g15, g16, g17, g26, g27, g28, rfl⟩
      ·rintro s _ ⟨hl, g39, g0, g15, g16, g17, g26, g27, g28, rfl⟩;refine then_n ?_;rcases Bool.eq_false_or_eq_true (z42) with c47 | c47
       ·replace hy30 := ifT c47 hy30;refine AM.wp_condT (by simp only [ev_t, ev_c, g39, c47]) ?_;refine AM.wp_seq hp0 (AM.wp_reg hp0 ?_);refine wpo_seg hp0 1 (fun s H' => s.length = 42 ∧ gt s 2 = .int .i64 4 ∧ H = H') (by simp only [↓runs, isCall, ↓reduceIte, ↓gd_true, ↓gd_false, evs, AV.cells, Nat.reduceEqDiff, Nat.reduceLT, reduceCtorEq, Nat.reduceAdd, sy, g0, g15, g16, g17, g26, g27, g28, g39, hl]) ?_;rintro s _ ⟨hl, g2, rfl⟩;refine wpo_nil (then_n ?_);refine AM.wp_ret ?_;refine rnd_r ?_;refine rnd_r ?_;refine then_r ?_;obtain rfl := Option.some.inj hy30;have hx := hx31 _ rfl;subst hx;dsimp only at hy10;obtain rfl := Option.some.inj hy10;have hx := hx11 _ rfl;subst hx;dsimp only at hp;obtain rfl := Option.some.inj hp;refine body_ret (vs := [.int .i64 4]) (by simp only [rvs, f_mult_shape, Option.map_some, g2]) ?_;exact ⟨W, .refl _, hst, rfl⟩
       ·replace hy30 := ifF c47 hy30;refine AM.wp_condF (by simp only [ev_t, ev_c, g39, c47]) ?_;refine AM.wp_skip ?_;refine rnd_n ?_;obtain rfl := Option.some.inj hy30;exact ⟨_, rfl, hl, g28, g27, ⟨hl, g0, g15, g16, g17, g26, rfl⟩⟩
     ·rintro x48 s Hn hz hI;replace hI : (fun s H' => s.length = 42 ∧ gt s 0 = v_0 ∧ gt s 15 = v_0 ∧ gt s 16 = .int .i64 (t.length : Int) ∧ gt s 17 = .int .i64 (k8 : Int) ∧ H = H') s Hn := by
       rcases hI with ⟨hI, -⟩ | ⟨_, hI⟩
       ·obtain ⟨hl, g0, g15, g16, g17, g26, e2⟩ := hI;exact ⟨hl, g0, g15, g16, g17, e2⟩
       ·exact hI
      subst hz;dsimp only at hy10 hI;obtain ⟨hl, g0, g15, g16, g17, rfl⟩ := hI;refine rnd_n ?_;obtain rfl := Option.some.inj hy10;exact ⟨_, rfl, hl, g17, g16, ⟨hl, g0, g15, rfl⟩⟩
   ·rintro x50 s Hn hz hI;replace hI : (fun s H' => s.length = 42 ∧ H = H') s Hn := by
     rcases hI with ⟨hI, -⟩ | ⟨_, hI⟩
     ·obtain ⟨hl, g0, g15, e2⟩ := hI;exact ⟨hl, e2⟩
     ·exact hI
    subst hz;dsimp only at hp hI;obtain ⟨hl, rfl⟩ := hI;refine then_n ?_;refine AM.wp_seq hp0 (AM.wp_reg hp0 ?_);refine wpo_seg hp0 1 (fun s H' => s.length = 42 ∧ gt s 2 = .int .i64 0 ∧ H = H') (by simp only [↓runs, isCall, ↓reduceIte, ↓gd_true, ↓gd_false, evs, AV.cells, Nat.reduceEqDiff, Nat.reduceLT, reduceCtorEq, Nat.reduceAdd, sy, hl]) ?_;rintro s _ ⟨hl, g2, rfl⟩;refine wpo_nil (then_n ?_);refine AM.wp_ret ?_;obtain rfl := Option.some.inj hp;refine body_ret (vs := [.int .i64 0]) (by simp only [rvs, f_mult_shape, Option.map_some, g2]) ?_;exact ⟨W, .refl _, hst, rfl⟩

end Go.Proofs.Ytmdpejgnkoneoaa.Pu
set_option maxRecDepth 100000
set_option maxHeartbeats 4000000
namespace Go.Proofs.Ytmdpejgnkoneoaa.Pu
open Go Go.AM Go.Proofs.Ytmdpejgnkoneoaa.Code

noncomputable def P_mult_Validate (t : List (List Int)) : Option (Int) :=
 Option.bind (P_mult_shape t) fun r1 =>
 if !decide (r1 = 0) then
  some r1
 else
  Option.bind (P_mult_failing t) fun r6 =>
  if r6.2.2.2 then
   some 5
  else
   some 0
theorem R_mult_Validate {G : List Frag} {W H : AH} {v_0 : AV} {t : List (List Int)} (hst : St G W H) (h_0 : Rp.rv W v_0 t) {r : Int} (hp : P_mult_Validate t = some r) :
  wpc E0 N_mult_Validate [v_0] H fun rv H' => ∃ W', Wle W W' ∧ St G W' H' ∧ rv = .int .i64 r := by
 refine enterN (F := f_mult_Validate) rfl (Nat.le_of_ble_eq_true rfl) fun s hl hg => ?_;replace hl : s.length = 21 := hl;have g0 : gt s 0 = v_0 := hg 0 (Nat.le_of_ble_eq_true rfl);clear hg;unfold P_mult_Validate at hp;show wp E0 c_mult_Validate s H _;unfold c_mult_Validate;refine AM.wp_seq hp0 (AM.wp_reg hp0 ?_);refine wpo_seg hp0 1 (fun s H' => s.length = 21 ∧ gt s 0 = v_0 ∧ H = H') (by simp only [↓runs, isCall, ↓reduceIte, ↓gd_true, ↓gd_false, evs, AV.cells, Nat.reduceEqDiff, Nat.reduceLT, reduceCtorEq, Nat.reduceAdd, sy, g0, hl]) ?_;rintro s _ ⟨hl, g0, rfl⟩;refine wpo_nil (then_n ?_);refine AM.wp_seq hp0 (AM.wp_seq hp0 (AM.wp_reg hp0 ?_));refine wpo_seg hp0 1 (fun s H' => s.length = 21 ∧ gt s 0 = v_0 ∧ gt s 8 = v_0 ∧ H = H') (by simp only [↓runs, isCall, ↓reduceIte, ↓gd_true, ↓gd_false, evs, AV.cells, Nat.reduceEqDiff, Nat.reduceLT, reduceCtorEq, Nat.reduceAdd, sy, g0, hl]) ?_;rintro s _ ⟨hl, g0, g8, rfl⟩;obtain ⟨r1, e2, hp⟩ := bn hp;refine wpo_callK hp0 rfl (ys := [v_0]) (by simp only [evs, List.map_cons, List.map_nil, ev_t, ev_c, g8]) (R_mult_shape hst h_0 e2) ?_;rintro rv3 H ⟨W, w4, hst, rfl⟩;replace h_0 := Rp.mono w4 h_0;refine wpo_seg hp0 1 (fun s H' => s.length = 21 ∧ gt s 0 = v_0 ∧ gt s 3 = .int .i64 r1 ∧ H = H') (by simp only [↓runs, isCall, ↓reduceIte, ↓gd_true, ↓gd_false, evs, AV.cells, Nat.reduceEqDiff, Nat.reduceLT, reduceCtorEq, Nat.reduceAdd, sy, gt_other, g0, g8, hl]) ?_;rintro s _ ⟨hl, g0, g3, rfl⟩;refine wpo_nil (then_n ?_);refine AM.wp_seq hp0 (AM.wp_reg hp0 ?_);refine wpo_seg hp0 2 (fun s H' => s.length = 21 ∧ gt s 0 = v_0 ∧ gt s 3 = .int .i64 r1 ∧ gt s 11 = .bool (!decide (r1 = 0)) ∧ H = H') (by simp only [↓runs, isCall, ↓reduceIte, ↓gd_true, ↓gd_false, evs, AV.cells, Nat.reduceEqDiff, Nat.reduceLT, reduceCtorEq, Nat.reduceAdd, sy, g0, g3, hl]) ?_;rintro s _ ⟨hl, g0, g3, g11, rfl⟩;refine wpo_nil (then_n ?_);rcases Bool.eq_false_or_eq_true (!decide (r1 = 0)) with c5 | c5
 ·replace hp := ifT c5 hp;refine AM.wp_condT (by simp only [ev_t, ev_c, g11, c5]) ?_;refine AM.wp_seq hp0 (AM.wp_reg hp0 ?_);refine wpo_seg hp0 2 (fun s H' => s.length = 21 ∧ gt s 2 = .int .i64 r1 ∧ H = H') (by simp only [↓runs, isCall, ↓reduceIte, ↓gd_true, ↓gd_false, evs, AV.cells, Nat.reduceEqDiff, Nat.reduceLT, reduceCtorEq, Nat.reduceAdd, sy, g0, g3, g11, hl]) ?_;rintro s _ ⟨hl, g2, rfl⟩;refine wpo_nil (then_n ?_);refine AM.wp_ret ?_;refine then_r ?_;obtain rfl := Option.some.inj hp;refine body_ret (vs := [.int .i64 r1]) (by simp only [rvs, f_mult_Validate, Option.map_some, g2]) ?_;exact ⟨W, w4, hst, rfl⟩
 ·replace hp := ifF c5 hp;refine AM.wp_condF (by simp only [ev_t, ev_c, g11, c5]) ?_;refine AM.wp_skip ?_;refine then_n ?_;refine AM.wp_seq hp0 (AM.wp_seq hp0 (AM.wp_reg hp0 ?_));refine wpo_seg hp0 1 (fun s H' => s.length = 21 ∧ gt s 14 = v_0 ∧ H = H') (by simp only [↓runs, isCall, ↓reduceIte, ↓gd_true, ↓gd_false, evs, AV.cells, Nat.reduceEqDiff, Nat.reduceLT, reduceCtorEq, Nat.reduceAdd, sy, g0, g3, g11, hl]) ?_;rintro s _ ⟨hl, g14, rfl⟩;obtain ⟨r6, e7, hp⟩ := bn hp;refine wpo_callK hp0 rfl (ys := [v_0]) (by simp only [evs, List.map_cons, List.map_nil, ev_t, ev_c, g14]) (R_mult_failing hst h_0 e7) ?_;rintro rv8 H ⟨W, w9, hst, rfl⟩;replace h_0 := Rp.mono w9 h_0;refine wpo_seg hp0 9 (fun s H' => s.length = 21 ∧ gt s 7 = .bool r6.2.2.2 ∧ H = H') (by simp only [↓runs, isCall, ↓reduceIte, ↓gd_true, ↓gd_false, evs, AV.cells, Nat.reduceEqDiff, Nat.reduceLT, reduceCtorEq, Nat.reduceAdd, sy, gt_other, g14, hl]) ?_;rintro s _ ⟨hl, g7, rfl⟩;refine wpo_nil (then_n ?_);refine AM.wp_seq hp0 (AM.wp_reg hp0 ?_);refine wpo_seg hp0 1 (fun s H' => s.length = 21 ∧ gt s 20 = .bool r6.2.2.2 ∧ H = H') (by simp only [↓runs, isCall, ↓reduceIte, ↓gd_true, ↓gd_false, evs, AV.cells, Nat.reduceEqDiff, Nat.reduceLT, reduceCtorEq, Nat.reduceAdd, sy, g7, hl]) ?_;rintro s _ ⟨hl, g20, rfl⟩;refine wpo_nil (then_n ?_);rcases Bool.eq_false_or_eq_true (r6.2.2.2) with c10 | c10
  ·replace hp := ifT c10 hp;refine AM.wp_condT (by simp only [ev_t, ev_c, g20, c10]) ?_;refine AM.wp_seq hp0 (AM.wp_reg hp0 ?_);refine wpo_seg hp0 1 (fun s H' => s.length = 21 ∧ gt s 2 = .int .i64 5 ∧ H = H') (by simp only [↓runs, isCall, ↓reduceIte, ↓gd_true, ↓gd_false, evs, AV.cells, Nat.reduceEqDiff, Nat.reduceLT, reduceCtorEq, Nat.reduceAdd, sy, g20, hl]) ?_;rintro s _ ⟨hl, g2, rfl⟩;refine wpo_nil (then_n ?_);refine AM.wp_ret ?_;refine then_r ?_;obtain rfl := Option.some.inj hp;refine body_ret (vs := [.int .i64 5]) (by simp only [rvs, f_mult_Validate, Option.map_some, g2]) ?_;exact ⟨W, (w4.trans w9), hst, rfl⟩
  ·replace hp := ifF c10 hp;refine AM.wp_condF (by simp only [ev_t, ev_c, g20, c10]) ?_;refine AM.wp_skip ?_;refine then_n ?_;refine AM.wp_seq hp0 (AM.wp_reg hp0 ?_);refine wpo_seg hp0 1 (fun s H' => s.length = 21 ∧ gt s 2 = .int .i64 0 ∧ H = H') (by simp only [↓runs, isCall, ↓reduceIte, ↓gd_true, ↓gd_false, evs, AV.cells, Nat.reduceEqDiff, Nat.reduceLT, reduceCtorEq, Nat.reduceAdd, sy, g20, hl]) ?_;rintro s _ ⟨hl, g2, rfl⟩;refine wpo_nil (then_n ?_);refine AM.wp_ret ?_;obtain rfl := Option.some.inj hp;refine body_ret (vs := [.int .i64 0]) (by simp only [rvs, f_mult_Validate, Option.map_some, g2]) ?_;exact ⟨W, (w4.trans w9), hst, rfl⟩

end Go.Proofs.Ytmdpejgnkoneoaa.Pu
namespace Go.Proofs.Ytmdpejgnkoneoaa.Mt
open Go Go.AM Go.AM.Par Go.Proofs.Ytmdpejgnkoneoaa.Pu

def natT (t : List (List Int)) (i j : Nat) : Nat := ((t.getD i []).getD j 0).toNat
def RowOk (n : Nat) (r : List Int) : Prop := r.length = n ∧ ∀ j, j < n → 0 ≤ r.getD j 0 ∧ r.getD j 0 < n
def Sq (t : List (List Int)) : Prop := ∀ i, i < t.length → RowOk t.length (t.getD i [])
open Classical in
noncomputable def shapeM (t : List (List Int)) : Int := if 400 < t.length then 3 else if t.length = 0 then 4 else if Sq t then 0 else 4

open Classical in
theorem row_look (n : Nat) (r : List Int) (f : Nat → Unit → Option (Lp Unit Int)) (hl : r.length = n)
    (hf : ∀ k, k < n → f k () = Option.bind (if decide (r.getD k 0 < 0) then some true else some (decide ((n : Int) ≤ r.getD k 0))) fun z => if z then some (.ex 4) else some (.go ())) :
    forR r.length f () = some (if RowOk n r then .inl () else .inr 4) := by
  rw [look_const (ok := fun k => 0 ≤ r.getD k 0 ∧ r.getD k 0 < n) (b := 4) fun k hk => by
    rw [hf k (by omega)]
    by_cases h1 : r.getD k 0 < 0
    · have : ¬ (0 ≤ r.getD k 0 ∧ r.getD k 0 < n) := by omega
      simp only [h1, this, Option.bind_some, Option.bind_none, decide_true, decide_false, Bool.not_true, Bool.not_false, Bool.true_and, Bool.and_true, Bool.false_eq_true, if_true, if_false, not_true_eq_false, not_false_eq_true, ite_true, ite_false, Bool.not_eq_true, decide_eq_true_eq, decide_eq_false_iff_not, Bool.not_eq_true', Bool.not_eq_false', Option.getD_some, Option.getD_none, Option.isSome_some, Option.isSome_none, Option.isNone_some, Option.isNone_none, eq_self, forall_const, true_implies, false_implies, implies_true]
    · by_cases h2 : (n : Int) ≤ r.getD k 0
      · have : ¬ (0 ≤ r.getD k 0 ∧ r.getD k 0 < n) := by omega
        simp only [h1, h2, this, Option.bind_some, Option.bind_none, decide_true, decide_false, Bool.not_true, Bool.not_false, Bool.true_and, Bool.and_true, Bool.false_eq_true, if_true, if_false, not_true_eq_false, not_false_eq_true, ite_true, ite_false, Bool.not_eq_true, decide_eq_true_eq, decide_eq_false_iff_not, Bool.not_eq_true', Bool.not_eq_false', Option.getD_some, Option.getD_none, Option.isSome_some, Option.isSome_none, Option.isNone_some, Option.isNone_none, eq_self, forall_const, true_implies, false_implies, implies_true]
      · have : (0 ≤ r.getD k 0 ∧ r.getD k 0 < n) := by omega
        simp only [h1, h2, Option.bind_some, Option.bind_none, decide_true, decide_false, Bool.not_true, Bool.not_false, Bool.true_and, Bool.and_true, Bool.false_eq_true, if_true, if_false, not_true_eq_false, not_false_eq_true, ite_true, ite_false, Bool.not_eq_true, decide_eq_true_eq, decide_eq_false_iff_not, Bool.not_eq_true', Bool.not_eq_false', Option.getD_some, Option.getD_none, Option.isSome_some, Option.isSome_none, Option.isNone_some, Option.isNone_none, eq_self, forall_const, true_implies, false_implies, implies_true]
        rw [if_pos this]]
  rw [hl]
  by_cases h : RowOk n r
  · rw [if_pos h, if_pos h.2]
  · rw [if_neg h, if_neg fun h2 => h ⟨hl, h2⟩]

open Classical in
theorem ref_shape (t : List (List Int)) : P_semigroupref14_Shape t = some (shapeM t) := by
  unfold P_semigroupref14_Shape shapeM
  by_cases h1 : 400 < t.length
  · rw [if_pos (by simp only [decide_eq_true_eq]; omega), if_pos h1]
  · rw [if_neg (by simp only [decide_eq_true_eq]; omega), if_neg h1]
    by_cases h2 : t.length = 0
    · rw [if_pos (by simp only [decide_eq_true_eq]; omega), if_pos h2]
    · rw [if_neg (by simp only [decide_eq_true_eq]; omega), if_neg h2]
      rw [look_const (ok := fun i => RowOk t.length (t.getD i [])) (b := 4) fun k hk => by
        unfold P_semigroupref14_Shape_l6
        rw [gi_lt [] hk]
        simp only [Option.bind_some]
        by_cases h3 : (t.getD k []).length = t.length
        · rw [if_neg (by simp only [h3]; simp), row_look t.length _ _ h3 fun j hj => by
            unfold P_semigroupref14_Shape_l26
            rw [gi_lt (k := j) 0 (by rw [h3]; exact hj)]; rfl]
          by_cases h4 : RowOk t.length (t.getD k [])
          · rw [if_pos h4, if_pos h4]; rfl
          · rw [if_neg h4, if_neg h4]; rfl
        · rw [if_pos (by simp only [Bool.not_eq_true', decide_eq_false_iff_not]; omega), if_neg fun h => h3 h.1]]
      by_cases h : Sq t
      · have h' : ∀ k, k < t.length → RowOk t.length (t.getD k []) := h
        rw [if_pos h', if_pos h]; rfl
      · have h' : ¬ ∀ k, k < t.length → RowOk t.length (t.getD k []) := h
        rw [if_neg h', if_neg h]; rfl
open Classical in
theorem shape (t : List (List Int)) : P_mult_shape t = some (shapeM t) := by
  unfold P_mult_shape shapeM
  by_cases h1 : 400 < t.length
  · rw [if_pos (by simp only [decide_eq_true_eq]; omega), if_pos h1]
  · rw [if_neg (by simp only [decide_eq_true_eq]; omega), if_neg h1]
    by_cases h2 : t.length = 0
    · rw [if_pos (by simp only [decide_eq_true_eq]; omega), if_pos h2]
    · rw [if_neg (by simp only [decide_eq_true_eq]; omega), if_neg h2]
      rw [look_const (ok := fun i => RowOk t.length (t.getD i [])) (b := 4) fun k hk => by
        unfold P_mult_shape_l6
        rw [gi_lt [] hk]
        simp only [Option.bind_some]
        by_cases h3 : (t.getD k []).length = t.length
        · rw [if_neg (by simp only [h3]; simp), row_look t.length _ _ h3 fun j hj => by
            unfold P_mult_shape_l26
            rw [gi_lt (k := j) 0 (by rw [h3]; exact hj)]; rfl]
          by_cases h4 : RowOk t.length (t.getD k [])
          · rw [if_pos h4, if_pos h4]; rfl
          · rw [if_neg h4, if_neg h4]; rfl
        · rw [if_pos (by simp only [Bool.not_eq_true', decide_eq_false_iff_not]; omega), if_neg fun h => h3 h.1]]
      by_cases h : Sq t
      · have h' : ∀ k, k < t.length → RowOk t.length (t.getD k []) := h
        rw [if_pos h', if_pos h]; rfl
      · have h' : ¬ ∀ k, k < t.length → RowOk t.length (t.getD k []) := h
        rw [if_neg h', if_neg h]; rfl

structure Tab (t : List (List Int)) (n : Nat) (T : Nat → Nat → Nat) : Prop where
  len : t.length = n
  pos : 0 < n
  le : n ≤ 400
  row : ∀ x, x < n → (t.getD x []).length = n
  at_ : ∀ x y, x < n → y < n → (t.getD x []).getD y 0 = (T x y : Int)
  lt : ∀ x y, x < n → y < n → T x y < n
theorem shape_tab {t : List (List Int)} : shapeM t = 0 ↔ Tab t t.length (natT t) := by
  unfold shapeM
  constructor
  · intro h
    split at h
    · omega
    · split at h
      · omega
      · split at h
        · rename_i h1 h2 h3
          refine ⟨rfl, by omega, by omega, fun x hx => (h3 x hx).1, fun x y hx hy => ?_, fun x y hx hy => ?_⟩
          · unfold natT; rw [Int.toNat_of_nonneg ((h3 x hx).2 y hy).1]
          · have := (h3 x hx).2 y hy; unfold natT; omega
        · omega
  · intro h
    have h1 := h.pos; have h2 := h.le
    rw [if_neg (by omega), if_neg (by omega), if_pos]
    exact fun x hx => ⟨h.row x hx, fun y hy => by have := h.lt x y hx hy; rw [h.at_ x y hx hy]; omega⟩
def Assoc (n : Nat) (T : Nat → Nat → Nat) : Prop := ∀ x y z, x < n → y < n → z < n → T (T x y) z = T x (T y z)
theorem Tab.gi1 {t : List (List Int)} {n : Nat} {T : Nat → Nat → Nat} (h : Tab t n T) {x : Nat} (hx : x < n) : gi t (x : Int) = some (t.getD x []) := gi_lt [] (by rw [h.len]; exact hx)
theorem Tab.gi2 {t : List (List Int)} {n : Nat} {T : Nat → Nat → Nat} (h : Tab t n T) {x y : Nat} (hx : x < n) (hy : y < n) : gi (t.getD x []) (y : Int) = some (T x y : Int) := by
  rw [gi_lt 0 (by rw [h.row x hx]; exact hy), h.at_ x y hx hy]
open Classical in
noncomputable def validM (t : List (List Int)) : Int := if shapeM t = 0 then (if Assoc t.length (natT t) then 0 else 5) else shapeM t

open Classical in
theorem failing {t : List (List Int)} {n : Nat} {T : Nat → Nat → Nat} (h : Tab t n T) : ∃ x y z, P_mult_failing t = some (x, y, z, !decide (Assoc n T)) := by
  unfold P_mult_failing
  have h3 : ∀ x y z, x < n → y < n → z < n → P_mult_failing_l22 x y t z = some (if T (T x y) z = T x (T y z) then .go () else .ex ((x : Int), (y : Int), (z : Int), true)) := fun x y z hx hy hz => by
    unfold P_mult_failing_l22
    have l1 := h.lt x y hx hy; have l2 := h.lt y z hy hz
    rw [h.gi1 hx]; simp only [Option.bind_some]
    rw [h.gi2 hx hy]; simp only [Option.bind_some]
    rw [h.gi1 l1]; simp only [Option.bind_some]
    rw [h.gi2 l1 hz]; simp only [Option.bind_some]
    rw [h.gi1 hy]; simp only [Option.bind_some]
    rw [h.gi2 hy hz]; simp only [Option.bind_some]
    rw [h.gi2 hx l2]; simp only [Option.bind_some]
    by_cases e : T (T x y) z = T x (T y z)
    · rw [if_pos e, if_neg (by simp only [Bool.not_eq_true', decide_eq_false_iff_not]; omega)]
    · rw [if_neg e, if_pos (by simp only [Bool.not_eq_true', decide_eq_false_iff_not]; omega)]
  have h2 : ∀ x y, x < n → y < n → (P_mult_failing_l12 x t y = some (.go ()) ∧ ∀ z, z < n → T (T x y) z = T x (T y z)) ∨ ∃ z, z < n ∧ T (T x y) z ≠ T x (T y z) ∧ P_mult_failing_l12 x t y = some (.ex ((x : Int), (y : Int), (z : Int), true)) := fun x y hx hy => by
    unfold P_mult_failing_l12
    rcases look_loop (n := t.length) (f := fun k x_1 => P_mult_failing_l22 x y t k) (ok := fun z => T (T x y) z = T x (T y z)) (e := fun z => ((x : Int), (y : Int), (z : Int), true)) (fun k hk => h3 x y k hx hy (by rw [← h.len]; exact hk)) with ⟨a, b⟩ | ⟨z, a, b, c⟩
    · exact .inl ⟨by rw [b]; rfl, by rw [h.len] at a; exact a⟩
    · exact .inr ⟨z, by rw [← h.len]; exact a, b, by rw [c]; rfl⟩
  have h1 : ∀ x, x < n → (P_mult_failing_l2 t x = some (.go ()) ∧ ∀ y z, y < n → z < n → T (T x y) z = T x (T y z)) ∨ ∃ q : Int × Int × Int, (∃ y z, y < n ∧ z < n ∧ T (T x y) z ≠ T x (T y z)) ∧ P_mult_failing_l2 t x = some (.ex (q.1, q.2.1, q.2.2, true)) := fun x hx => by
    unfold P_mult_failing_l2
    obtain ⟨y, hy, hQ⟩ := forR_inv (n := t.length) (f := fun k x_1 => P_mult_failing_l12 x t k) (x := ()) (fun k _ => ∀ y z, y < k → y < n → z < n → T (T x y) z = T x (T y z))
      (fun o => (o = .inl () ∧ ∀ y z, y < n → z < n → T (T x y) z = T x (T y z)) ∨ ∃ q : Int × Int × Int, (∃ y z, y < n ∧ z < n ∧ T (T x y) z ≠ T x (T y z)) ∧ o = .inr (q.1, q.2.1, q.2.2, true)) (fun y z hy => by omega)
      (fun k _ hk hP => by
        have hk' : k < n := by rw [← h.len]; exact hk
        rcases h2 x k hx hk' with ⟨a, b⟩ | ⟨z, a, b, c⟩
        · refine .inl ⟨(), a, fun y z hy hy2 hz => ?_⟩
          rcases Nat.lt_or_ge y k with h5 | h5
          · exact hP y z h5 hy2 hz
          · have : y = k := by omega
            subst this; exact b z hz
        · exact .inr (.inr ⟨_, c, .inr ⟨((x : Int), (k : Int), (z : Int)), ⟨k, z, hk', a, b⟩, rfl⟩⟩))
      (fun _ hP => .inl ⟨rfl, fun y z hy hz => hP y z (by rw [h.len]; exact hy) hy hz⟩)
    rw [hy]
    rcases hQ with ⟨rfl, a⟩ | ⟨q, a, rfl⟩
    · exact .inl ⟨rfl, a⟩
    · exact .inr ⟨q, a, rfl⟩
  obtain ⟨y, hy, hQ⟩ := forR_inv (n := t.length) (f := fun k x_1 => P_mult_failing_l2 t k) (x := ()) (fun k _ => ∀ x y z, x < k → x < n → y < n → z < n → T (T x y) z = T x (T y z))
    (fun o => (o = .inl () ∧ Assoc n T) ∨ ∃ q : Int × Int × Int, ¬ Assoc n T ∧ o = .inr (q.1, q.2.1, q.2.2, true)) (fun x y z hx => by omega)
    (fun k _ hk hP => by
      have hk' : k < n := by rw [← h.len]; exact hk
      rcases h1 k hk' with ⟨a, b⟩ | ⟨q, ⟨y, z, a, b, c⟩, d⟩
      · refine .inl ⟨(), a, fun x y z hx hx2 hy hz => ?_⟩
        rcases Nat.lt_or_ge x k with h5 | h5
        · exact hP x y z h5 hx2 hy hz
        · have : x = k := by omega
          subst this; exact b y z hy hz
      · exact .inr (.inr ⟨_, d, .inr ⟨q, fun hA => c (hA k y z hk' a b), rfl⟩⟩))
    (fun _ hP => .inl ⟨rfl, fun x y z hx hy hz => hP x y z (by rw [h.len]; exact hx) hx hy hz⟩)
  rw [hy]
  rcases hQ with ⟨rfl, a⟩ | ⟨q, a, rfl⟩
  · exact ⟨0, 0, 0, by rw [decide_eq_true a]; rfl⟩
  · exact ⟨q.1, q.2.1, q.2.2, by rw [decide_eq_false a]; rfl⟩

open Classical in
theorem validate (t : List (List Int)) : P_mult_Validate t = some (validM t) := by
  unfold P_mult_Validate validM
  rw [shape]
  simp only [Option.bind_some]
  by_cases h : shapeM t = 0
  · rw [if_neg (by simp [h]), if_pos h]
    obtain ⟨x, y, z, e⟩ := failing (shape_tab.1 h)
    rw [e]
    simp only [Option.bind_some]
    by_cases hA : Assoc t.length (natT t)
    · rw [decide_eq_true hA, if_pos hA]; rfl
    · rw [decide_eq_false hA, if_neg hA]; rfl
  · rw [if_pos (by simp [h]), if_neg h]

open Classical in
theorem ref_associative (t : List (List Int)) : ∃ x y z, P_semigroupref14_Associative t = some (x, y, z, validM t) := by
  unfold P_semigroupref14_Associative validM
  rw [ref_shape]
  simp only [Option.bind_some]
  by_cases hs : shapeM t = 0
  · rw [if_neg (by simp [hs]), if_pos hs]
    have h := shape_tab.1 hs
    generalize natT t = T at h ⊢
    have hn : t.length = t.length := rfl
    generalize hN : t.length = n at h ⊢
    have h3 : ∀ x y z, x < n → y < n → z < n → P_semigroupref14_Associative_l27 x y t z = some (if T (T x y) z = T x (T y z) then .go () else .ex ((x : Int), (y : Int), (z : Int), 5)) := fun x y z hx hy hz => by
      unfold P_semigroupref14_Associative_l27
      have l1 := h.lt x y hx hy; have l2 := h.lt y z hy hz
      rw [h.gi1 hx]; simp only [Option.bind_some]
      rw [h.gi2 hx hy]; simp only [Option.bind_some]
      rw [h.gi1 l1]; simp only [Option.bind_some]
      rw [h.gi2 l1 hz]; simp only [Option.bind_some]
      rw [h.gi1 hy]; simp only [Option.bind_some]
      rw [h.gi2 hy hz]; simp only [Option.bind_some]
      rw [h.gi2 hx l2]; simp only [Option.bind_some]
      by_cases e : T (T x y) z = T x (T y z)
      · rw [if_pos e, if_neg (by simp only [Bool.not_eq_true', decide_eq_false_iff_not]; omega)]
      · rw [if_neg e, if_pos (by simp only [Bool.not_eq_true', decide_eq_false_iff_not]; omega)]
    have h2 : ∀ x y, x < n → y < n → (P_semigroupref14_Associative_l17 x t y = some (.go ()) ∧ ∀ z, z < n → T (T x y) z = T x (T y z)) ∨ ∃ z, z < n ∧ T (T x y) z ≠ T x (T y z) ∧ P_semigroupref14_Associative_l17 x t y = some (.ex ((x : Int), (y : Int), (z : Int), 5)) := fun x y hx hy => by
      unfold P_semigroupref14_Associative_l17
      rcases look_loop (n := t.length) (f := fun k x_1 => P_semigroupref14_Associative_l27 x y t k) (ok := fun z => T (T x y) z = T x (T y z)) (e := fun z => ((x : Int), (y : Int), (z : Int), (5 : Int))) (fun k hk => h3 x y k hx hy (by rw [← h.len]; exact hk)) with ⟨a, b⟩ | ⟨z, a, b, c⟩
      · exact .inl ⟨by rw [b]; rfl, by rw [h.len] at a; exact a⟩
      · exact .inr ⟨z, by rw [← h.len]; exact a, b, by rw [c]; rfl⟩
    have h1 : ∀ x, x < n → (P_semigroupref14_Associative_l7 t x = some (.go ()) ∧ ∀ y z, y < n → z < n → T (T x y) z = T x (T y z)) ∨ ∃ q : Int × Int × Int, (∃ y z, y < n ∧ z < n ∧ T (T x y) z ≠ T x (T y z)) ∧ P_semigroupref14_Associative_l7 t x = some (.ex (q.1, q.2.1, q.2.2, 5)) := fun x hx => by
      unfold P_semigroupref14_Associative_l7
      obtain ⟨y, hy, hQ⟩ := forR_inv (n := t.length) (f := fun k x_1 => P_semigroupref14_Associative_l17 x t k) (x := ()) (fun k _ => ∀ y z, y < k → y < n → z < n → T (T x y) z = T x (T y z))
        (fun o => (o = .inl () ∧ ∀ y z, y < n → z < n → T (T x y) z = T x (T y z)) ∨ ∃ q : Int × Int × Int, (∃ y z, y < n ∧ z < n ∧ T (T x y) z ≠ T x (T y z)) ∧ o = .inr (q.1, q.2.1, q.2.2, 5)) (fun y z hy => by omega)
        (fun k _ hk hP => by
          have hk' : k < n := by rw [← h.len]; exact hk
          rcases h2 x k hx hk' with ⟨a, b⟩ | ⟨z, a, b, c⟩
          · refine .inl ⟨(), a, fun y z hy hy2 hz => ?_⟩
            rcases Nat.lt_or_ge y k with h5 | h5
            · exact hP y z h5 hy2 hz
            · have : y = k := by omega
              subst this; exact b z hz
          · exact .inr (.inr ⟨_, c, .inr ⟨((x : Int), (k : Int), (z : Int)), ⟨k, z, hk', a, b⟩, rfl⟩⟩))
        (fun _ hP => .inl ⟨rfl, fun y z hy hz => hP y z (by rw [h.len]; exact hy) hy hz⟩)
      rw [hy]
      rcases hQ with ⟨rfl, a⟩ | ⟨q, a, rfl⟩
      · exact .inl ⟨rfl, a⟩
      · exact .inr ⟨q, a, rfl⟩
    obtain ⟨y, hy, hQ⟩ := forR_inv (n := t.length) (f := fun k x_1 => P_semigroupref14_Associative_l7 t k) (x := ()) (fun k _ => ∀ x y z, x < k → x < n → y < n → z < n → T (T x y) z = T x (T y z))
      (fun o => (o = .inl () ∧ Assoc n T) ∨ ∃ q : Int × Int × Int, ¬ Assoc n T ∧ o = .inr (q.1, q.2.1, q.2.2, 5)) (fun x y z hx => by omega)
      (fun k _ hk hP => by
        have hk' : k < n := by rw [← h.len]; exact hk
        rcases h1 k hk' with ⟨a, b⟩ | ⟨q, ⟨y, z, a, b, c⟩, d⟩
        · refine .inl ⟨(), a, fun x y z hx hx2 hy hz => ?_⟩
          rcases Nat.lt_or_ge x k with h5 | h5
          · exact hP x y z h5 hx2 hy hz
          · have : x = k := by omega
            subst this; exact b y z hy hz
        · exact .inr (.inr ⟨_, d, .inr ⟨q, fun hA => c (hA k y z hk' a b), rfl⟩⟩))
      (fun _ hP => .inl ⟨rfl, fun x y z hx hy hz => hP x y z (by rw [h.len]; exact hx) hx hy hz⟩)
    rw [← h.len, hy]
    rw [h.len]
    rcases hQ with ⟨rfl, a⟩ | ⟨q, a, rfl⟩
    · exact ⟨0, 0, 0, by rw [if_pos a]; rfl⟩
    · exact ⟨q.1, q.2.1, q.2.2, by rw [if_neg a]; rfl⟩
  · rw [if_pos (by simp [hs]), if_neg hs]
    exact ⟨0, 0, 0, rfl⟩
theorem ref_validate (t : List (List Int)) : P_semigroupref14_Validate t = some (validM t) := by
  unfold P_semigroupref14_Validate
  obtain ⟨x, y, z, e⟩ := ref_associative t
  rw [e]; rfl
theorem ref_Valid (t : List (List Int)) : P_semigroupref14_Valid t = some (decide (validM t = 0)) := by
  unfold P_semigroupref14_Valid
  rw [ref_validate]; rfl

structure Sg (t : List (List Int)) (n : Nat) (T : Nat → Nat → Nat) : Prop extends Tab t n T where
  assoc : Assoc n T
theorem valid_sg {t : List (List Int)} : validM t = 0 ↔ Sg t t.length (natT t) := by
  unfold validM
  constructor
  · intro h
    split at h
    · rename_i h1
      split at h
      · rename_i h2; exact ⟨shape_tab.1 h1, h2⟩
      · omega
    · rename_i h1; exact absurd h h1
  · intro h
    rw [if_pos (shape_tab.2 h.toTab), if_pos h.assoc]
theorem Sg.valid {t : List (List Int)} {n : Nat} {T : Nat → Nat → Nat} (h : Sg t n T) : validM t = 0 := by
  have hl := h.len
  subst hl
  refine valid_sg.2 ⟨⟨rfl, h.pos, h.le, h.row, fun x y hx hy => ?_, fun x y hx hy => ?_⟩, ?_⟩
  · unfold natT; rw [h.at_ x y hx hy]; simp
  · unfold natT; rw [h.at_ x y hx hy]; simpa using h.lt x y hx hy
  · have e : ∀ x y, x < t.length → y < t.length → natT t x y = T x y := fun x y hx hy => by unfold natT; rw [h.at_ x y hx hy]; simp
    intro x y z hx hy hz
    have l1 := h.lt x y hx hy; have l2 := h.lt y z hy hz
    rw [e x y hx hy, e y z hy hz, e _ z l1 hz, e x _ hx l2]
    exact h.assoc x y z hx hy hz
end Go.Proofs.Ytmdpejgnkoneoaa.Mt
set_option maxRecDepth 100000
set_option maxHeartbeats 4000000
namespace Go.Proofs.Ytmdpejgnkoneoaa.Pu
open Go Go.AM Go.Proofs.Ytmdpejgnkoneoaa.Code

noncomputable def P_congr_forest_find_l1 (x9 : Int) (x10 : List Int) : Option (Lp (Int × (List Int)) (Empty)) :=
 Option.bind (gi x10 x9) fun x14 =>
 if !decide (x14 = x9) then
  Option.bind (gi x10 x14) fun x22 =>
  Option.bind (si x10 x9 x22) fun x29 =>
  Option.bind (gi x29 x9) fun x37 =>
  some (.go (x37, x29))
 else
  some (.br (x9, x10))
noncomputable def P_congr_forest_find (f : List Int) (x_ : Int) : Option (Int × (List Int)) :=
 Option.bind (loopO (fun x => P_congr_forest_find_l1 x.1 x.2) (x_, f)) fun z7 =>
 match z7 with
 | .inl x44 =>
  some (x44.1, x44.2)
 | .inr b => b.elim
theorem R_congr_forest_find {G : List Frag} {W H : AH} {v_0 : AV} {g_0 : Frag} {f : List Int} {x_ : Int} (hst : St (g_0 :: G) W H) (o_0 : OwS W v_0 g_0 f) {r : Int × (List Int)} (hp : P_congr_forest_find f x_ = some r) :
  wpc E0 N_congr_forest_find [v_0, .int .i64 x_] H fun rv H' => ∃ W', Wle W W' ∧ ∃ (gi0 : Frag), St (gi0 :: G) W' H' ∧ rv = .int .i64 r.1 ∧ OwS W' v_0 gi0 r.2 := by
 refine enterN (F := f_congr_forest_find) rfl (Nat.le_of_ble_eq_true rfl) fun s hl hg => ?_;replace hl : s.length = 26 := hl;have g0 : gt s 0 = v_0 := hg 0 (Nat.le_of_ble_eq_true rfl);have g1 : gt s 1 = .int .i64 x_ := hg 1 (Nat.le_of_ble_eq_true rfl);clear hg;unfold P_congr_forest_find at hp;show wp E0 c_congr_forest_find s H _;unfold c_congr_forest_find;refine AM.wp_seq hp0 (AM.wp_reg hp0 ?_);refine wpo_seg hp0 1 (fun s H' => s.length = 26 ∧ gt s 0 = v_0 ∧ gt s 1 = .int .i64 x_ ∧ H = H') (by simp only [↓runs, isCall, ↓reduceIte, ↓gd_true, ↓gd_false, evs, AV.cells, Nat.reduceEqDiff, Nat.reduceLT, reduceCtorEq, Nat.reduceAdd, sy, g0, g1, hl]) ?_;rintro s _ ⟨hl, g0, g1, rfl⟩;refine wpo_nil (then_n ?_);refine AM.wp_seq hp0 ?_;obtain ⟨z7, e8, hp⟩ := bn hp;refine loop_ref hp0 (fun x => P_congr_forest_find_l1 x.1 x.2) (fun x s H' => ∃ (W' : AH) (qo1 : Frag), s.length = 26 ∧ gt s 1 = .int .i64 x.1 ∧ gt s 0 = v_0 ∧  Wle W W' ∧ St (qo1 :: G) W' H' ∧ OwS W' v_0 qo1 (x.2 : List Int)) (fun x s H' => ∃ (W' : AH) (qo1 : Frag), s.length = 26 ∧ gt s 1 = .int .i64 x.1 ∧  Wle W W' ∧ St (qo1 :: G) W' H' ∧ OwS W' v_0 qo1 (x.2 : List Int)) e8 ?_ ?_ ?_
 ·exact ⟨W, _, hl, g1, g0, .refl _, hst, o_0⟩
 ·intro x2 y4 s H hI hy5 hx6;obtain ⟨x9, x10⟩ := x2;dsimp only at hI;change P_congr_forest_find_l1 x9 x10 = some y4 at hy5;unfold P_congr_forest_find_l1 at hy5;obtain ⟨W, fg12, hl, g1, g0, w11, hst, o13⟩ := hI;refine AM.wp_seq hp0 (AM.wp_seq hp0 (AM.wp_reg hp0 ?_));obtain ⟨x14, e15, hy5⟩ := bn hy5;obtain ⟨p16, _, f18, f19, rfl⟩ := ow_at (k := .i64) hst (.head _) o13 e15 rfl;refine wpo_seg hp0 6 (fun s H' => s.length = 26 ∧ gt s 0 = v_0 ∧ gt s 1 = .int .i64 x9 ∧ gt s 10 = .bool (!decide (x14 = x9)) ∧ H = H') (by simp only [↓runs, isCall, ↓reduceIte, ↓gd_true, ↓gd_false, evs, AV.cells, Nat.reduceEqDiff, Nat.reduceLT, reduceCtorEq, Nat.reduceAdd, sy, f18, f19, g0, g1, hl]) ?_;rintro s _ ⟨hl, g0, g1, g10, rfl⟩;refine wpo_nil (then_n ?_);rcases Bool.eq_false_or_eq_true (!decide (x14 = x9)) with c21 | c21
  ·replace hy5 := ifT c21 hy5;refine AM.wp_condT (by simp only [ev_t, ev_c, g10, c21]) ?_;refine AM.wp_skip ?_;refine then_n ?_;refine AM.wp_block ?_;refine AM.wp_seq hp0 (AM.wp_reg hp0 ?_);obtain ⟨x22, e23, hy5⟩ := bn hy5;obtain ⟨p24, _, f26, f27, rfl⟩ := ow_at (k := .i64) hst (.head _) o13 e23 rfl;obtain ⟨x29, e30, hy5⟩ := bn hy5;obtain ⟨p31, H32, fg33, f34, f35, hst, o36⟩ := ow_set (k := .i64) 1 rfl hst o13 (show Rp.rv W (.int .i64 x22) (x22 : Int) from rfl) e30;obtain rfl := Option.some.inj (f34.symm.trans f18);refine wpo_seg hp0 11 (fun s H' => s.length = 26 ∧ gt s 0 = v_0 ∧ gt s 1 = .int .i64 x9 ∧ H32 = H') (by simp only [↓runs, isCall, ↓reduceIte, ↓gd_true, ↓gd_false, evs, AV.cells, Nat.reduceEqDiff, Nat.reduceLT, reduceCtorEq, Nat.reduceAdd, sy, f18, f19, f26, f27, f34, f35, g0, g1, g10, hl]) ?_;rintro s _ ⟨hl, g0, g1, rfl⟩;refine wpo_nil (then_n ?_);refine AM.wp_reg hp0 ?_;obtain ⟨x37, e38, hy5⟩ := bn hy5;obtain ⟨p39, _, f41, f42, rfl⟩ := ow_at (k := .i64) hst (.head _) o36 e38 rfl;obtain rfl := Option.some.inj (f41.symm.trans f34);refine wpo_seg hp0 5 (fun s H' => s.length = 26 ∧ gt s 0 = v_0 ∧ gt s 1 = .int .i64 x37 ∧ H32 = H') (by simp only [↓runs, isCall, ↓reduceIte, ↓gd_true, ↓gd_false, evs, AV.cells, Nat.reduceEqDiff, Nat.reduceLT, reduceCtorEq, Nat.reduceAdd, sy, f41, f42, g0, g1, hl]) ?_;rintro s _ ⟨hl, g0, g1, rfl⟩;refine wpo_nil ?_;refine blk_n ?_;refine then_n ?_;obtain rfl := Option.some.inj hy5;exact ⟨_, rfl, ⟨W, _, hl, g1, g0, w11, hst, o36⟩⟩
  ·replace hy5 := ifF c21 hy5;refine AM.wp_condF (by simp only [ev_t, ev_c, g10, c21]) ?_;refine AM.wp_exit ?_;refine then_x ?_;refine then_x (rnd_c rfl ?_);obtain rfl := Option.some.inj hy5;exact ⟨_, rfl, ⟨W, _, hl, g1, w11, hst, o13⟩⟩
 ·rintro x44 s H hz hI;subst hz;dsimp only at hp hI;obtain ⟨W, fg46, hl, g1, w45, hst, o47⟩ := hI;refine then_n ?_;refine AM.wp_seq hp0 (AM.wp_reg hp0 ?_);refine wpo_seg hp0 2 (fun s H' => s.length = 26 ∧ gt s 4 = .int .i64 x44.1 ∧ H = H') (by simp only [↓runs, isCall, ↓reduceIte, ↓gd_true, ↓gd_false, evs, AV.cells, Nat.reduceEqDiff, Nat.reduceLT, reduceCtorEq, Nat.reduceAdd, sy, g1, hl]) ?_;rintro s _ ⟨hl, g4, rfl⟩;refine wpo_nil (then_n ?_);refine AM.wp_ret ?_;obtain rfl := Option.some.inj hp;refine body_ret (vs := [.int .i64 x44.1]) (by simp only [rvs, f_congr_forest_find, Option.map_some, g4]) ?_;exact ⟨W, w45, _, hst, rfl, o47⟩

end Go.Proofs.Ytmdpejgnkoneoaa.Pu
namespace Go.Proofs.Ytmdpejgnkoneoaa.Pu
open Go Go.AM Go.Proofs.Ytmdpejgnkoneoaa.Code

noncomputable def P_congr_forest_findF (R : List Int) (x : Int) : Option Int := gi R x

theorem congr_forest_find_pure {F R : List Int} {d : Nat → Nat} {x r : Int} (h : FoI F R d) (hx : gi R x = some r) : ∃ F', P_congr_forest_find F x = some (r, F') ∧ FoI F' R d := by
 obtain ⟨j, rfl, hj, rfl⟩ := gi_some hx
 have key : ∃ y, loopO (fun x => P_congr_forest_find_l1 x.1 x.2) ((j : Int), F) = some y ∧ ∃ q : Int × List Int, y = .inl q ∧ q.1 = R[j] ∧ FoI q.2 R d := by
  refine loop_inv (fun (q : Int × List Int) => ∃ x : Nat, q.1 = x ∧ x < q.2.length ∧ FoI q.2 R d ∧ R[x]? = R[j]?) (fun (q : Int × List Int) => d q.1.toNat)
   (fun o => ∃ q : Int × List Int, o = .inl q ∧ q.1 = R[j] ∧ FoI q.2 R d) ⟨j, rfl, by rw [h.len]; exact hj, h, rfl⟩ ?_
  rintro ⟨x, F⟩ ⟨x, rfl, hx, h, hR⟩
  dsimp only at hx h ⊢
  obtain ⟨p, h1, h2, h3, h4, h5⟩ := h.at_ x hx
  obtain ⟨q, k1, k2, k3, k4, k5⟩ := h.at_ p h2
  have g1 : gi F (x : Int) = some (p : Int) := by unfold gi; rw [if_pos (by omega)]; simpa using h1
  have g2 : gi F (p : Int) = some (q : Int) := by unfold gi; rw [if_pos (by omega)]; simpa using k1
  have g3 : si F (x : Int) (q : Int) = some (F.set x q) := by unfold si; rw [if_pos ⟨by omega, by omega⟩]; simp
  have g4 : gi (F.set x (q : Int)) (x : Int) = some (q : Int) := by unfold gi; rw [if_pos (by omega)]; simp [hx]
  unfold P_congr_forest_find_l1
  simp only [g1, Option.bind_some, g2, g3, g4]
  by_cases e : p = x
  ·refine .inr (.inl ⟨((x : Int), F), by simp [e], _, rfl, ?_, h⟩)
   have := h5 e
   rw [hR, List.getElem?_eq_getElem hj] at this
   exact (Option.some.inj this).symm
  ·refine .inl ⟨_, by rw [if_pos (by simp; omega)], ⟨q, rfl, by simpa using k2, h.half hx h1 k1, by rw [k4, h4, hR]⟩, ?_⟩
   have a1 := h3 e
   simp only [Int.toNat_natCast]
   by_cases e2 : q = p
   ·rw [e2]; exact a1
   ·have := k3 e2; omega
 obtain ⟨y, hy, q, rfl, h1, h2⟩ := key
 exact ⟨q.2, by unfold P_congr_forest_find; rw [hy]; simp [h1], h2⟩

theorem R_congr_forest_findF {G : List Frag} {W H : AH} {v_0 : AV} {g_0 : Frag} {R : List Int} {x_ : Int} (hst : St (g_0 :: G) W H) (o_0 : OwF W v_0 g_0 R) {r : Int} (hp : P_congr_forest_findF R x_ = some r) :
  wpc E0 N_congr_forest_find [v_0, .int .i64 x_] H fun rv H' => ∃ W', Wle W W' ∧ ∃ (gi0 : Frag), St (gi0 :: G) W' H' ∧ rv = .int .i64 r ∧ OwF W' v_0 gi0 R := by
 obtain ⟨F, d, h1, h2⟩ := o_0;obtain ⟨F', h3, h4⟩ := congr_forest_find_pure h2 hp;refine wpc_mono hp0 (R_congr_forest_find hst h1 h3) ?_;rintro rv H' ⟨W', hw, g, a1, a2, a3⟩;exact ⟨W', hw, g, a1, a2, F', d, a3, h4⟩
end Go.Proofs.Ytmdpejgnkoneoaa.Pu
set_option maxRecDepth 100000
set_option maxHeartbeats 4000000
namespace Go.Proofs.Ytmdpejgnkoneoaa.Pu
open Go Go.AM Go.Proofs.Ytmdpejgnkoneoaa.Code

noncomputable def P_congr_forest_join_l96 (side : Int) (t : List (List Int)) (x22 : Int × Int) (k98 : Nat) (x97 : List (Int × Int)) : Option ((List (Int × Int))) :=
 if !decide (side = 2) then
  Option.bind (gi t (k98 : Int)) fun x110 =>
  Option.bind (gi x110 x22.1) fun x119 =>
  Option.bind (gi x110 x22.2) fun x128 =>
  Option.bind (pus 16 x97 [(x119, x128)]) fun x147 =>
  if !decide (side = 1) then
   Option.bind (gi t x22.1) fun x158 =>
   Option.bind (gi x158 (k98 : Int)) fun x165 =>
   Option.bind (gi t x22.2) fun x174 =>
   Option.bind (gi x174 (k98 : Int)) fun x181 =>
   Option.bind (pus 16 x147 [(x165, x181)]) fun x200 =>
   some x200
  else
   some x147
 else
  if !decide (side = 1) then
   Option.bind (gi t x22.1) fun x211 =>
   Option.bind (gi x211 (k98 : Int)) fun x218 =>
   Option.bind (gi t x22.2) fun x227 =>
   Option.bind (gi x227 (k98 : Int)) fun x234 =>
   Option.bind (pus 16 x97 [(x218, x234)]) fun x253 =>
   some x253
  else
   some x97
noncomputable def P_congr_forest_join_l1 (side : Int) (t : List (List Int)) (work9 : List (Int × Int)) (x10 : List Int) : Option (Lp ((List (Int × Int)) × (List Int)) (Empty)) :=
 if decide (0 < (work9.length : Int)) then
  Option.bind (gi work9 (w64 ((work9.length : Int) - 1))) fun x22 =>
  Option.bind (sub work9 none (some (w64 ((work9.length : Int) - 1)))) fun x38 =>
  Option.bind (P_congr_forest_findF x10 x22.1) fun r45 =>
  Option.bind (P_congr_forest_findF x10 x22.2) fun r53 =>
  if decide (r45 = r53) then
   some (.go (x38, x10))
  else
   Option.bind (fset x10 r45 r53) fun x87 =>
   Option.bind (forS t.length (fun k x => P_congr_forest_join_l96 side t x22 k x) x38) fun z102 =>
   some (.go (z102, x87))
 else
  some (.br (work9, x10))
noncomputable def P_congr_forest_join (f : List Int) (t : List (List Int)) (side : Int) (work : List (Int × Int)) : Option ((List Int)) :=
 Option.bind (loopO (fun x => P_congr_forest_join_l1 side t x.1 x.2) (work, f)) fun z7 =>
 match z7 with
 | .inl x265 =>
  some x265.2
 | .inr b => b.elim
theorem R_congr_forest_join {G : List Frag} {W H : AH} {v_0 v_1 v_3 : AV} {g_0 g_3 : Frag} {f : List Int} {t : List (List Int)} {side : Int} {work : List (Int × Int)} (hst : St (g_0 :: g_3 :: G) W H) (o_0 : OwF W v_0 g_0 f) (h_1 : Rp.rv W v_1 t) (o_3 : OwS W v_3 g_3 work) {r : (List Int)} (hp : P_congr_forest_join f t side work = some r) :
  wpc E0 N_congr_forest_join [v_0, v_1, .int .i64 side, v_3] H fun rv H' => ∃ W', Wle W W' ∧ ∃ (gi0 : Frag), St (gi0 :: G) W' H' ∧ rv = .tup [] ∧ OwF W' v_0 gi0 r := by
 refine enterN (F := f_congr_forest_join) rfl (Nat.le_of_ble_eq_true rfl) fun s hl hg => ?_;replace hl : s.length = 91 := hl;have g0 : gt s 0 = v_0 := hg 0 (Nat.le_of_ble_eq_true rfl);have g1 : gt s 1 = v_1 := hg 1 (Nat.le_of_ble_eq_true rfl);have g2 : gt s 2 = .int .i64 side := hg 2 (Nat.le_of_ble_eq_true rfl);have g3 : gt s 3 = v_3 := hg 3 (Nat.le_of_ble_eq_true rfl);clear hg;unfold P_congr_forest_join at hp;show wp E0 c_congr_forest_join s H _;unfold c_congr_forest_join;obtain ⟨z7, e8, hp⟩ := bn hp;refine loop_ref hp0 (fun x => P_congr_forest_join_l1 side t x.1 x.2) (fun x s H' => ∃ (W' : AH) (w3 : AV) (q3 : Frag) (qo1 : Frag), s.length = 91 ∧ gt s 3 = w3 ∧ gt s 0 = v_0 ∧ gt s 1 = v_1 ∧ gt s 2 = .int .i64 side ∧  Wle W W' ∧ St (q3 :: qo1 :: G) W' H' ∧ OwS W' w3 q3 (x.1 : List (Int × Int)) ∧ OwF W' v_0 qo1 (x.2 : List Int)) (fun x s H' => ∃ (W' : AH) (qo1 : Frag), s.length = 91 ∧  Wle W W' ∧ St (qo1 :: G) W' H' ∧ OwF W' v_0 qo1 (x.2 : List Int)) e8 ?_ ?_ ?_
 ·replace hst := hst.p1;exact ⟨W, _, _, _, hl, g3, g0, g1, g2, .refl _, hst, o_3, o_0⟩
 ·intro x2 y4 s H hI hy5 hx6;obtain ⟨work9, x10⟩ := x2;dsimp only at hI;change P_congr_forest_join_l1 side t work9 x10 = some y4 at hy5;unfold P_congr_forest_join_l1 at hy5;obtain ⟨W, v12, fg13, fg15, hl, g3, g0, g1, g2, w11, hst, o14, o16⟩ := hI;replace h_1 := Rp.mono w11 h_1;refine AM.wp_seq hp0 (AM.wp_seq hp0 (AM.wp_reg hp0 ?_));have f17 := ow_ln o14;have b18 := ow_big o14;refine wpo_seg hp0 3 (fun s H' => s.length = 91 ∧ gt s 0 = v_0 ∧ gt s 1 = v_1 ∧ gt s 2 = .int .i64 side ∧ gt s 3 = v12 ∧ gt s 14 = .bool (decide (0 < (work9.length : Int))) ∧ H = H') (by simp only [↓runs, isCall, ↓reduceIte, ↓gd_true, ↓gd_false, evs, AV.cells, Nat.reduceEqDiff, Nat.reduceLT, reduceCtorEq, Nat.reduceAdd, sy, f17, g0, g1, g2, g3, hl]) ?_;rintro s _ ⟨hl, g0, g1, g2, g3, g14, rfl⟩;refine wpo_nil (then_n ?_);rcases Bool.eq_false_or_eq_true (decide (0 < (work9.length : Int))) with c19 | c19
  ·replace hy5 := ifT c19 hy5;refine AM.wp_condT (by simp only [ev_t, ev_c, g14, c19]) ?_;refine AM.wp_skip ?_;refine then_n ?_;refine AM.wp_block ?_;refine AM.wp_seq hp0 (AM.wp_reg hp0 ?_);have f20 := ow_ln o14;have b21 := ow_big o14;obtain ⟨x22, e23, hy5⟩ := bn hy5;obtain ⟨p24, y25, f26, f27, h28⟩ := ow_atA (k := .i64) 2 rfl hst (.head _) o14 e23 rfl;obtain rfl := pr_ii h28;obtain ⟨p29, H30, W, f32, f33, w31, hst⟩ := bx_new' hst [.int .i64 0, .int .i64 0];replace h_1 := Rp.mono w31 h_1;replace o16 := o16.mono w31;replace o14 := o14.mono w31;obtain ⟨H34, f35, hst⟩ := bx_st (y := .agg [.int .i64 x22.1, .int .i64 x22.2]) (n := 2) hst rfl rfl rfl;simp only [AV.cells] at hst;refine wpo_seg hp0 8 (fun s H' => s.length = 91 ∧ gt s 0 = v_0 ∧ gt s 1 = v_1 ∧ gt s 2 = .int .i64 side ∧ gt s 3 = v12 ∧ gt s 8 = .ptr p29 0 ∧ H34 = H') (by simp only [↓runs, isCall, ↓reduceIte, ↓gd_true, ↓gd_false, evs, AV.cells, Nat.reduceEqDiff, Nat.reduceLT, reduceCtorEq, Nat.reduceAdd, sy, f20, f26, f27, f32, f33, f35, g0, g1, g2, g3, g14, hl]) ?_;rintro s _ ⟨hl, g0, g1, g2, g3, g8, rfl⟩;refine wpo_nil (then_n ?_);refine AM.wp_seq hp0 (AM.wp_reg hp0 ?_);have f36 := ow_ln o14;have b37 := ow_big o14;obtain ⟨x38, e39, hy5⟩ := bn hy5;obtain ⟨v40, f41, o42⟩ := ow_cut (n := 2) (kk := .i64) rfl o14 e39;refine wpo_seg hp0 6 (fun s H' => s.length = 91 ∧ gt s 0 = v_0 ∧ gt s 1 = v_1 ∧ gt s 2 = .int .i64 side ∧ gt s 3 = v40 ∧ gt s 8 = .ptr p29 0 ∧ H34 = H') (by simp only [↓runs, isCall, ↓reduceIte, ↓gd_true, ↓gd_false, evs, AV.cells, Nat.reduceEqDiff, Nat.reduceLT, reduceCtorEq, Nat.reduceAdd, sy, f36, f41, g0, g1, g2, g3, g8, hl]) ?_;rintro s _ ⟨hl, g0, g1, g2, g3, g8, rfl⟩;refine wpo_nil (then_n ?_);refine AM.wp_seq hp0 ?_;obtain ⟨r45, e46, hy5⟩ := bn hy5;obtain ⟨r53, e54, hy5⟩ := bn hy5;refine AM.wp_regsK hp0 (fun s H' => ∃ (W' : AH) (qo1 : Frag), s.length = 91 ∧ gt s 9 = .int .i64 r45 ∧ gt s 10 = .int .i64 r53 ∧ gt s 0 = v_0 ∧ gt s 1 = v_1 ∧ gt s 2 = .int .i64 side ∧ gt s 3 = v40 ∧ gt s 8 = .ptr p29 0 ∧  Wle W W' ∧ St ([(p29, .row [.int .i64 x22.1, .int .i64 x22.2] true)] :: fg13 :: qo1 :: G) W' H' ∧ OwF W' v_0 qo1 (x10 : List Int)) (by simp) ?_ ?_
   ·intro l hl'; simp only [List.mem_cons, List.not_mem_nil, or_false] at hl';rcases hl' with rfl | rfl
    ·have f59 : iaA 2 1 (.ptr p29 0) (.int .i64 0) = some (.ptr p29 0) := by simp [iaA]
     have f60 := bx_ld (i := 0) hst (.head _) rfl;refine wpo_seg hp0 3 (fun s H' => s.length = 91 ∧ gt s 0 = v_0 ∧ gt s 1 = v_1 ∧ gt s 2 = .int .i64 side ∧ gt s 3 = v40 ∧ gt s 8 = .ptr p29 0 ∧ gt s 26 = v_0 ∧ gt s 28 = .int .i64 x22.1 ∧ H34 = H') (by simp only [↓runs, isCall, ↓reduceIte, ↓gd_true, ↓gd_false, evs, AV.cells, Nat.reduceEqDiff, Nat.reduceLT, reduceCtorEq, Nat.reduceAdd, sy, f59, f60, g0, g1, g2, g3, g8, hl]) ?_;rintro s _ ⟨hl, g0, g1, g2, g3, g8, g26, g28, rfl⟩;replace hst := hst.p2;refine wpo_callK hp0 rfl (ys := [v_0, .int .i64 x22.1]) (by simp only [evs, List.map_cons, List.map_nil, ev_t, ev_c, g26, g28]) (R_congr_forest_findF hst o16 e46) ?_;rintro rv61 H ⟨W, w62, fg63, hst, rfl, o64⟩;replace h_1 := Rp.mono w62 h_1;replace o42 := o42.mono w62;have f65 : iaA 2 1 (.ptr p29 0) (.int .i64 1) = some (.ptr p29 1) := by simp [iaA]
     have f66 := bx_ld (i := 1) hst (.tail _ (.head _)) rfl;refine wpo_seg hp0 3 (fun s H' => s.length = 91 ∧ gt s 0 = v_0 ∧ gt s 1 = v_1 ∧ gt s 2 = .int .i64 side ∧ gt s 3 = v40 ∧ gt s 8 = .ptr p29 0 ∧ gt s 29 = .int .i64 r45 ∧ gt s 30 = v_0 ∧ gt s 32 = .int .i64 x22.2 ∧ H = H') (by simp only [↓runs, isCall, ↓reduceIte, ↓gd_true, ↓gd_false, evs, AV.cells, Nat.reduceEqDiff, Nat.reduceLT, reduceCtorEq, Nat.reduceAdd, sy, gt_other, f65, f66, g0, g1, g2, g3, g8, g26, g28, hl]) ?_;rintro s _ ⟨hl, g0, g1, g2, g3, g8, g29, g30, g32, rfl⟩;refine wpo_callK hp0 rfl (ys := [v_0, .int .i64 x22.2]) (by simp only [evs, List.map_cons, List.map_nil, ev_t, ev_c, g30, g32]) (R_congr_forest_findF hst o64 e54) ?_;rintro rv67 H ⟨W, w68, fg69, hst, rfl, o70⟩;replace h_1 := Rp.mono w68 h_1;replace o42 := o42.mono w68;refine wpo_seg hp0 2 (fun s H' => s.length = 91 ∧ gt s 0 = v_0 ∧ gt s 1 = v_1 ∧ gt s 2 = .int .i64 side ∧ gt s 3 = v40 ∧ gt s 8 = .ptr p29 0 ∧ gt s 9 = .int .i64 r45 ∧ gt s 10 = .int .i64 r53 ∧ H = H') (by simp only [↓runs, isCall, ↓reduceIte, ↓gd_true, ↓gd_false, evs, AV.cells, Nat.reduceEqDiff, Nat.reduceLT, reduceCtorEq, Nat.reduceAdd, sy, gt_other, g0, g1, g2, g3, g8, g29, g30, g32, hl]) ?_;rintro s _ ⟨hl, g0, g1, g2, g3, g8, g9, g10, rfl⟩;refine wpo_nil ?_;replace hst := hst.p2;replace hst := hst.p2;exact ⟨W, _, hl, g9, g10, g0, g1, g2, g3, g8, (w62.trans w68), hst, o70⟩
    ·have f71 : iaA 2 1 (.ptr p29 0) (.int .i64 0) = some (.ptr p29 0) := by simp [iaA]
     have f72 := bx_ld (i := 0) hst (.head _) rfl;have f73 : iaA 2 1 (.ptr p29 0) (.int .i64 1) = some (.ptr p29 1) := by simp [iaA]
     have f74 := bx_ld (i := 1) hst (.head _) rfl;refine wpo_seg hp0 6 (fun s H' => s.length = 91 ∧ gt s 0 = v_0 ∧ gt s 1 = v_1 ∧ gt s 2 = .int .i64 side ∧ gt s 3 = v40 ∧ gt s 8 = .ptr p29 0 ∧ gt s 26 = v_0 ∧ gt s 28 = .int .i64 x22.1 ∧ gt s 30 = v_0 ∧ gt s 32 = .int .i64 x22.2 ∧ H34 = H') (by simp only [↓runs, isCall, ↓reduceIte, ↓gd_true, ↓gd_false, evs, AV.cells, Nat.reduceEqDiff, Nat.reduceLT, reduceCtorEq, Nat.reduceAdd, sy, f71, f72, f73, f74, g0, g1, g2, g3, g8, hl]) ?_;rintro s _ ⟨hl, g0, g1, g2, g3, g8, g26, g28, g30, g32, rfl⟩;replace hst := hst.p2;refine wpo_callK hp0 rfl (ys := [v_0, .int .i64 x22.1]) (by simp only [evs, List.map_cons, List.map_nil, ev_t, ev_c, g26, g28]) (R_congr_forest_findF hst o16 e46) ?_;rintro rv75 H ⟨W, w76, fg77, hst, rfl, o78⟩;replace h_1 := Rp.mono w76 h_1;replace o42 := o42.mono w76;refine wpo_seg hp0 0 (fun s H' => s.length = 91 ∧ gt s 0 = v_0 ∧ gt s 1 = v_1 ∧ gt s 2 = .int .i64 side ∧ gt s 3 = v40 ∧ gt s 8 = .ptr p29 0 ∧ gt s 29 = .int .i64 r45 ∧ gt s 30 = v_0 ∧ gt s 32 = .int .i64 x22.2 ∧ H = H') (by simp only [↓runs, isCall, ↓reduceIte, ↓gd_true, ↓gd_false, evs, AV.cells, Nat.reduceEqDiff, Nat.reduceLT, reduceCtorEq, Nat.reduceAdd, sy, gt_other, g0, g1, g2, g3, g8, g26, g28, g30, g32, hl]) ?_;rintro s _ ⟨hl, g0, g1, g2, g3, g8, g29, g30, g32, rfl⟩;refine wpo_callK hp0 rfl (ys := [v_0, .int .i64 x22.2]) (by simp only [evs, List.map_cons, List.map_nil, ev_t, ev_c, g30, g32]) (R_congr_forest_findF hst o78 e54) ?_;rintro rv79 H ⟨W, w80, fg81, hst, rfl, o82⟩;replace h_1 := Rp.mono w80 h_1;replace o42 := o42.mono w80;refine wpo_seg hp0 2 (fun s H' => s.length = 91 ∧ gt s 0 = v_0 ∧ gt s 1 = v_1 ∧ gt s 2 = .int .i64 side ∧ gt s 3 = v40 ∧ gt s 8 = .ptr p29 0 ∧ gt s 9 = .int .i64 r45 ∧ gt s 10 = .int .i64 r53 ∧ H = H') (by simp only [↓runs, isCall, ↓reduceIte, ↓gd_true, ↓gd_false, evs, AV.cells, Nat.reduceEqDiff, Nat.reduceLT, reduceCtorEq, Nat.reduceAdd, sy, gt_other, g0, g1, g2, g3, g8, g29, g30, g32, hl]) ?_;rintro s _ ⟨hl, g0, g1, g2, g3, g8, g9, g10, rfl⟩;refine wpo_nil ?_;replace hst := hst.p2;replace hst := hst.p2;exact ⟨W, _, hl, g9, g10, g0, g1, g2, g3, g8, (w76.trans w80), hst, o82⟩
   ·rintro s H ⟨W, fg84, hl, g9, g10, g0, g1, g2, g3, g8, w83, hst, o85⟩;replace h_1 := Rp.mono w83 h_1;replace o42 := o42.mono w83;refine then_n ?_;refine AM.wp_seq hp0 (AM.wp_seq hp0 (AM.wp_reg hp0 ?_));refine wpo_seg hp0 3 (fun s H' => s.length = 91 ∧ gt s 0 = v_0 ∧ gt s 1 = v_1 ∧ gt s 2 = .int .i64 side ∧ gt s 3 = v40 ∧ gt s 8 = .ptr p29 0 ∧ gt s 9 = .int .i64 r45 ∧ gt s 10 = .int .i64 r53 ∧ gt s 36 = .bool (decide (r45 = r53)) ∧ H = H') (by simp only [↓runs, isCall, ↓reduceIte, ↓gd_true, ↓gd_false, evs, AV.cells, Nat.reduceEqDiff, Nat.reduceLT, reduceCtorEq, Nat.reduceAdd, sy, g0, g1, g2, g3, g8, g9, g10, hl]) ?_;rintro s _ ⟨hl, g0, g1, g2, g3, g8, g9, g10, g36, rfl⟩;refine wpo_nil (then_n ?_);rcases Bool.eq_false_or_eq_true (decide (r45 = r53)) with c86 | c86
    ·replace hy5 := ifT c86 hy5;refine AM.wp_condT (by simp only [ev_t, ev_c, g36, c86]) ?_;refine AM.wp_exit ?_;refine then_x ?_;refine blk_h rfl ?_;refine then_n ?_;obtain rfl := Option.some.inj hy5;replace hst := hst.drop;replace hst := hst.p1;replace hst := hst.p1;exact ⟨_, rfl, ⟨W, _, _, _, hl, g3, g0, g1, g2, ((w11.trans w31).trans w83), hst, o42, o85⟩⟩
    ·replace hy5 := ifF c86 hy5;refine AM.wp_condF (by simp only [ev_t, ev_c, g36, c86]) ?_;refine AM.wp_skip ?_;refine then_n ?_;refine AM.wp_seq hp0 (AM.wp_reg hp0 ?_);obtain ⟨x87, e88, hy5⟩ := bn hy5;replace hst := hst.p2;obtain ⟨p89, H90, fg91, f92, f93, hst, o94⟩ := of_set (k := .i64) hst o85 e88;refine wpo_seg hp0 5 (fun s H' => s.length = 91 ∧ gt s 0 = v_0 ∧ gt s 1 = v_1 ∧ gt s 2 = .int .i64 side ∧ gt s 3 = v40 ∧ gt s 8 = .ptr p29 0 ∧ H90 = H') (by simp only [↓runs, isCall, ↓reduceIte, ↓gd_true, ↓gd_false, evs, AV.cells, Nat.reduceEqDiff, Nat.reduceLT, reduceCtorEq, Nat.reduceAdd, sy, f92, f93, g0, g1, g2, g3, g8, g9, g10, g36, hl]) ?_;rintro s _ ⟨hl, g0, g1, g2, g3, g8, rfl⟩;refine wpo_nil (then_n ?_);refine AM.wp_seq hp0 (AM.wp_reg hp0 ?_);have f95 := fz_ln h_1;refine wpo_seg hp0 3 (fun s H' => s.length = 91 ∧ gt s 0 = v_0 ∧ gt s 1 = v_1 ∧ gt s 2 = .int .i64 side ∧ gt s 3 = v40 ∧ gt s 8 = .ptr p29 0 ∧ gt s 42 = .int .i64 (t.length : Int) ∧ gt s 43 = .int .i64 0 ∧ H90 = H') (by simp only [↓runs, isCall, ↓reduceIte, ↓gd_true, ↓gd_false, evs, AV.cells, Nat.reduceEqDiff, Nat.reduceLT, reduceCtorEq, Nat.reduceAdd, sy, f95, g0, g1, g2, g3, g8, hl]) ?_;rintro s _ ⟨hl, g0, g1, g2, g3, g8, g42, g43, rfl⟩;refine wpo_nil (then_n ?_);obtain ⟨z102, e103, hy5⟩ := bn hy5;refine rangeS_ref hp0 91 t.length (fun k x => P_congr_forest_join_l96 side t x22 k x) (fun _ x s H' => ∃ (W' : AH) (w3 : AV) (q3 : Frag), s.length = 91 ∧ gt s 3 = w3 ∧ gt s 0 = v_0 ∧ gt s 1 = v_1 ∧ gt s 2 = .int .i64 side ∧ gt s 8 = .ptr p29 0 ∧  Wle W W' ∧ St (q3 :: fg91 :: [(p29, .row [.int .i64 x22.1, .int .i64 x22.2] true)] :: G) W' H' ∧ OwS W' w3 q3 (x : List (Int × Int))) e103 (fz_big h_1) rfl ?_ ?_ hl g43 g42 ?_ ?_
     ·intro k x s H d v hd h; rcases hd with rfl | rfl | rfl <;> simpa only [gt_other, pt_length, Nat.reduceEqDiff, not_false_eq_true] using h
     ·replace hst := hst.p1;replace hst := hst.p1;replace hst := hst.p2;exact ⟨W, _, _, hl, g3, g0, g1, g2, g8, .refl _, hst, o42⟩
     ·intro k98 x97 y99 s H hk hI hl g43 g42 hy100;change P_congr_forest_join_l96 side t x22 k98 x97 = some y99 at hy100;unfold P_congr_forest_join_l96 at hy100;obtain ⟨W, v106, fg107, hl, g3, g0, g1, g2, g8, w105, hst, o108⟩ := hI;replace h_1 := Rp.mono w105 h_1;replace o94 := o94.mono w105;refine AM.wp_seq hp0 (AM.wp_reg hp0 ?_);refine wpo_seg hp0 2 (fun s H' => s.length = 91 ∧ gt s 0 = v_0 ∧ gt s 1 = v_1 ∧ gt s 2 = .int .i64 side ∧ gt s 3 = v106 ∧ gt s 8 = .ptr p29 0 ∧ gt s 11 = .int .i64 (k98 : Int) ∧ gt s 42 = .int .i64 (t.length : Int) ∧ gt s 43 = .int .i64 (k98 : Int) ∧ H = H') (by simp only [↓runs, isCall, ↓reduceIte, ↓gd_true, ↓gd_false, evs, AV.cells, Nat.reduceEqDiff, Nat.reduceLT, reduceCtorEq, Nat.reduceAdd, sy, g0, g1, g2, g3, g8, g42, g43, hl]) ?_;rintro s _ ⟨hl, g0, g1, g2, g3, g8, g11, g42, g43, rfl⟩;refine wpo_nil (then_n ?_);refine AM.wp_seq hp0 (AM.wp_seq hp0 (AM.wp_reg hp0 ?_));refine wpo_seg hp0 2 (fun s H' => s.length = 91 ∧ gt s 0 = v_0 ∧ gt s 1 = v_1 ∧ gt s 2 = .int .i64 side ∧ gt s 3 = v106 ∧ gt s 8 = .ptr p29 0 ∧ gt s 11 = .int .i64 (k98 : Int) ∧ gt s 42 = .int .i64 (t.length : Int) ∧ gt s 43 = .int .i64 (k98 : Int) ∧ gt s 47 = .bool (!decide (side = 2)) ∧ H = H') (by simp only [↓runs, isCall, ↓reduceIte, ↓gd_true, ↓gd_false, evs, AV.cells, Nat.reduceEqDiff, Nat.reduceLT, reduceCtorEq, Nat.reduceAdd, sy, g0, g1, g2, g3, g8, g11, g42, g43, hl]) ?_;rintro s _ ⟨hl, g0, g1, g2, g3, g8, g11, g42, g43, g47, rfl⟩;refine wpo_nil (then_n ?_);rcases Bool.eq_false_or_eq_true (!decide (side = 2)) with c109 | c109
      ·replace hy100 := ifT c109 hy100;refine AM.wp_condT (by simp only [ev_t, ev_c, g47, c109]) ?_;refine AM.wp_reg hp0 ?_;obtain ⟨x110, e111, hy100⟩ := bn hy100;obtain ⟨p112, y113, f114, f115, h116⟩ := fz_at (k := .i64) hst h_1 e111 rfl;have f117 : iaA 2 1 (.ptr p29 0) (.int .i64 0) = some (.ptr p29 0) := by simp [iaA]
       have f118 := bx_ld (i := 0) hst (.tail _ (.tail _ (.head _))) rfl;obtain ⟨x119, e120, hy100⟩ := bn hy100;obtain ⟨p121, _, f123, f124, rfl⟩ := fz_at (k := .i64) hst h116 e120 rfl;have f126 : iaA 2 1 (.ptr p29 0) (.int .i64 1) = some (.ptr p29 1) := by simp [iaA]
       have f127 := bx_ld (i := 1) hst (.tail _ (.tail _ (.head _))) rfl;obtain ⟨x128, e129, hy100⟩ := bn hy100;obtain ⟨p130, _, f132, f133, rfl⟩ := fz_at (k := .i64) hst h116 e129 rfl;have f135 : fillA [.int .i64 0, .int .i64 0] [(0, 1, .int .i64 x119), (1, 1, .int .i64 x128)] = some [.int .i64 x119, .int .i64 x128] := by simp [fillA, splice, AV.cells]
       obtain ⟨v136, l137, H138, fg139, W, f141, f142, f143, w140, hst, o144⟩ := ow_lit' (n := 2) (k := 1) (z := [.int .i64 0, .int .i64 0]) (ys := [.agg [.int .i64 x119, .int .i64 x128]]) (M := ([(x119, x128)] : List (Int × Int))) [(0, 2, .agg [.int .i64 x119, .int .i64 x128])] rfl rfl hst (sc_cons (show Rp.rv _ (.agg [.int .i64 x119, .int .i64 x128]) ((x119, x128) : Int × Int) from (mk_ii _ _ _)) (sc_nil)) ((List.forall_mem_cons.2 ⟨(Rp.cells (show Rp.rv W (.agg [.int .i64 x119, .int .i64 x128]) ((x119, x128) : Int × Int) from (mk_ii _ _ _))), fun _ h => (List.not_mem_nil h).elim⟩)) rfl rfl rfl (by decide);replace h_1 := Rp.mono w140 h_1;replace h116 := Rp.mono w140 h116;replace o94 := o94.mono w140;replace o108 := o108.mono w140;obtain ⟨c145, sn146⟩ := ow_sn hst (.head _) o144;obtain ⟨x147, e148, hy100⟩ := bn hy100;replace hst := hst.p1;obtain ⟨v149, H150, fg151, W, f153, w152, hst, o154⟩ := ow_apps [.int .i64 0, .int .i64 0] rfl hst o108 sn146 e148;replace h_1 := Rp.mono w152 h_1;replace h116 := Rp.mono w152 h116;replace o94 := o94.mono w152;replace o144 := o144.mono w152;refine wpo_seg hp0 21 (fun s H' => s.length = 91 ∧ gt s 0 = v_0 ∧ gt s 1 = v_1 ∧ gt s 2 = .int .i64 side ∧ gt s 3 = v149 ∧ gt s 8 = .ptr p29 0 ∧ gt s 11 = .int .i64 (k98 : Int) ∧ gt s 42 = .int .i64 (t.length : Int) ∧ gt s 43 = .int .i64 (k98 : Int) ∧ H150 = H') (by simp (maxSteps := 1000000) only [↓runs, isCall, ↓reduceIte, ↓gd_true, ↓gd_false, evs, AV.cells, Nat.reduceEqDiff, Nat.reduceLT, reduceCtorEq, Nat.reduceAdd, sy, f114, f115, f117, f118, f123, f124, f126, f127, f132, f133, f135, f141, f142, f143, f153, g0, g1, g2, g3, g8, g11, g42, g43, g47, hl]) ?_;rintro s _ ⟨hl, g0, g1, g2, g3, g8, g11, g42, g43, rfl⟩;refine wpo_nil (then_n ?_);refine AM.wp_seq hp0 (AM.wp_reg hp0 ?_);refine wpo_seg hp0 2 (fun s H' => s.length = 91 ∧ gt s 0 = v_0 ∧ gt s 1 = v_1 ∧ gt s 2 = .int .i64 side ∧ gt s 3 = v149 ∧ gt s 8 = .ptr p29 0 ∧ gt s 11 = .int .i64 (k98 : Int) ∧ gt s 42 = .int .i64 (t.length : Int) ∧ gt s 43 = .int .i64 (k98 : Int) ∧ gt s 69 = .bool (!decide (side = 1)) ∧ H150 = H') (by simp only [↓runs, isCall, ↓reduceIte, ↓gd_true, ↓gd_false, evs, AV.cells, Nat.reduceEqDiff, Nat.reduceLT, reduceCtorEq, Nat.reduceAdd, sy, g0, g1, g2, g3, g8, g11, g42, g43, hl]) ?_;rintro s _ ⟨hl, g0, g1, g2, g3, g8, g11, g42, g43, g69, rfl⟩;refine wpo_nil (then_n ?_);rcases Bool.eq_false_or_eq_true (!decide (side = 1)) with c155 | c155
       ·replace hy100 := ifT c155 hy100;refine AM.wp_condT (by simp only [ev_t, ev_c, g69, c155]) ?_;refine AM.wp_reg hp0 ?_;have f156 : iaA 2 1 (.ptr p29 0) (.int .i64 0) = some (.ptr p29 0) := by simp [iaA]
        have f157 := bx_ld (i := 0) hst (.tail _ (.tail _ (.tail _ (.head _)))) rfl;obtain ⟨x158, e159, hy100⟩ := bn hy100;obtain ⟨p160, y161, f162, f163, h164⟩ := fz_at (k := .i64) hst h_1 e159 rfl;obtain ⟨x165, e166, hy100⟩ := bn hy100;obtain ⟨p167, _, f169, f170, rfl⟩ := fz_at (k := .i64) hst h164 e166 rfl;have f172 : iaA 2 1 (.ptr p29 0) (.int .i64 1) = some (.ptr p29 1) := by simp [iaA]
        have f173 := bx_ld (i := 1) hst (.tail _ (.tail _ (.tail _ (.head _)))) rfl;obtain ⟨x174, e175, hy100⟩ := bn hy100;obtain ⟨p176, y177, f178, f179, h180⟩ := fz_at (k := .i64) hst h_1 e175 rfl;obtain ⟨x181, e182, hy100⟩ := bn hy100;obtain ⟨p183, _, f185, f186, rfl⟩ := fz_at (k := .i64) hst h180 e182 rfl;have f188 : fillA [.int .i64 0, .int .i64 0] [(0, 1, .int .i64 x165), (1, 1, .int .i64 x181)] = some [.int .i64 x165, .int .i64 x181] := by simp [fillA, splice, AV.cells]
        obtain ⟨v189, l190, H191, fg192, W, f194, f195, f196, w193, hst, o197⟩ := ow_lit' (n := 2) (k := 1) (z := [.int .i64 0, .int .i64 0]) (ys := [.agg [.int .i64 x165, .int .i64 x181]]) (M := ([(x165, x181)] : List (Int × Int))) [(0, 2, .agg [.int .i64 x165, .int .i64 x181])] rfl rfl hst (sc_cons (show Rp.rv _ (.agg [.int .i64 x165, .int .i64 x181]) ((x165, x181) : Int × Int) from (mk_ii _ _ _)) (sc_nil)) ((List.forall_mem_cons.2 ⟨(Rp.cells (show Rp.rv W (.agg [.int .i64 x165, .int .i64 x181]) ((x165, x181) : Int × Int) from (mk_ii _ _ _))), fun _ h => (List.not_mem_nil h).elim⟩)) rfl rfl rfl (by decide);replace h_1 := Rp.mono w193 h_1;replace h116 := Rp.mono w193 h116;replace h164 := Rp.mono w193 h164;replace h180 := Rp.mono w193 h180;replace o94 := o94.mono w193;replace o154 := o154.mono w193;replace o144 := o144.mono w193;obtain ⟨c198, sn199⟩ := ow_sn hst (.head _) o197;obtain ⟨x200, e201, hy100⟩ := bn hy100;replace hst := hst.p1;obtain ⟨v202, H203, fg204, W, f206, w205, hst, o207⟩ := ow_apps [.int .i64 0, .int .i64 0] rfl hst o154 sn199 e201;replace h_1 := Rp.mono w205 h_1;replace h116 := Rp.mono w205 h116;replace h164 := Rp.mono w205 h164;replace h180 := Rp.mono w205 h180;replace o94 := o94.mono w205;replace o144 := o144.mono w205;replace o197 := o197.mono w205;refine wpo_seg hp0 21 (fun s H' => s.length = 91 ∧ gt s 0 = v_0 ∧ gt s 1 = v_1 ∧ gt s 2 = .int .i64 side ∧ gt s 3 = v202 ∧ gt s 8 = .ptr p29 0 ∧ gt s 42 = .int .i64 (t.length : Int) ∧ gt s 43 = .int .i64 (k98 : Int) ∧ H203 = H') (by simp (maxSteps := 1000000) only [↓runs, isCall, ↓reduceIte, ↓gd_true, ↓gd_false, evs, AV.cells, Nat.reduceEqDiff, Nat.reduceLT, reduceCtorEq, Nat.reduceAdd, sy, f156, f157, f162, f163, f169, f170, f172, f173, f178, f179, f185, f186, f188, f194, f195, f196, f206, g0, g1, g2, g3, g8, g11, g42, g43, g69, hl]) ?_;rintro s _ ⟨hl, g0, g1, g2, g3, g8, g42, g43, rfl⟩;refine wpo_nil ?_;refine rnd_n ?_;obtain rfl := Option.some.inj hy100;replace hst := hst.p1;replace hst := hst.drop;replace hst := hst.p1;replace hst := hst.drop;replace hst := hst.p2;replace hst := hst.p2;replace hst := hst.p2;exact ⟨hl, g43, g42, ⟨W, _, _, hl, g3, g0, g1, g2, g8, ((((w105.trans w140).trans w152).trans w193).trans w205), hst, o207⟩⟩
       ·replace hy100 := ifF c155 hy100;refine AM.wp_condF (by simp only [ev_t, ev_c, g69, c155]) ?_;refine AM.wp_skip ?_;refine rnd_n ?_;obtain rfl := Option.some.inj hy100;replace hst := hst.p1;replace hst := hst.drop;replace hst := hst.p2;replace hst := hst.p2;replace hst := hst.p2;exact ⟨hl, g43, g42, ⟨W, _, _, hl, g3, g0, g1, g2, g8, ((w105.trans w140).trans w152), hst, o154⟩⟩
      ·replace hy100 := ifF c109 hy100;refine AM.wp_condF (by simp only [ev_t, ev_c, g47, c109]) ?_;refine AM.wp_skip ?_;refine then_n ?_;refine AM.wp_seq hp0 (AM.wp_reg hp0 ?_);refine wpo_seg hp0 2 (fun s H' => s.length = 91 ∧ gt s 0 = v_0 ∧ gt s 1 = v_1 ∧ gt s 2 = .int .i64 side ∧ gt s 3 = v106 ∧ gt s 8 = .ptr p29 0 ∧ gt s 11 = .int .i64 (k98 : Int) ∧ gt s 42 = .int .i64 (t.length : Int) ∧ gt s 43 = .int .i64 (k98 : Int) ∧ gt s 69 = .bool (!decide (side = 1)) ∧ H = H') (by simp only [↓runs, isCall, ↓reduceIte, ↓gd_true, ↓gd_false, evs, AV.cells, Nat.reduceEqDiff, Nat.reduceLT, reduceCtorEq, Nat.reduceAdd, sy, g0, g1, g2, g3, g8, g11, g42, g43, g47, hl]) ?_;rintro s _ ⟨hl, g0, g1, g2, g3, g8, g11, g42, g43, g69, rfl⟩;refine wpo_nil (then_n ?_);rcases Bool.eq_false_or_eq_true (!decide (side = 1)) with c208 | c208
       ·replace hy100 := ifT c208 hy100;refine AM.wp_condT (by simp only [ev_t, ev_c, g69, c208]) ?_;refine AM.wp_reg hp0 ?_;have f209 : iaA 2 1 (.ptr p29 0) (.int .i64 0) = some (.ptr p29 0) := by simp [iaA]
        have f210 := bx_ld (i := 0) hst (.tail _ (.tail _ (.head _))) rfl;obtain ⟨x211, e212, hy100⟩ := bn hy100;obtain ⟨p213, y214, f215, f216, h217⟩ := fz_at (k := .i64) hst h_1 e212 rfl;obtain ⟨x218, e219, hy100⟩ := bn hy100;obtain ⟨p220, _, f222, f223, rfl⟩ := fz_at (k := .i64) hst h217 e219 rfl;have f225 : iaA 2 1 (.ptr p29 0) (.int .i64 1) = some (.ptr p29 1) := by simp [iaA]
        have f226 := bx_ld (i := 1) hst (.tail _ (.tail _ (.head _))) rfl;obtain ⟨x227, e228, hy100⟩ := bn hy100;obtain ⟨p229, y230, f231, f232, h233⟩ := fz_at (k := .i64) hst h_1 e228 rfl;obtain ⟨x234, e235, hy100⟩ := bn hy100;obtain ⟨p236, _, f238, f239, rfl⟩ := fz_at (k := .i64) hst h233 e235 rfl;have f241 : fillA [.int .i64 0, .int .i64 0] [(0, 1, .int .i64 x218), (1, 1, .int .i64 x234)] = some [.int .i64 x218, .int .i64 x234] := by simp [fillA, splice, AV.cells]
        obtain ⟨v242, l243, H244, fg245, W, f247, f248, f249, w246, hst, o250⟩ := ow_lit' (n := 2) (k := 1) (z := [.int .i64 0, .int .i64 0]) (ys := [.agg [.int .i64 x218, .int .i64 x234]]) (M := ([(x218, x234)] : List (Int × Int))) [(0, 2, .agg [.int .i64 x218, .int .i64 x234])] rfl rfl hst (sc_cons (show Rp.rv _ (.agg [.int .i64 x218, .int .i64 x234]) ((x218, x234) : Int × Int) from (mk_ii _ _ _)) (sc_nil)) ((List.forall_mem_cons.2 ⟨(Rp.cells (show Rp.rv W (.agg [.int .i64 x218, .int .i64 x234]) ((x218, x234) : Int × Int) from (mk_ii _ _ _))), fun _ h => (List.not_mem_nil h).elim⟩)) rfl rfl rfl (by decide);replace h_1 := Rp.mono w246 h_1;replace h217 := Rp.mono w246 h217;replace h233 := Rp.mono w246 h233;replace o94 := o94.mono w246;replace o108 := o108.mono w246;obtain ⟨c251, sn252⟩ := ow_sn hst (.head _) o250;obtain ⟨x253, e254, hy100⟩ := bn hy100;replace hst := hst.p1;obtain ⟨v255, H256, fg257, W, f259, w258, hst, o260⟩ := ow_apps [.int .i64 0, .int .i64 0] rfl hst o108 sn252 e254;replace h_1 := Rp.mono w258 h_1;replace h217 := Rp.mono w258 h217;replace h233 := Rp.mono w258 h233;replace o94 := o94.mono w258;replace o250 := o250.mono w258;refine wpo_seg hp0 21 (fun s H' => s.length = 91 ∧ gt s 0 = v_0 ∧ gt s 1 = v_1 ∧ gt s 2 = .int .i64 side ∧ gt s 3 = v255 ∧ gt s 8 = .ptr p29 0 ∧ gt s 42 = .int .i64 (t.length : Int) ∧ gt s 43 = .int .i64 (k98 : Int) ∧ H256 = H') (by simp (maxSteps := 1000000) only [↓runs, isCall, ↓reduceIte, ↓gd_true, ↓gd_false, evs, AV.cells, Nat.reduceEqDiff, Nat.reduceLT, reduceCtorEq, Nat.reduceAdd, sy, f209, f210, f215, f216, f222, f223, f225, f226, f231, f232, f238, f239, f241, f247, f248, f249, f259, g0, g1, g2, g3, g8, g11, g42, g43, g69, hl]) ?_;rintro s _ ⟨hl, g0, g1, g2, g3, g8, g42, g43, rfl⟩;refine wpo_nil ?_;refine rnd_n ?_;obtain rfl := Option.some.inj hy100;replace hst := hst.p1;replace hst := hst.drop;replace hst := hst.p2;replace hst := hst.p2;replace hst := hst.p2;exact ⟨hl, g43, g42, ⟨W, _, _, hl, g3, g0, g1, g2, g8, ((w105.trans w246).trans w258), hst, o260⟩⟩
       ·replace hy100 := ifF c208 hy100;refine AM.wp_condF (by simp only [ev_t, ev_c, g69, c208]) ?_;refine AM.wp_skip ?_;refine rnd_n ?_;obtain rfl := Option.some.inj hy100;replace hst := hst.p2;replace hst := hst.p2;replace hst := hst.p2;exact ⟨hl, g43, g42, ⟨W, _, _, hl, g3, g0, g1, g2, g8, w105, hst, o108⟩⟩
     ·rintro s H hI _;obtain ⟨W, v262, fg263, hl, g3, g0, g1, g2, g8, w261, hst, o264⟩ := hI;replace h_1 := Rp.mono w261 h_1;replace o94 := o94.mono w261;refine blk_n ?_;refine then_n ?_;obtain rfl := Option.some.inj hy5;replace hst := hst.p2;replace hst := hst.drop;replace hst := hst.p1;replace hst := hst.p1;exact ⟨_, rfl, ⟨W, _, _, _, hl, g3, g0, g1, g2, (((w11.trans w31).trans w83).trans w261), hst, o264, o94⟩⟩
  ·replace hy5 := ifF c19 hy5;refine AM.wp_condF (by simp only [ev_t, ev_c, g14, c19]) ?_;refine AM.wp_exit ?_;refine then_x ?_;refine then_x (rnd_c rfl ?_);obtain rfl := Option.some.inj hy5;replace hst := hst.drop;exact ⟨_, rfl, ⟨W, _, hl, w11, hst, o16⟩⟩
 ·rintro x265 s H hz hI;subst hz;dsimp only at hp hI;obtain ⟨W, fg267, hl, w266, hst, o268⟩ := hI;replace h_1 := Rp.mono w266 h_1;obtain rfl := Option.some.inj hp;refine body_norm (vs := []) (by simp only [rvs, f_congr_forest_join, Option.map_some]) ?_;exact ⟨W, w266, _, hst, rfl, o268⟩

end Go.Proofs.Ytmdpejgnkoneoaa.Pu
set_option maxRecDepth 100000
set_option maxHeartbeats 4000000
namespace Go.Proofs.Ytmdpejgnkoneoaa.Pu
open Go Go.AM Go.Proofs.Ytmdpejgnkoneoaa.Code

noncomputable def P_congr_forest_partition_l14 (f : List Int) (k16 : Nat) (x15 : List Int) : Option ((List Int)) :=
 Option.bind (P_congr_forest_findF f (k16 : Int)) fun r28 =>
 Option.bind (si x15 (k16 : Int) r28) fun x34 =>
 some x34
noncomputable def P_congr_forest_partition (f : List Int) : Option ((List Int)) :=
 Option.bind (mkz (α := Int) 8 (f.length : Int) (f.length : Int) 0) fun x3 =>
 Option.bind (forS x3.length (fun k x => P_congr_forest_partition_l14 f k x) x3) fun z20 =>
 Option.bind (P_partition_Canonical z20) fun r49 =>
 some r49
theorem R_congr_forest_partition {G : List Frag} {W H : AH} {v_0 : AV} {g_0 : Frag} {f : List Int} (hst : St (g_0 :: G) W H) (o_0 : OwF W v_0 g_0 f) {r : (List Int)} (hp : P_congr_forest_partition f = some r) :
  wpc E0 N_congr_forest_partition [v_0] H fun rv H' => ∃ W', Wle W W' ∧ ∃ (g0 : Frag), ∃ (gi0 : Frag), St (g0 :: gi0 :: G) W' H' ∧ OwS W' rv g0 (r : List Int) ∧ OwF W' v_0 gi0 f := by
 refine enterN (F := f_congr_forest_partition) rfl (Nat.le_of_ble_eq_true rfl) fun s hl hg => ?_;replace hl : s.length = 22 := hl;have g0 : gt s 0 = v_0 := hg 0 (Nat.le_of_ble_eq_true rfl);clear hg;unfold P_congr_forest_partition at hp;show wp E0 c_congr_forest_partition s H _;unfold c_congr_forest_partition;refine AM.wp_seq hp0 (AM.wp_reg hp0 ?_);refine wpo_seg hp0 1 (fun s H' => s.length = 22 ∧ gt s 0 = v_0 ∧ H = H') (by simp only [↓runs, isCall, ↓reduceIte, ↓gd_true, ↓gd_false, evs, AV.cells, Nat.reduceEqDiff, Nat.reduceLT, reduceCtorEq, Nat.reduceAdd, sy, g0, hl]) ?_;rintro s _ ⟨hl, g0, rfl⟩;refine wpo_nil (then_n ?_);refine AM.wp_seq hp0 (AM.wp_reg hp0 ?_);have f1 := of_ln o_0;have b2 := of_big o_0;obtain ⟨x3, e4, hp⟩ := bn hp;obtain ⟨v5, H6, fg7, W, f10, w9, hst, o11⟩ := ow_mk (kn := .i64) (kc := .i64) hst (show Rp.rv _ (.int .i64 0) (0 : Int) from rfl) [.int .i64 0] rfl e4;replace o_0 := o_0.mono w9;refine wpo_seg hp0 4 (fun s H' => s.length = 22 ∧ gt s 0 = v_0 ∧ gt s 3 = v5 ∧ H6 = H') (by simp only [↓runs, isCall, ↓reduceIte, ↓gd_true, ↓gd_false, evs, AV.cells, Nat.reduceEqDiff, Nat.reduceLT, reduceCtorEq, Nat.reduceAdd, sy, f1, f10, g0, hl]) ?_;rintro s _ ⟨hl, g0, g3, rfl⟩;refine wpo_nil (then_n ?_);refine AM.wp_seq hp0 (AM.wp_seq hp0 (AM.wp_reg hp0 ?_));have f12 := ow_ln o11;have b13 := ow_big o11;refine wpo_seg hp0 3 (fun s H' => s.length = 22 ∧ gt s 0 = v_0 ∧ gt s 3 = v5 ∧ gt s 9 = .int .i64 (x3.length : Int) ∧ gt s 10 = .int .i64 0 ∧ H6 = H') (by simp only [↓runs, isCall, ↓reduceIte, ↓gd_true, ↓gd_false, evs, AV.cells, Nat.reduceEqDiff, Nat.reduceLT, reduceCtorEq, Nat.reduceAdd, sy, f12, g0, g3, hl]) ?_;rintro s _ ⟨hl, g0, g3, g9, g10, rfl⟩;refine wpo_nil (then_n ?_);obtain ⟨z20, e21, hp⟩ := bn hp;refine rangeS_ref hp0 22 x3.length (fun k x => P_congr_forest_partition_l14 f k x) (fun _ x s H' => ∃ (W' : AH) (qo2 : Frag) (qo1 : Frag), s.length = 22 ∧ gt s 0 = v_0 ∧ gt s 3 = v5 ∧  Wle W W' ∧ St (qo2 :: qo1 :: G) W' H' ∧ OwS W' v5 qo2 (x : List Int) ∧ OwF W' v_0 qo1 (f : List Int)) e21 (b13) rfl ?_ ?_ hl g10 g9 ?_ ?_
 ·intro k x s H d v hd h; rcases hd with rfl | rfl | rfl <;> simpa only [gt_other, pt_length, Nat.reduceEqDiff, not_false_eq_true] using h
 ·replace hst := hst.p1;replace hst := hst.p1;exact ⟨W, _, _, hl, g0, g3, .refl _, hst, o11, o_0⟩
 ·intro k16 x15 y17 s H hk hI hl g10 g9 hy18;change P_congr_forest_partition_l14 f k16 x15 = some y17 at hy18;unfold P_congr_forest_partition_l14 at hy18;obtain ⟨W, fg24, fg26, hl, g0, g3, w23, hst, o25, o27⟩ := hI;refine AM.wp_seq hp0 (AM.wp_reg hp0 ?_);refine wpo_seg hp0 2 (fun s H' => s.length = 22 ∧ gt s 0 = v_0 ∧ gt s 3 = v5 ∧ gt s 4 = .int .i64 (k16 : Int) ∧ gt s 9 = .int .i64 (x3.length : Int) ∧ gt s 10 = .int .i64 (k16 : Int) ∧ H = H') (by simp only [↓runs, isCall, ↓reduceIte, ↓gd_true, ↓gd_false, evs, AV.cells, Nat.reduceEqDiff, Nat.reduceLT, reduceCtorEq, Nat.reduceAdd, sy, g0, g3, g9, g10, hl]) ?_;rintro s _ ⟨hl, g0, g3, g4, g9, g10, rfl⟩;refine wpo_nil (then_n ?_);refine AM.wp_reg hp0 ?_;refine wpo_seg hp0 4 (fun s H' => s.length = 22 ∧ gt s 0 = v_0 ∧ gt s 3 = v5 ∧ gt s 9 = .int .i64 (x3.length : Int) ∧ gt s 10 = .int .i64 (k16 : Int) ∧ gt s 13 = v5 ∧ gt s 14 = .int .i64 (k16 : Int) ∧ gt s 15 = v_0 ∧ gt s 16 = .int .i64 (k16 : Int) ∧ H = H') (by simp only [↓runs, isCall, ↓reduceIte, ↓gd_true, ↓gd_false, evs, AV.cells, Nat.reduceEqDiff, Nat.reduceLT, reduceCtorEq, Nat.reduceAdd, sy, g0, g3, g4, g9, g10, hl]) ?_;rintro s _ ⟨hl, g0, g3, g9, g10, g13, g14, g15, g16, rfl⟩;obtain ⟨r28, e29, hy18⟩ := bn hy18;replace hst := hst.p1;refine wpo_callK hp0 rfl (ys := [v_0, .int .i64 (k16 : Int)]) (by simp only [evs, List.map_cons, List.map_nil, ev_t, ev_c, g15, g16]) (R_congr_forest_findF hst o27 e29) ?_;rintro rv30 H ⟨W, w31, fg32, hst, rfl, o33⟩;replace o25 := o25.mono w31;obtain ⟨x34, e35, hy18⟩ := bn hy18;replace hst := hst.p1;obtain ⟨p36, H37, fg38, f39, f40, hst, o41⟩ := ow_set (k := .i64) 1 rfl hst o25 (show Rp.rv W (.int .i64 r28) (r28 : Int) from rfl) e35;refine wpo_seg hp0 2 (fun s H' => s.length = 22 ∧ gt s 0 = v_0 ∧ gt s 3 = v5 ∧ gt s 9 = .int .i64 (x3.length : Int) ∧ gt s 10 = .int .i64 (k16 : Int) ∧ H37 = H') (by simp only [↓runs, isCall, ↓reduceIte, ↓gd_true, ↓gd_false, evs, AV.cells, Nat.reduceEqDiff, Nat.reduceLT, reduceCtorEq, Nat.reduceAdd, sy, gt_other, f39, f40, g0, g3, g9, g10, g13, g14, g15, g16, hl]) ?_;rintro s _ ⟨hl, g0, g3, g9, g10, rfl⟩;refine wpo_nil ?_;refine rnd_n ?_;obtain rfl := Option.some.inj hy18;replace hst := hst.p1;replace hst := hst.p1;exact ⟨hl, g10, g9, ⟨W, _, _, hl, g0, g3, (w23.trans w31), hst, o41, o33⟩⟩
 ·rintro s H hI _;obtain ⟨W, fg43, fg45, hl, g0, g3, w42, hst, o44, o46⟩ := hI;refine then_n ?_;refine AM.wp_seq hp0 (AM.wp_reg hp0 ?_);refine wpo_seg hp0 1 (fun s H' => s.length = 22 ∧ gt s 20 = v5 ∧ H = H') (by simp only [↓runs, isCall, ↓reduceIte, ↓gd_true, ↓gd_false, evs, AV.cells, Nat.reduceEqDiff, Nat.reduceLT, reduceCtorEq, Nat.reduceAdd, sy, g0, g3, hl]) ?_;rintro s _ ⟨hl, g20, rfl⟩;obtain ⟨W, w48, hst, h47⟩ := ow_frz hst o44;replace o46 := o46.mono w48;obtain ⟨r49, e50, hp⟩ := bn hp;refine wpo_callK hp0 rfl (ys := [v5]) (by simp only [evs, List.map_cons, List.map_nil, ev_t, ev_c, g20]) (R_partition_Canonical hst h47 e50) ?_;rintro rv51 H ⟨W, w52, fg53, hst, o54⟩;replace h47 := Rp.mono w52 h47;replace o46 := o46.mono w52;refine wpo_seg hp0 1 (fun s H' => s.length = 22 ∧ gt s 2 = rv51 ∧ H = H') (by simp only [↓runs, isCall, ↓reduceIte, ↓gd_true, ↓gd_false, evs, AV.cells, Nat.reduceEqDiff, Nat.reduceLT, reduceCtorEq, Nat.reduceAdd, sy, gt_other, g20, hl]) ?_;rintro s _ ⟨hl, g2, rfl⟩;refine wpo_nil (then_n ?_);refine AM.wp_ret ?_;obtain rfl := Option.some.inj hp;replace hst := hst.p1;replace hst := hst.p1;refine body_ret (vs := [rv51]) (by simp only [rvs, f_congr_forest_partition, Option.map_some, g2]) ?_;exact ⟨W, (((w9.trans w42).trans w48).trans w52), _, _, hst, o54, o46⟩

end Go.Proofs.Ytmdpejgnkoneoaa.Pu
set_option maxRecDepth 100000
set_option maxHeartbeats 4000000
namespace Go.Proofs.Ytmdpejgnkoneoaa.Pu
open Go Go.AM Go.Proofs.Ytmdpejgnkoneoaa.Code

noncomputable def P_congr_generated (t : List (List Int)) (pairs : List (Int × Int)) (side : Int) : Option ((List Int)) :=
 Option.bind (P_partition_Discrete (t.length : Int)) fun r2 =>
 Option.bind (pus 16 [] pairs) fun x19 =>
 Option.bind (fnew r2) fun x27 =>
 Option.bind (P_congr_forest_join x27 t side x19) fun r30 =>
 Option.bind (P_congr_forest_partition r30) fun r36 =>
 some r36
theorem R_congr_generated {G : List Frag} {W H : AH} {v_0 v_1 : AV} {t : List (List Int)} {pairs : List (Int × Int)} {side : Int} (hst : St G W H) (h_0 : Rp.rv W v_0 t) (h_1 : Rp.rv W v_1 pairs) {r : (List Int)} (hp : P_congr_generated t pairs side = some r) :
  wpc E0 N_congr_generated [v_0, v_1, .int .i64 side] H fun rv H' => ∃ W', Wle W W' ∧ ∃ (g0 : Frag), St (g0 :: G) W' H' ∧ OwS W' rv g0 (r : List Int) := by
 refine enterN (F := f_congr_generated) rfl (Nat.le_of_ble_eq_true rfl) fun s hl hg => ?_;replace hl : s.length = 20 := hl;have g0 : gt s 0 = v_0 := hg 0 (Nat.le_of_ble_eq_true rfl);have g1 : gt s 1 = v_1 := hg 1 (Nat.le_of_ble_eq_true rfl);have g2 : gt s 2 = .int .i64 side := hg 2 (Nat.le_of_ble_eq_true rfl);clear hg;unfold P_congr_generated at hp;show wp E0 c_congr_generated s H _;unfold c_congr_generated;refine AM.wp_seq hp0 (AM.wp_reg hp0 ?_);refine wpo_seg hp0 1 (fun s H' => s.length = 20 ∧ gt s 0 = v_0 ∧ gt s 1 = v_1 ∧ gt s 2 = .int .i64 side ∧ H = H') (by simp only [↓runs, isCall, ↓reduceIte, ↓gd_true, ↓gd_false, evs, AV.cells, Nat.reduceEqDiff, Nat.reduceLT, reduceCtorEq, Nat.reduceAdd, sy, g0, g1, g2, hl]) ?_;rintro s _ ⟨hl, g0, g1, g2, rfl⟩;refine wpo_nil (then_n ?_);refine AM.wp_seq hp0 (AM.wp_reg hp0 ?_);have f1 := fz_ln h_0;refine wpo_seg hp0 2 (fun s H' => s.length = 20 ∧ gt s 0 = v_0 ∧ gt s 1 = v_1 ∧ gt s 2 = .int .i64 side ∧ gt s 9 = .int .i64 (t.length : Int) ∧ H = H') (by simp only [↓runs, isCall, ↓reduceIte, ↓gd_true, ↓gd_false, evs, AV.cells, Nat.reduceEqDiff, Nat.reduceLT, reduceCtorEq, Nat.reduceAdd, sy, f1, g0, g1, g2, hl]) ?_;rintro s _ ⟨hl, g0, g1, g2, g9, rfl⟩;obtain ⟨r2, e3, hp⟩ := bn hp;refine wpo_callK hp0 rfl (ys := [.int .i64 (t.length : Int)]) (by simp only [evs, List.map_cons, List.map_nil, ev_t, ev_c, g9]) (R_partition_Discrete hst e3) ?_;rintro rv4 H ⟨W, w5, fg6, hst, o7⟩;replace h_0 := Rp.mono w5 h_0;replace h_1 := Rp.mono w5 h_1;refine wpo_seg hp0 1 (fun s H' => s.length = 20 ∧ gt s 0 = v_0 ∧ gt s 1 = v_1 ∧ gt s 2 = .int .i64 side ∧ gt s 7 = rv4 ∧ H = H') (by simp only [↓runs, isCall, ↓reduceIte, ↓gd_true, ↓gd_false, evs, AV.cells, Nat.reduceEqDiff, Nat.reduceLT, reduceCtorEq, Nat.reduceAdd, sy, gt_other, g0, g1, g2, g9, hl]) ?_;rintro s _ ⟨hl, g0, g1, g2, g7, rfl⟩;refine wpo_nil (then_n ?_);refine AM.wp_seq hp0 (AM.wp_reg hp0 ?_);obtain ⟨v8, l9, H10, fg11, W, f13, f14, f15, w12, hst, o16⟩ := ow_lit' (n := 2) (k := 0) (z := []) (ys := []) (M := ([] : List (Int × Int))) [] rfl rfl hst (sc_nil) ( fun _ h => (List.not_mem_nil h).elim) rfl rfl rfl (by decide);replace h_0 := Rp.mono w12 h_0;replace h_1 := Rp.mono w12 h_1;replace o7 := o7.mono w12;obtain ⟨c17, sn18⟩ := fz_sn hst h_1;obtain ⟨x19, e20, hp⟩ := bn hp;obtain ⟨v21, H22, fg23, W, f25, w24, hst, o26⟩ := ow_apps [.int .i64 0, .int .i64 0] rfl hst o16 sn18 e20;replace h_0 := Rp.mono w24 h_0;replace h_1 := Rp.mono w24 h_1;replace o7 := o7.mono w24;refine wpo_seg hp0 6 (fun s H' => s.length = 20 ∧ gt s 7 = rv4 ∧ gt s 11 = rv4 ∧ gt s 12 = v_0 ∧ gt s 13 = .int .i64 side ∧ gt s 16 = v21 ∧ H22 = H') (by simp only [↓runs, isCall, ↓reduceIte, ↓gd_true, ↓gd_false, evs, AV.cells, Nat.reduceEqDiff, Nat.reduceLT, reduceCtorEq, Nat.reduceAdd, sy, f13, f14, f15, f25, g0, g1, g2, g7, hl]) ?_;rintro s _ ⟨hl, g7, g11, g12, g13, g16, rfl⟩;obtain ⟨x27, e28, hp⟩ := bn hp;have o29 := of_new o7 e28;obtain ⟨r30, e31, hp⟩ := bn hp;replace hst := hst.p1;refine wpo_callK hp0 rfl (ys := [rv4, v_0, .int .i64 side, v21]) (by simp only [evs, List.map_cons, List.map_nil, ev_t, ev_c, g11, g12, g13, g16]) (R_congr_forest_join hst o29 h_0 o26 e31) ?_;rintro rv32 H ⟨W, w33, fg34, hst, rfl, o35⟩;replace h_0 := Rp.mono w33 h_0;replace h_1 := Rp.mono w33 h_1;refine wpo_seg hp0 0 (fun s H' => s.length = 20 ∧ gt s 7 = rv4 ∧ H = H') (by simp only [↓runs, isCall, ↓reduceIte, ↓gd_true, ↓gd_false, evs, AV.cells, Nat.reduceEqDiff, Nat.reduceLT, reduceCtorEq, Nat.reduceAdd, sy, gt_other, g7, g11, g12, g13, g16, hl]) ?_;rintro s _ ⟨hl, g7, rfl⟩;refine wpo_nil (then_n ?_);refine AM.wp_seq hp0 (AM.wp_reg hp0 ?_);refine wpo_seg hp0 1 (fun s H' => s.length = 20 ∧ gt s 18 = rv4 ∧ H = H') (by simp only [↓runs, isCall, ↓reduceIte, ↓gd_true, ↓gd_false, evs, AV.cells, Nat.reduceEqDiff, Nat.reduceLT, reduceCtorEq, Nat.reduceAdd, sy, g7, hl]) ?_;rintro s _ ⟨hl, g18, rfl⟩;obtain ⟨r36, e37, hp⟩ := bn hp;refine wpo_callK hp0 rfl (ys := [rv4]) (by simp only [evs, List.map_cons, List.map_nil, ev_t, ev_c, g18]) (R_congr_forest_partition hst o35 e37) ?_;rintro rv38 H ⟨W, w39, fg40, fg42, hst, o41, o43⟩;replace h_0 := Rp.mono w39 h_0;replace h_1 := Rp.mono w39 h_1;refine wpo_seg hp0 1 (fun s H' => s.length = 20 ∧ gt s 6 = rv38 ∧ H = H') (by simp only [↓runs, isCall, ↓reduceIte, ↓gd_true, ↓gd_false, evs, AV.cells, Nat.reduceEqDiff, Nat.reduceLT, reduceCtorEq, Nat.reduceAdd, sy, gt_other, g18, hl]) ?_;rintro s _ ⟨hl, g6, rfl⟩;refine wpo_nil (then_n ?_);refine AM.wp_ret ?_;obtain rfl := Option.some.inj hp;replace hst := hst.p1;replace hst := hst.drop;refine body_ret (vs := [rv38]) (by simp only [rvs, f_congr_generated, Option.map_some, g6]) ?_;exact ⟨W, ((((w5.trans w12).trans w24).trans w33).trans w39), _, hst, o41⟩

end Go.Proofs.Ytmdpejgnkoneoaa.Pu
