/- Part 9 of the proof that the law SubdirectTurned holds: words and lemmas it rests on. No condition. -/
import Derived.Test.YtmdpejgnkoneoaaT5
import Derived.Test.YtmdpejgnkoneoaaT8
import Derived.Test.YtmdpejgnkoneoaaT6
import Derived.Test.YtmdpejgnkoneoaaT7
set_option linter.unusedSimpArgs false
set_option linter.unusedVariables false
set_option linter.unnecessarySimpa false
set_option linter.unusedSectionVars false
set_option maxRecDepth 100000
set_option maxHeartbeats 4000000
namespace Go.Proofs.Ytmdpejgnkoneoaa.Pu
open Go Go.AM Go.Proofs.Ytmdpejgnkoneoaa.Code

noncomputable def P_semigroupref03_Less_l1 (a : List Int) (b_ : List Int) (x2 : Int) : Option (Lp (Int) (Bool)) :=
 Option.bind (
  if decide (x2 < (a.length : Int)) then
   some (decide (x2 < (b_.length : Int)))
  else
   some false) fun z11 =>
 if z11 then
  Option.bind (gi a x2) fun x19 =>
  Option.bind (gi b_ x2) fun x26 =>
  if !decide (x19 = x26) then
   some (.ex (decide (x19 < x26)))
  else
   some (.go (w64 (x2 + 1)))
 else
  some (.br x2)
noncomputable def P_semigroupref03_Less (a : List Int) (b_ : List Int) : Option (Bool) :=
 Option.bind (loopO (fun x => P_semigroupref03_Less_l1 a b_ x) 0) fun z7 =>
 match z7 with
 | .inl x34 =>
  some (decide ((a.length : Int) < (b_.length : Int)))
 | .inr b => some b
theorem R_semigroupref03_Less {G : List Frag} {W H : AH} {v_0 v_1 : AV} {a : List Int} {b_ : List Int} (hst : St G W H) (h_0 : Rp.rv W v_0 a) (h_1 : Rp.rv W v_1 b_) {r : Bool} (hp : P_semigroupref03_Less a b_ = some r) :
  wpc E0 N_semigroupref03_Less [v_0, v_1] H fun rv H' => ∃ W', Wle W W' ∧ St G W' H' ∧ rv = .bool r := by
 refine enterN (F := f_semigroupref03_Less) rfl (Nat.le_of_ble_eq_true rfl) fun s hl hg => ?_;replace hl : s.length = 41 := hl;have g0 : gt s 0 = v_0 := hg 0 (Nat.le_of_ble_eq_true rfl);have g1 : gt s 1 = v_1 := hg 1 (Nat.le_of_ble_eq_true rfl);clear hg;unfold P_semigroupref03_Less at hp;show wp E0 c_semigroupref03_Less s H _;unfold c_semigroupref03_Less;refine AM.wp_seq hp0 (AM.wp_reg hp0 ?_);refine wpo_seg hp0 1 (fun s H' => s.length = 41 ∧ gt s 0 = v_0 ∧ gt s 1 = v_1 ∧ H = H') (by simp only [↓runs, isCall, ↓reduceIte, ↓gd_true, ↓gd_false, evs, AV.cells, Nat.reduceEqDiff, Nat.reduceLT, reduceCtorEq, Nat.reduceAdd, sy, g0, g1, hl]) ?_;rintro s _ ⟨hl, g0, g1, rfl⟩;refine wpo_nil (then_n ?_);refine AM.wp_seq hp0 (AM.wp_seq hp0 (AM.wp_reg hp0 ?_));refine wpo_seg hp0 1 (fun s H' => s.length = 41 ∧ gt s 0 = v_0 ∧ gt s 1 = v_1 ∧ gt s 5 = .int .i64 0 ∧ H = H') (by simp only [↓runs, isCall, ↓reduceIte, ↓gd_true, ↓gd_false, evs, AV.cells, Nat.reduceEqDiff, Nat.reduceLT, reduceCtorEq, Nat.reduceAdd, sy, g0, g1, hl]) ?_;rintro s _ ⟨hl, g0, g1, g5, rfl⟩;refine wpo_nil (then_n ?_);obtain ⟨z7, e8, hp⟩ := bn hp;refine loop_ref hp0 (fun x => P_semigroupref03_Less_l1 a b_ x) (fun x s H' => s.length = 41 ∧ gt s 5 = .int .i64 x ∧ gt s 0 = v_0 ∧ gt s 1 = v_1 ∧ H = H') (fun x s H' => s.length = 41 ∧ gt s 0 = v_0 ∧ gt s 1 = v_1 ∧ H = H') e8 ?_ ?_ ?_
 ·exact ⟨hl, g5, g0, g1, rfl⟩
 ·intro x2 y4 s H hI hy5 hx6;change P_semigroupref03_Less_l1 a b_ x2 = some y4 at hy5;unfold P_semigroupref03_Less_l1 at hy5;obtain ⟨hl, g5, g0, g1, rfl⟩ := hI;refine AM.wp_seq hp0 (AM.wp_seq hp0 ?_);obtain ⟨z11, hj12, hy5⟩ := bn hy5;refine AM.wp_regK hp0 (fun s H' => s.length = 41 ∧ gt s 15 = .bool z11 ∧ gt s 0 = v_0 ∧ gt s 1 = v_1 ∧ gt s 5 = .int .i64 x2 ∧ H = H') ?_ ?_
  ·have f13 := fz_ln h_0;rcases Bool.eq_false_or_eq_true (decide (x2 < (a.length : Int))) with c14 | c14
   ·replace hj12 := ifT c14 hj12;have f15 := fz_ln h_1;refine wpo_seg hp0 10 (fun s H' => s.length = 41 ∧ gt s 0 = v_0 ∧ gt s 1 = v_1 ∧ gt s 5 = .int .i64 x2 ∧ gt s 15 = .bool (decide (x2 < (b_.length : Int))) ∧ H = H') (by simp only [↓runs, isCall, ↓reduceIte, ↓gd_true, ↓gd_false, evs, AV.cells, Nat.reduceEqDiff, Nat.reduceLT, reduceCtorEq, Nat.reduceAdd, sy, f13, c14, f15, g0, g1, g5, hl]) ?_;rintro s _ ⟨hl, g0, g1, g5, g15, rfl⟩;refine wpo_nil ?_;obtain rfl := Option.some.inj hj12;exact ⟨hl, g15, g0, g1, g5, rfl⟩
   ·replace hj12 := ifF c14 hj12;refine wpo_seg hp0 10 (fun s H' => s.length = 41 ∧ gt s 0 = v_0 ∧ gt s 1 = v_1 ∧ gt s 5 = .int .i64 x2 ∧ gt s 15 = .bool false ∧ H = H') (by simp only [↓runs, isCall, ↓reduceIte, ↓gd_true, ↓gd_false, evs, AV.cells, Nat.reduceEqDiff, Nat.reduceLT, reduceCtorEq, Nat.reduceAdd, sy, f13, c14, g0, g1, g5, hl]) ?_;rintro s _ ⟨hl, g0, g1, g5, g15, rfl⟩;refine wpo_nil ?_;obtain rfl := Option.some.inj hj12;exact ⟨hl, g15, g0, g1, g5, rfl⟩
  ·rintro s _ ⟨hl, g15, g0, g1, g5, rfl⟩;refine then_n ?_;rcases Bool.eq_false_or_eq_true (z11) with c18 | c18
   ·replace hy5 := ifT c18 hy5;refine AM.wp_condT (by simp only [ev_t, ev_c, g15, c18]) ?_;refine AM.wp_skip ?_;refine then_n ?_;refine AM.wp_seq hp0 ?_;refine AM.wp_block ?_;refine AM.wp_seq hp0 (AM.wp_reg hp0 ?_);obtain ⟨x19, e20, hy5⟩ := bn hy5;obtain ⟨p21, _, f23, f24, rfl⟩ := fz_at (k := .i64) hst h_0 e20 rfl;obtain ⟨x26, e27, hy5⟩ := bn hy5;obtain ⟨p28, _, f30, f31, rfl⟩ := fz_at (k := .i64) hst h_1 e27 rfl;refine wpo_seg hp0 9 (fun s H' => s.length = 41 ∧ gt s 0 = v_0 ∧ gt s 1 = v_1 ∧ gt s 5 = .int .i64 x2 ∧ gt s 26 = .bool (!decide (x19 = x26)) ∧ H = H') (by simp only [↓runs, isCall, ↓reduceIte, ↓gd_true, ↓gd_false, evs, AV.cells, Nat.reduceEqDiff, Nat.reduceLT, reduceCtorEq, Nat.reduceAdd, sy, f23, f24, f30, f31, g0, g1, g5, g15, hl]) ?_;rintro s _ ⟨hl, g0, g1, g5, g26, rfl⟩;refine wpo_nil (then_n ?_);rcases Bool.eq_false_or_eq_true (!decide (x19 = x26)) with c33 | c33
    ·replace hy5 := ifT c33 hy5;refine AM.wp_condT (by simp only [ev_t, ev_c, g26, c33]) ?_;refine AM.wp_seq hp0 (AM.wp_reg hp0 ?_);refine wpo_seg hp0 10 (fun s H' => s.length = 41 ∧ gt s 4 = .bool (decide (x19 < x26)) ∧ H = H') (by simp only [↓runs, isCall, ↓reduceIte, ↓gd_true, ↓gd_false, evs, AV.cells, Nat.reduceEqDiff, Nat.reduceLT, reduceCtorEq, Nat.reduceAdd, sy, f23, f24, f30, f31, g0, g1, g5, g26, hl]) ?_;rintro s _ ⟨hl, g4, rfl⟩;refine wpo_nil (then_n ?_);refine AM.wp_ret ?_;refine blk_r ?_;refine then_r ?_;refine then_r (rnd_r ?_);refine then_r ?_;obtain rfl := Option.some.inj hy5;have hx := hx6 _ rfl;subst hx;dsimp only at hp;obtain rfl := Option.some.inj hp;refine body_ret (vs := [.bool (decide (x19 < x26))]) (by simp only [rvs, f_semigroupref03_Less, Option.map_some, g4]) ?_;exact ⟨W, .refl _, hst, rfl⟩
    ·replace hy5 := ifF c33 hy5;refine AM.wp_condF (by simp only [ev_t, ev_c, g26, c33]) ?_;refine AM.wp_skip ?_;refine blk_n ?_;refine then_n ?_;refine AM.wp_reg hp0 ?_;refine wpo_seg hp0 3 (fun s H' => s.length = 41 ∧ gt s 0 = v_0 ∧ gt s 1 = v_1 ∧ gt s 5 = .int .i64 (w64 (x2 + 1)) ∧ H = H') (by simp only [↓runs, isCall, ↓reduceIte, ↓gd_true, ↓gd_false, evs, AV.cells, Nat.reduceEqDiff, Nat.reduceLT, reduceCtorEq, Nat.reduceAdd, sy, g0, g1, g5, g26, hl]) ?_;rintro s _ ⟨hl, g0, g1, g5, rfl⟩;refine wpo_nil (then_n ?_);obtain rfl := Option.some.inj hy5;exact ⟨_, rfl, ⟨hl, g5, g0, g1, rfl⟩⟩
   ·replace hy5 := ifF c18 hy5;refine AM.wp_condF (by simp only [ev_t, ev_c, g15, c18]) ?_;refine AM.wp_exit ?_;refine then_x ?_;refine then_x (rnd_c rfl ?_);obtain rfl := Option.some.inj hy5;exact ⟨_, rfl, ⟨hl, g0, g1, rfl⟩⟩
 ·rintro x34 s H hz hI;subst hz;dsimp only at hp hI;obtain ⟨hl, g0, g1, rfl⟩ := hI;refine then_n ?_;refine AM.wp_seq hp0 (AM.wp_reg hp0 ?_);have f36 := fz_ln h_0;have f37 := fz_ln h_1;refine wpo_seg hp0 6 (fun s H' => s.length = 41 ∧ gt s 4 = .bool (decide ((a.length : Int) < (b_.length : Int))) ∧ H = H') (by simp only [↓runs, isCall, ↓reduceIte, ↓gd_true, ↓gd_false, evs, AV.cells, Nat.reduceEqDiff, Nat.reduceLT, reduceCtorEq, Nat.reduceAdd, sy, f36, f37, g0, g1, hl]) ?_;rintro s _ ⟨hl, g4, rfl⟩;refine wpo_nil (then_n ?_);refine AM.wp_ret ?_;obtain rfl := Option.some.inj hp;refine body_ret (vs := [.bool (decide ((a.length : Int) < (b_.length : Int)))]) (by simp only [rvs, f_semigroupref03_Less, Option.map_some, g4]) ?_;exact ⟨W, .refl _, hst, rfl⟩

end Go.Proofs.Ytmdpejgnkoneoaa.Pu
set_option maxRecDepth 100000
set_option maxHeartbeats 4000000
namespace Go.Proofs.Ytmdpejgnkoneoaa.Pu
open Go Go.AM Go.Proofs.Ytmdpejgnkoneoaa.Code

noncomputable def P_semigroupref03_InsertRow_l2 (l_ : List (List Int)) (x_ : List Int) (x3 : Int) : Option (Lp (Int) (Empty)) :=
 Option.bind (
  if decide (0 < x3) then
   Option.bind (gi l_ (w64 (x3 - 1))) fun x15 =>
   Option.bind (P_semigroupref03_Less x_ x15) fun r22 =>
   some r22
  else
   some false) fun z12 =>
 if z12 then
  some (.go (w64 (x3 - 1)))
 else
  some (.br x3)
noncomputable def P_semigroupref03_InsertRow (l_ : List (List Int)) (x_ : List Int) : Option ((List (List Int))) :=
 Option.bind (loopO (fun x => P_semigroupref03_InsertRow_l2 l_ x_ x) (l_.length : Int)) fun z8 =>
 match z8 with
 | .inl x28 =>
  Option.bind (
   if decide (0 < x28) then
    Option.bind (gi l_ (w64 (x28 - 1))) fun x33 =>
    Option.bind (P_semigroupref03_Same x33 x_) fun r40 =>
    some r40
   else
    some false) fun z30 =>
  if z30 then
   some l_
  else
   Option.bind (sub l_ none (some x28)) fun x55 =>
   Option.bind (pus 24 [] x55) fun x62 =>
   Option.bind (pus 24 x62 [x_]) fun x81 =>
   Option.bind (sub l_ (some x28) none) fun x89 =>
   Option.bind (pus 24 x81 x89) fun x96 =>
   some x96
 | .inr b => b.elim
theorem R_semigroupref03_InsertRow {G : List Frag} {W H : AH} {v_0 v_1 : AV} {l_ : List (List Int)} {x_ : List Int} (hst : St G W H) (h_0 : Rp.rv W v_0 l_) (h_1 : Rp.rv W v_1 x_) {r : (List (List Int))} (hp : P_semigroupref03_InsertRow l_ x_ = some r) :
  wpc E0 N_semigroupref03_InsertRow [v_0, v_1] H fun rv H' => ∃ W', Wle W W' ∧ St G W' H' ∧ Rp.rv W' rv (r : List (List Int)) := by
 refine enterN (F := f_semigroupref03_InsertRow) rfl (Nat.le_of_ble_eq_true rfl) fun s hl hg => ?_;replace hl : s.length = 45 := hl;have g0 : gt s 0 = v_0 := hg 0 (Nat.le_of_ble_eq_true rfl);have g1 : gt s 1 = v_1 := hg 1 (Nat.le_of_ble_eq_true rfl);clear hg;unfold P_semigroupref03_InsertRow at hp;show wp E0 c_semigroupref03_InsertRow s H _;unfold c_semigroupref03_InsertRow;refine AM.wp_seq hp0 (AM.wp_reg hp0 ?_);refine wpo_seg hp0 1 (fun s H' => s.length = 45 ∧ gt s 0 = v_0 ∧ gt s 1 = v_1 ∧ H = H') (by simp only [↓runs, isCall, ↓reduceIte, ↓gd_true, ↓gd_false, evs, AV.cells, Nat.reduceEqDiff, Nat.reduceLT, reduceCtorEq, Nat.reduceAdd, sy, g0, g1, hl]) ?_;rintro s _ ⟨hl, g0, g1, rfl⟩;refine wpo_nil (then_n ?_);refine AM.wp_seq hp0 (AM.wp_reg hp0 ?_);have f1 := fz_ln h_0;refine wpo_seg hp0 3 (fun s H' => s.length = 45 ∧ gt s 0 = v_0 ∧ gt s 1 = v_1 ∧ gt s 5 = .int .i64 (l_.length : Int) ∧ H = H') (by simp only [↓runs, isCall, ↓reduceIte, ↓gd_true, ↓gd_false, evs, AV.cells, Nat.reduceEqDiff, Nat.reduceLT, reduceCtorEq, Nat.reduceAdd, sy, f1, g0, g1, hl]) ?_;rintro s _ ⟨hl, g0, g1, g5, rfl⟩;refine wpo_nil (then_n ?_);refine AM.wp_seq hp0 ?_;obtain ⟨z8, e9, hp⟩ := bn hp;refine loop_ref hp0 (fun x => P_semigroupref03_InsertRow_l2 l_ x_ x) (fun x s H' => ∃ (W' : AH), s.length = 45 ∧ gt s 5 = .int .i64 x ∧ gt s 0 = v_0 ∧ gt s 1 = v_1 ∧  Wle W W' ∧ St G W' H') (fun x s H' => ∃ (W' : AH), s.length = 45 ∧ gt s 5 = .int .i64 x ∧ gt s 0 = v_0 ∧ gt s 1 = v_1 ∧  Wle W W' ∧ St G W' H') e9 ?_ ?_ ?_
 ·exact ⟨W, hl, g5, g0, g1, .refl _, hst⟩
 ·intro x3 y5 s H hI hy6 hx7;change P_semigroupref03_InsertRow_l2 l_ x_ x3 = some y5 at hy6;unfold P_semigroupref03_InsertRow_l2 at hy6;obtain ⟨W, hl, g5, g0, g1, w11, hst⟩ := hI;replace h_0 := Rp.mono w11 h_0;replace h_1 := Rp.mono w11 h_1;refine AM.wp_seq hp0 (AM.wp_seq hp0 ?_);obtain ⟨z12, hj13, hy6⟩ := bn hy6;refine AM.wp_regK hp0 (fun s H' => ∃ (W' : AH), s.length = 45 ∧ gt s 18 = .bool z12 ∧ gt s 0 = v_0 ∧ gt s 1 = v_1 ∧ gt s 5 = .int .i64 x3 ∧  Wle W W' ∧ St G W' H') ?_ ?_
  ·rcases Bool.eq_false_or_eq_true (decide (0 < x3)) with c14 | c14
   ·replace hj13 := ifT c14 hj13;obtain ⟨x15, e16, hj13⟩ := bn hj13;obtain ⟨p17, y18, f19, f20, h21⟩ := fz_at (k := .i64) hst h_0 e16 rfl;refine wpo_seg hp0 9 (fun s H' => s.length = 45 ∧ gt s 0 = v_0 ∧ gt s 1 = v_1 ∧ gt s 5 = .int .i64 x3 ∧ gt s 10 = .bool true ∧ gt s 11 = v_1 ∧ gt s 16 = y18 ∧ H = H') (by simp only [↓runs, isCall, ↓reduceIte, ↓gd_true, ↓gd_false, evs, AV.cells, Nat.reduceEqDiff, Nat.reduceLT, reduceCtorEq, Nat.reduceAdd, sy, c14, f19, f20, g0, g1, g5, hl]) ?_;rintro s _ ⟨hl, g0, g1, g5, g10, g11, g16, rfl⟩;obtain ⟨r22, e23, hj13⟩ := bn hj13;refine wpo_callK hp0 (by simp only [wanted, g10, beq_self_eq_true]) (ys := [v_1, y18]) (by simp only [evs, List.map_cons, List.map_nil, ev_t, ev_c, g11, g16]) (R_semigroupref03_Less hst h_1 h21 e23) ?_;rintro rv24 H ⟨W, w25, hst, rfl⟩;replace h_0 := Rp.mono w25 h_0;replace h_1 := Rp.mono w25 h_1;replace h21 := Rp.mono w25 h21;refine wpo_seg hp0 1 (fun s H' => s.length = 45 ∧ gt s 0 = v_0 ∧ gt s 1 = v_1 ∧ gt s 5 = .int .i64 x3 ∧ gt s 18 = .bool r22 ∧ H = H') (by simp only [↓runs, isCall, ↓reduceIte, ↓gd_true, ↓gd_false, evs, AV.cells, Nat.reduceEqDiff, Nat.reduceLT, reduceCtorEq, Nat.reduceAdd, sy, gt_other, g0, g1, g5, g10, g11, g16, hl]) ?_;rintro s _ ⟨hl, g0, g1, g5, g18, rfl⟩;refine wpo_nil ?_;obtain rfl := Option.some.inj hj13;exact ⟨W, hl, g18, g0, g1, g5, w25, hst⟩
   ·replace hj13 := ifF c14 hj13;refine wpo_seg hp0 11 (fun s H' => s.length = 45 ∧ gt s 0 = v_0 ∧ gt s 1 = v_1 ∧ gt s 5 = .int .i64 x3 ∧ gt s 18 = .bool false ∧ H = H') (by simp only [↓runs, isCall, ↓reduceIte, ↓gd_true, ↓gd_false, evs, AV.cells, Nat.reduceEqDiff, Nat.reduceLT, reduceCtorEq, Nat.reduceAdd, sy, c14, g0, g1, g5, hl]) ?_;rintro s _ ⟨hl, g0, g1, g5, g18, rfl⟩;refine wpo_nil ?_;obtain rfl := Option.some.inj hj13;exact ⟨W, hl, g18, g0, g1, g5, .refl _, hst⟩
  ·rintro s H ⟨W, hl, g18, g0, g1, g5, w26, hst⟩;replace h_0 := Rp.mono w26 h_0;replace h_1 := Rp.mono w26 h_1;refine then_n ?_;rcases Bool.eq_false_or_eq_true (z12) with c27 | c27
   ·replace hy6 := ifT c27 hy6;refine AM.wp_condT (by simp only [ev_t, ev_c, g18, c27]) ?_;refine AM.wp_skip ?_;refine then_n ?_;refine AM.wp_block ?_;refine AM.wp_reg hp0 ?_;refine wpo_seg hp0 3 (fun s H' => s.length = 45 ∧ gt s 0 = v_0 ∧ gt s 1 = v_1 ∧ gt s 5 = .int .i64 (w64 (x3 - 1)) ∧ H = H') (by simp only [↓runs, isCall, ↓reduceIte, ↓gd_true, ↓gd_false, evs, AV.cells, Nat.reduceEqDiff, Nat.reduceLT, reduceCtorEq, Nat.reduceAdd, sy, g0, g1, g5, g18, hl]) ?_;rintro s _ ⟨hl, g0, g1, g5, rfl⟩;refine wpo_nil ?_;refine blk_n ?_;refine then_n ?_;obtain rfl := Option.some.inj hy6;exact ⟨_, rfl, ⟨W, hl, g5, g0, g1, (w11.trans w26), hst⟩⟩
   ·replace hy6 := ifF c27 hy6;refine AM.wp_condF (by simp only [ev_t, ev_c, g18, c27]) ?_;refine AM.wp_exit ?_;refine then_x ?_;refine then_x (rnd_c rfl ?_);obtain rfl := Option.some.inj hy6;exact ⟨_, rfl, ⟨W, hl, g5, g0, g1, (w11.trans w26), hst⟩⟩
 ·rintro x28 s H hz hI;subst hz;dsimp only at hp hI;obtain ⟨W, hl, g5, g0, g1, w29, hst⟩ := hI;replace h_0 := Rp.mono w29 h_0;replace h_1 := Rp.mono w29 h_1;refine then_n ?_;refine AM.wp_seq hp0 (AM.wp_seq hp0 ?_);obtain ⟨z30, hj31, hp⟩ := bn hp;refine AM.wp_regK hp0 (fun s H' => ∃ (W' : AH), s.length = 45 ∧ gt s 31 = .bool z30 ∧ gt s 0 = v_0 ∧ gt s 1 = v_1 ∧ gt s 5 = .int .i64 x28 ∧  Wle W W' ∧ St G W' H') ?_ ?_
  ·rcases Bool.eq_false_or_eq_true (decide (0 < x28)) with c32 | c32
   ·replace hj31 := ifT c32 hj31;obtain ⟨x33, e34, hj31⟩ := bn hj31;obtain ⟨p35, y36, f37, f38, h39⟩ := fz_at (k := .i64) hst h_0 e34 rfl;refine wpo_seg hp0 9 (fun s H' => s.length = 45 ∧ gt s 0 = v_0 ∧ gt s 1 = v_1 ∧ gt s 5 = .int .i64 x28 ∧ gt s 23 = .bool true ∧ gt s 28 = y36 ∧ gt s 29 = v_1 ∧ H = H') (by simp only [↓runs, isCall, ↓reduceIte, ↓gd_true, ↓gd_false, evs, AV.cells, Nat.reduceEqDiff, Nat.reduceLT, reduceCtorEq, Nat.reduceAdd, sy, c32, f37, f38, g0, g1, g5, hl]) ?_;rintro s _ ⟨hl, g0, g1, g5, g23, g28, g29, rfl⟩;obtain ⟨r40, e41, hj31⟩ := bn hj31;refine wpo_callK hp0 (by simp only [wanted, g23, beq_self_eq_true]) (ys := [y36, v_1]) (by simp only [evs, List.map_cons, List.map_nil, ev_t, ev_c, g28, g29]) (R_semigroupref03_Same hst h39 h_1 e41) ?_;rintro rv42 H ⟨W, w43, hst, rfl⟩;replace h_0 := Rp.mono w43 h_0;replace h_1 := Rp.mono w43 h_1;replace h39 := Rp.mono w43 h39;refine wpo_seg hp0 1 (fun s H' => s.length = 45 ∧ gt s 0 = v_0 ∧ gt s 1 = v_1 ∧ gt s 5 = .int .i64 x28 ∧ gt s 31 = .bool r40 ∧ H = H') (by simp only [↓runs, isCall, ↓reduceIte, ↓gd_true, ↓gd_false, evs, AV.cells, Nat.reduceEqDiff, Nat.reduceLT, reduceCtorEq, Nat.reduceAdd, sy, gt_other, g0, g1, g5, g23, g28, g29, hl]) ?_;rintro s _ ⟨hl, g0, g1, g5, g31, rfl⟩;refine wpo_nil ?_;obtain rfl := Option.some.inj hj31;exact ⟨W, hl, g31, g0, g1, g5, w43, hst⟩
   ·replace hj31 := ifF c32 hj31;refine wpo_seg hp0 11 (fun s H' => s.length = 45 ∧ gt s 0 = v_0 ∧ gt s 1 = v_1 ∧ gt s 5 = .int .i64 x28 ∧ gt s 31 = .bool false ∧ H = H') (by simp only [↓runs, isCall, ↓reduceIte, ↓gd_true, ↓gd_false, evs, AV.cells, Nat.reduceEqDiff, Nat.reduceLT, reduceCtorEq, Nat.reduceAdd, sy, c32, g0, g1, g5, hl]) ?_;rintro s _ ⟨hl, g0, g1, g5, g31, rfl⟩;refine wpo_nil ?_;obtain rfl := Option.some.inj hj31;exact ⟨W, hl, g31, g0, g1, g5, .refl _, hst⟩
  ·rintro s H ⟨W, hl, g31, g0, g1, g5, w44, hst⟩;replace h_0 := Rp.mono w44 h_0;replace h_1 := Rp.mono w44 h_1;refine then_n ?_;rcases Bool.eq_false_or_eq_true (z30) with c45 | c45
   ·replace hp := ifT c45 hp;refine AM.wp_condT (by simp only [ev_t, ev_c, g31, c45]) ?_;refine AM.wp_seq hp0 (AM.wp_reg hp0 ?_);refine wpo_seg hp0 2 (fun s H' => s.length = 45 ∧ gt s 4 = v_0 ∧ H = H') (by simp only [↓runs, isCall, ↓reduceIte, ↓gd_true, ↓gd_false, evs, AV.cells, Nat.reduceEqDiff, Nat.reduceLT, reduceCtorEq, Nat.reduceAdd, sy, g0, g1, g5, g31, hl]) ?_;rintro s _ ⟨hl, g4, rfl⟩;refine wpo_nil (then_n ?_);refine AM.wp_ret ?_;refine then_r ?_;obtain rfl := Option.some.inj hp;refine body_ret (vs := [v_0]) (by simp only [rvs, f_semigroupref03_InsertRow, Option.map_some, g4]) ?_;exact ⟨W, (w29.trans w44), hst, h_0⟩
   ·replace hp := ifF c45 hp;refine AM.wp_condF (by simp only [ev_t, ev_c, g31, c45]) ?_;refine AM.wp_skip ?_;refine then_n ?_;refine AM.wp_seq hp0 ?_;obtain ⟨x55, e56, hp⟩ := bn hp;obtain ⟨x62, e63, hp⟩ := bn hp;obtain ⟨x81, e82, hp⟩ := bn hp;obtain ⟨x89, e90, hp⟩ := bn hp;obtain ⟨x96, e97, hp⟩ := bn hp;refine AM.wp_regsK hp0 (fun s H' => ∃ (W' : AH) (w4 : AV) (q4 : Frag), s.length = 45 ∧ gt s 4 = w4 ∧  Wle W W' ∧ St (q4 :: G) W' H' ∧ OwS W' w4 q4 (x96 : List (List Int))) (by simp) ?_ ?_
    ·intro l hl'; simp only [List.mem_cons, List.not_mem_nil, or_false] at hl';rcases hl' with rfl | rfl | rfl
     ·obtain ⟨v104, l105, H106, fg107, W, f109, f110, f111, w108, hst, o112⟩ := ow_lit' (n := 1) (k := 0) (z := []) (ys := []) (M := ([] : List (List Int))) [] rfl rfl hst (sc_nil) ( fun _ h => (List.not_mem_nil h).elim) rfl rfl rfl (by decide);replace h_0 := Rp.mono w108 h_0;replace h_1 := Rp.mono w108 h_1;obtain ⟨v113, f114, h115⟩ := fz_sub (n := 1) (kl := .i64) (kh := .i64) (lo := none) (hi := (some x28)) rfl h_0 e56 (by simp);simp only [Option.map_some, Option.map_none] at f114;obtain ⟨c116, sn117⟩ := fz_sn hst h115;obtain ⟨v118, H119, fg120, W, f122, w121, hst, o123⟩ := ow_apps [.nils] rfl hst o112 sn117 e63;replace h_0 := Rp.mono w121 h_0;replace h_1 := Rp.mono w121 h_1;replace h115 := Rp.mono w121 h115;obtain ⟨v124, l125, H126, fg127, W, f129, f130, f131, w128, hst, o132⟩ := ow_lit' (n := 1) (k := 1) (z := [.nils]) (ys := [v_1]) (M := ([x_] : List (List Int))) [(0, 1, v_1)] rfl rfl hst (sc_cons (show Rp.rv _ (v_1) (x_ : List Int) from h_1) (sc_nil)) ((List.forall_mem_cons.2 ⟨(Rp.cells (show Rp.rv W (v_1) (x_ : List Int) from h_1)), fun _ h => (List.not_mem_nil h).elim⟩)) rfl rfl rfl (by decide);replace h_0 := Rp.mono w128 h_0;replace h_1 := Rp.mono w128 h_1;replace h115 := Rp.mono w128 h115;replace o123 := o123.mono w128;obtain ⟨c133, sn134⟩ := ow_sn hst (.head _) o132;replace hst := hst.p1;obtain ⟨v135, H136, fg137, W, f139, w138, hst, o140⟩ := ow_apps [.nils] rfl hst o123 sn134 e82;replace h_0 := Rp.mono w138 h_0;replace h_1 := Rp.mono w138 h_1;replace h115 := Rp.mono w138 h115;replace o132 := o132.mono w138;obtain ⟨v141, f142, h143⟩ := fz_sub (n := 1) (kl := .i64) (kh := .i64) (lo := (some x28)) (hi := none) rfl h_0 e90 (by simp);simp only [Option.map_some, Option.map_none] at f142;obtain ⟨c144, sn145⟩ := fz_sn hst h143;obtain ⟨v146, H147, fg148, W, f150, w149, hst, o151⟩ := ow_apps [.nils] rfl hst o140 sn145 e97;replace h_0 := Rp.mono w149 h_0;replace h_1 := Rp.mono w149 h_1;replace h115 := Rp.mono w149 h115;replace h143 := Rp.mono w149 h143;replace o132 := o132.mono w149;refine wpo_seg hp0 13 (fun s H' => s.length = 45 ∧ gt s 4 = v146 ∧ H147 = H') (by simp (maxSteps := 1000000) only [↓runs, isCall, ↓reduceIte, ↓gd_true, ↓gd_false, evs, AV.cells, Nat.reduceEqDiff, Nat.reduceLT, reduceCtorEq, Nat.reduceAdd, sy, f109, f110, f111, f114, f122, f129, f130, f131, f139, f142, f150, g0, g1, g5, g31, hl]) ?_;rintro s _ ⟨hl, g4, rfl⟩;refine wpo_nil ?_;replace hst := hst.p1;replace hst := hst.drop;exact ⟨W, _, _, hl, g4, ((((w108.trans w121).trans w128).trans w138).trans w149), hst, o151⟩
     ·obtain ⟨v152, l153, H154, fg155, W, f157, f158, f159, w156, hst, o160⟩ := ow_lit' (n := 1) (k := 0) (z := []) (ys := []) (M := ([] : List (List Int))) [] rfl rfl hst (sc_nil) ( fun _ h => (List.not_mem_nil h).elim) rfl rfl rfl (by decide);replace h_0 := Rp.mono w156 h_0;replace h_1 := Rp.mono w156 h_1;obtain ⟨v161, f162, h163⟩ := fz_sub (n := 1) (kl := .i64) (kh := .i64) (lo := none) (hi := (some x28)) rfl h_0 e56 (by simp);simp only [Option.map_some, Option.map_none] at f162;obtain ⟨v164, l165, H166, fg167, W, f169, f170, f171, w168, hst, o172⟩ := ow_lit' (n := 1) (k := 1) (z := [.nils]) (ys := [v_1]) (M := ([x_] : List (List Int))) [(0, 1, v_1)] rfl rfl hst (sc_cons (show Rp.rv _ (v_1) (x_ : List Int) from h_1) (sc_nil)) ((List.forall_mem_cons.2 ⟨(Rp.cells (show Rp.rv W (v_1) (x_ : List Int) from h_1)), fun _ h => (List.not_mem_nil h).elim⟩)) rfl rfl rfl (by decide);replace h_0 := Rp.mono w168 h_0;replace h_1 := Rp.mono w168 h_1;replace h163 := Rp.mono w168 h163;replace o160 := o160.mono w168;obtain ⟨c173, sn174⟩ := fz_sn hst h163;replace hst := hst.p1;obtain ⟨v175, H176, fg177, W, f179, w178, hst, o180⟩ := ow_apps [.nils] rfl hst o160 sn174 e63;replace h_0 := Rp.mono w178 h_0;replace h_1 := Rp.mono w178 h_1;replace h163 := Rp.mono w178 h163;replace o172 := o172.mono w178;obtain ⟨c181, sn182⟩ := ow_sn hst (.tail _ (.head _)) o172;obtain ⟨v183, H184, fg185, W, f187, w186, hst, o188⟩ := ow_apps [.nils] rfl hst o180 sn182 e82;replace h_0 := Rp.mono w186 h_0;replace h_1 := Rp.mono w186 h_1;replace h163 := Rp.mono w186 h163;replace o172 := o172.mono w186;obtain ⟨v189, f190, h191⟩ := fz_sub (n := 1) (kl := .i64) (kh := .i64) (lo := (some x28)) (hi := none) rfl h_0 e90 (by simp);simp only [Option.map_some, Option.map_none] at f190;obtain ⟨c192, sn193⟩ := fz_sn hst h191;obtain ⟨v194, H195, fg196, W, f198, w197, hst, o199⟩ := ow_apps [.nils] rfl hst o188 sn193 e97;replace h_0 := Rp.mono w197 h_0;replace h_1 := Rp.mono w197 h_1;replace h163 := Rp.mono w197 h163;replace h191 := Rp.mono w197 h191;replace o172 := o172.mono w197;refine wpo_seg hp0 13 (fun s H' => s.length = 45 ∧ gt s 4 = v194 ∧ H195 = H') (by simp (maxSteps := 1000000) only [↓runs, isCall, ↓reduceIte, ↓gd_true, ↓gd_false, evs, AV.cells, Nat.reduceEqDiff, Nat.reduceLT, reduceCtorEq, Nat.reduceAdd, sy, f157, f158, f159, f162, f169, f170, f171, f179, f187, f190, f198, g0, g1, g5, g31, hl]) ?_;rintro s _ ⟨hl, g4, rfl⟩;refine wpo_nil ?_;replace hst := hst.p1;replace hst := hst.drop;exact ⟨W, _, _, hl, g4, ((((w156.trans w168).trans w178).trans w186).trans w197), hst, o199⟩
     ·obtain ⟨v200, f201, h202⟩ := fz_sub (n := 1) (kl := .i64) (kh := .i64) (lo := none) (hi := (some x28)) rfl h_0 e56 (by simp);simp only [Option.map_some, Option.map_none] at f201;obtain ⟨v203, l204, H205, fg206, W, f208, f209, f210, w207, hst, o211⟩ := ow_lit' (n := 1) (k := 1) (z := [.nils]) (ys := [v_1]) (M := ([x_] : List (List Int))) [(0, 1, v_1)] rfl rfl hst (sc_cons (show Rp.rv _ (v_1) (x_ : List Int) from h_1) (sc_nil)) ((List.forall_mem_cons.2 ⟨(Rp.cells (show Rp.rv W (v_1) (x_ : List Int) from h_1)), fun _ h => (List.not_mem_nil h).elim⟩)) rfl rfl rfl (by decide);replace h_0 := Rp.mono w207 h_0;replace h_1 := Rp.mono w207 h_1;replace h202 := Rp.mono w207 h202;obtain ⟨v212, l213, H214, fg215, W, f217, f218, f219, w216, hst, o220⟩ := ow_lit' (n := 1) (k := 0) (z := []) (ys := []) (M := ([] : List (List Int))) [] rfl rfl hst (sc_nil) ( fun _ h => (List.not_mem_nil h).elim) rfl rfl rfl (by decide);replace h_0 := Rp.mono w216 h_0;replace h_1 := Rp.mono w216 h_1;replace h202 := Rp.mono w216 h202;replace o211 := o211.mono w216;obtain ⟨c221, sn222⟩ := fz_sn hst h202;obtain ⟨v223, H224, fg225, W, f227, w226, hst, o228⟩ := ow_apps [.nils] rfl hst o220 sn222 e63;replace h_0 := Rp.mono w226 h_0;replace h_1 := Rp.mono w226 h_1;replace h202 := Rp.mono w226 h202;replace o211 := o211.mono w226;obtain ⟨c229, sn230⟩ := ow_sn hst (.tail _ (.head _)) o211;obtain ⟨v231, H232, fg233, W, f235, w234, hst, o236⟩ := ow_apps [.nils] rfl hst o228 sn230 e82;replace h_0 := Rp.mono w234 h_0;replace h_1 := Rp.mono w234 h_1;replace h202 := Rp.mono w234 h202;replace o211 := o211.mono w234;obtain ⟨v237, f238, h239⟩ := fz_sub (n := 1) (kl := .i64) (kh := .i64) (lo := (some x28)) (hi := none) rfl h_0 e90 (by simp);simp only [Option.map_some, Option.map_none] at f238;obtain ⟨c240, sn241⟩ := fz_sn hst h239;obtain ⟨v242, H243, fg244, W, f246, w245, hst, o247⟩ := ow_apps [.nils] rfl hst o236 sn241 e97;replace h_0 := Rp.mono w245 h_0;replace h_1 := Rp.mono w245 h_1;replace h202 := Rp.mono w245 h202;replace h239 := Rp.mono w245 h239;replace o211 := o211.mono w245;refine wpo_seg hp0 13 (fun s H' => s.length = 45 ∧ gt s 4 = v242 ∧ H243 = H') (by simp (maxSteps := 1000000) only [↓runs, isCall, ↓reduceIte, ↓gd_true, ↓gd_false, evs, AV.cells, Nat.reduceEqDiff, Nat.reduceLT, reduceCtorEq, Nat.reduceAdd, sy, f201, f208, f209, f210, f217, f218, f219, f227, f235, f238, f246, g0, g1, g5, g31, hl]) ?_;rintro s _ ⟨hl, g4, rfl⟩;refine wpo_nil ?_;replace hst := hst.p1;replace hst := hst.drop;exact ⟨W, _, _, hl, g4, ((((w207.trans w216).trans w226).trans w234).trans w245), hst, o247⟩
    ·rintro s H ⟨W, v249, fg250, hl, g4, w248, hst, o251⟩;refine then_n ?_;refine AM.wp_ret ?_;obtain ⟨W, w253, hst, h252⟩ := ow_frz hst o251;obtain rfl := Option.some.inj hp;refine body_ret (vs := [v249]) (by simp only [rvs, f_semigroupref03_InsertRow, Option.map_some, g4]) ?_;exact ⟨W, (((w29.trans w44).trans w248).trans w253), hst, h252⟩

end Go.Proofs.Ytmdpejgnkoneoaa.Pu
namespace Go.Proofs.Ytmdpejgnkoneoaa.Mt
open Go Go.AM Go.AM.Par Go.AM.Lx Go.Proofs.Ytmdpejgnkoneoaa.Pu

theorem drop_cons {L : List Int} {k : Nat} (h : k < L.length) : L.drop k = L.getD k 0 :: L.drop (k + 1) := drop_getD h
theorem less (a b : List Int) (ha : a.length ≤ 1000000000) : P_semigroupref03_Less a b = some (lexB a b) := by
  have key : ∃ y, loopO (fun x => P_semigroupref03_Less_l1 a b x) 0 = some y ∧ (match y with | .inl _ => decide ((a.length : Int) < (b.length : Int)) = lexB a b | .inr r => r = lexB a b) := by
    refine loop_inv (fun x : Int => ∃ k : Nat, x = k ∧ k ≤ a.length ∧ k ≤ b.length ∧ lexB a b = lexB (a.drop k) (b.drop k)) (fun x => a.length - x.toNat) _ ⟨0, rfl, Nat.zero_le _, Nat.zero_le _, rfl⟩ ?_
    rintro _ ⟨k, rfl, h1, h2, h3⟩
    unfold P_semigroupref03_Less_l1
    by_cases c1 : k < a.length
    · by_cases c2 : k < b.length
      · rw [if_pos (by simp only [decide_eq_true_eq]; omega)]
        simp only [Option.bind_some]
        rw [if_pos (by simp only [decide_eq_true_eq]; omega), gi_lt 0 c1, gi_lt 0 c2]
        simp only [Option.bind_some]
        rw [drop_cons c1, drop_cons c2] at h3
        simp only [lexB] at h3
        by_cases e : a.getD k 0 = b.getD k 0
        · rw [if_pos e] at h3
          rw [if_neg (by simp only [e, decide_true]; decide)]
          have hw : w64 ((k : Int) + 1) = ((k + 1 : Nat) : Int) := by rw [w64_id (by omega) (by omega)]; simp
          refine .inl ⟨_, rfl, ⟨k + 1, hw, by omega, by omega, h3⟩, by rw [hw]; simp; omega⟩
        · rw [if_neg e] at h3
          rw [if_pos (by simp only [e, decide_false]; rfl)]
          exact .inr (.inr ⟨_, rfl, h3.symm⟩)
      · have : b.drop k = [] := List.drop_eq_nil_of_le (by omega)
        rw [if_pos (by simp only [decide_eq_true_eq]; omega)]
        simp only [Option.bind_some]
        rw [if_neg (by simp only [decide_eq_true_eq]; omega)]
        refine .inr (.inl ⟨_, rfl, ?_⟩)
        rw [h3, this, drop_cons c1]
        simp only [lexB, decide_eq_false_iff_not]; omega
    · have e1 : a.drop k = [] := List.drop_eq_nil_of_le (by omega)
      rw [if_neg (by simp only [decide_eq_true_eq]; omega)]
      simp only [Option.bind_some, Bool.false_eq_true, if_false]
      refine .inr (.inl ⟨_, rfl, ?_⟩)
      rw [h3, e1]
      by_cases c2 : k < b.length
      · rw [drop_cons c2]; simp only [lexB, decide_eq_true_eq]; omega
      · rw [List.drop_eq_nil_of_le (Nat.le_of_not_lt c2)]; simp only [lexB, decide_eq_false_iff_not]; omega
  obtain ⟨y, hy, hQ⟩ := key
  unfold P_semigroupref03_Less
  rw [hy]
  cases y with
  | inl x => simp only [Option.bind_some]; rw [show _ = _ from hQ]
  | inr r => simp only [Option.bind_some]; rw [show r = _ from hQ]

theorem sub_from {α : Type} {A B : List α} {i : Int} (h : i = (A.length : Int)) : sub (A ++ B) (some i) none = some B := by
  subst h
  have e : bd (some (A.length : Int)) 0 (A ++ B).length = some A.length := by
    unfold bd; dsimp only; rw [if_pos ⟨by omega, by simp; omega⟩]; simp
  unfold sub
  simp only [bd.eq_1, Option.bind_some]
  rw [e]
  show some ((List.take (A ++ B).length (A ++ B)).drop A.length) = some B
  rw [List.take_length, List.drop_left]
theorem sub_upto {α : Type} {A B : List α} {i : Int} (h : i = (A.length : Int)) : sub (A ++ B) none (some i) = some A := by
  subst h
  have e : bd (some (A.length : Int)) (A ++ B).length (A ++ B).length = some A.length := by
    unfold bd; dsimp only; rw [if_pos ⟨by omega, by simp; omega⟩]; simp
  unfold sub
  rw [e]
  simp [bd]

theorem insertRow {l : List (List Int)} {x : List Int} (hl : Asc l) (hx : x.length ≤ 1000000000) (hn : l.length ≤ 1000000) :
    ∃ r, P_semigroupref03_InsertRow l x = some r ∧ Asc r ∧ (∀ y, y ∈ r ↔ y = x ∨ y ∈ l) ∧ r.length ≤ l.length + 1 := by
  have key : ∃ o, loopO (fun q => P_semigroupref03_InsertRow_l2 l x q) (l.length : Int) = some o ∧ ∃ k : Nat, o = .inl (k : Int) ∧ k ≤ l.length ∧ (∀ y ∈ l.drop k, lexB x y = true) ∧ (0 < k → lexB x (l.getD (k - 1) []) = false) := by
    refine loop_inv (fun q : Int => ∃ k : Nat, q = k ∧ k ≤ l.length ∧ ∀ y ∈ l.drop k, lexB x y = true) (fun q => q.toNat) _ ⟨l.length, rfl, Nat.le_refl _, by simp⟩ ?_
    rintro _ ⟨k, rfl, h1, h2⟩
    unfold P_semigroupref03_InsertRow_l2
    by_cases hk : 0 < k
    · have hw : w64 ((k : Int) - 1) = ((k - 1 : Nat) : Int) := by rw [w64_id (by omega) (by omega)]; omega
      rw [if_pos (by simp only [decide_eq_true_eq]; omega), hw, gi_lt [] (show k - 1 < l.length by omega)]
      simp only [Option.bind_some]
      rw [less _ _ hx]
      simp only [Option.bind_some]
      cases hb : lexB x (l.getD (k - 1) []) with
      | true =>
        refine .inl ⟨_, rfl, ⟨k - 1, rfl, by omega, fun y hy => ?_⟩, by simp; omega⟩
        rw [List.drop_eq_getElem_cons (show k - 1 < l.length by omega)] at hy
        rcases List.mem_cons.1 hy with rfl | hy
        · rw [List.getD_eq_getElem?_getD, List.getElem?_eq_getElem (show k - 1 < l.length by omega), Option.getD_some] at hb
          exact hb
        · rw [show k - 1 + 1 = k by omega] at hy; exact h2 y hy
      | false => exact .inr (.inl ⟨_, rfl, k, rfl, h1, h2, fun _ => hb⟩)
    · rw [if_neg (by simp only [decide_eq_true_eq]; omega)]
      simp only [Option.bind_some, Bool.false_eq_true, if_false]
      exact .inr (.inl ⟨_, rfl, k, rfl, h1, h2, fun h => absurd h hk⟩)
  obtain ⟨o, ho, k, rfl, h1, h2, h3⟩ := key
  unfold P_semigroupref03_InsertRow
  rw [ho]
  simp only [Option.bind_some]
  have hsplit : l = l.take k ++ l.drop k := (List.take_append_drop k l).symm
  have htl : (l.take k).length = k := by simp; omega
  -- the end, if the row is not there
  have fin : (∀ y ∈ l.take k, lexB y x = true) → ∃ r, (Option.bind (sub l none (some (k : Int))) fun a => Option.bind (pus 24 [] a) fun b => Option.bind (pus 24 b [x]) fun c => Option.bind (sub l (some (k : Int)) none) fun d => Option.bind (pus 24 c d) fun e => some e) = some r ∧ Asc r ∧ (∀ y, y ∈ r ↔ y = x ∨ y ∈ l) ∧ r.length ≤ l.length + 1 := fun hlow => by
    have e1 : sub l none (some (k : Int)) = some (l.take k) := by
      have := sub_upto (A := l.take k) (B := l.drop k) (i := (k : Int)) (by rw [htl])
      rwa [← hsplit] at this
    have e2 : sub l (some (k : Int)) none = some (l.drop k) := by
      have := sub_from (A := l.take k) (B := l.drop k) (i := (k : Int)) (by rw [htl])
      rwa [← hsplit] at this
    rw [e1]; simp only [Option.bind_some]
    rw [pus_ok (by simp; omega) (by omega)]; simp only [Option.bind_some, List.nil_append]
    rw [pus_ok (by simp; omega) (by omega)]; simp only [Option.bind_some]
    rw [e2]; simp only [Option.bind_some]
    rw [pus_ok (by simp; omega) (by omega)]; simp only [Option.bind_some]
    refine ⟨_, rfl, ?_, fun y => ?_, by simp; omega⟩
    · rw [List.append_assoc, List.singleton_append]
      exact asc_insert (by rw [← hsplit]; exact hl) hlow h2
    · rw [List.mem_append, List.mem_append, List.mem_singleton]
      conv => rhs; rw [hsplit, List.mem_append]
      constructor
      · rintro ((a | a) | a)
        · exact .inr (.inl a)
        · exact .inl a
        · exact .inr (.inr a)
      · rintro (a | a | a)
        · exact .inl (.inr a)
        · exact .inl (.inl a)
        · exact .inr a
  by_cases hk : 0 < k
  · have hw : w64 ((k : Int) - 1) = ((k - 1 : Nat) : Int) := by rw [w64_id (by omega) (by omega)]; omega
    rw [if_pos (by simp only [decide_eq_true_eq]; omega), hw, gi_lt [] (show k - 1 < l.length by omega)]
    simp only [Option.bind_some]
    rw [same]
    simp only [Option.bind_some]
    have hlast : l.take k = l.take (k - 1) ++ [l.getD (k - 1) []] := by
      have : k = (k - 1) + 1 := by omega
      conv => lhs; rw [this]
      rw [List.take_add_one]; simp [List.getD_eq_getElem?_getD, show k - 1 < l.length by omega]
    by_cases e : l.getD (k - 1) [] = x
    · rw [if_pos (by simp only [e, decide_true])]
      refine ⟨l, rfl, hl, fun y => ⟨.inr, ?_⟩, by omega⟩
      rintro (rfl | h)
      · rw [← e]; exact getD_mem (by omega)
      · exact h
    · rw [if_neg (by simp only [e, decide_false]; exact Bool.false_ne_true)]
      refine fin fun y hy => ?_
      have hl1 : lexB (l.getD (k - 1) []) x = true := by
        rcases lexB_total e with h | h
        · exact h
        · rw [h3 hk] at h; cases h
      have hasc : Asc (l.take k) := List.Pairwise.sublist (List.take_sublist k l) hl
      rw [hlast] at hy hasc
      rcases List.mem_append.1 hy with hy | hy
      · exact lexB_trans ((List.pairwise_append.1 hasc).2.2 y hy _ (by simp)) hl1
      · rw [List.mem_singleton] at hy; rw [hy]; exact hl1
  · rw [if_neg (by simp only [decide_eq_true_eq]; omega)]
    simp only [Option.bind_some, Bool.false_eq_true, if_false]
    have : k = 0 := by omega
    subst this
    exact fin fun y hy => by simp at hy
end Go.Proofs.Ytmdpejgnkoneoaa.Mt
set_option maxRecDepth 100000
set_option maxHeartbeats 4000000
namespace Go.Proofs.Ytmdpejgnkoneoaa.Pu
open Go Go.AM Go.Proofs.Ytmdpejgnkoneoaa.Code

noncomputable def P_subdirect_monolith_l24 (k13 : Nat) (t : List (List Int)) (p32 : List Int) (x33 : Int) : Option (Lp ((List Int) × Int) ((Option (List Int)))) :=
 if decide (x33 < (k13 : Int)) then
  Option.bind (P_congr_Generated t [(x33, (k13 : Int))] 0) fun r51 =>
  Option.bind (P_partition_Meet p32 r51) fun r61 =>
  Option.bind (P_subdirect_discrete r61) fun r68 =>
  if r68 then
   some (.ex none)
  else
   some (.go (r61, w64 (x33 + 1)))
 else
  some (.br (p32, x33))
noncomputable def P_subdirect_monolith_l11 (t : List (List Int)) (k13 : Nat) (x12 : List Int) : Option (Lp ((List Int)) ((Option (List Int)))) :=
 Option.bind (loopO (fun x => P_subdirect_monolith_l24 k13 t x.1 x.2) (x12, 0)) fun z30 =>
 match z30 with
 | .inl x77 =>
  some (.go x77.1)
 | .inr b => some (.ex b)
noncomputable def P_subdirect_monolith (t : List (List Int)) : Option ((Option (List Int))) :=
 if decide ((t.length : Int) < 2) then
  some none
 else
  Option.bind (P_partition_Trivial (t.length : Int)) fun r4 =>
  Option.bind (forR t.length (fun k x => P_subdirect_monolith_l11 t k x) r4) fun z17 =>
  match z17 with
  | .inl x82 =>
   Option.bind (nzl x82) fun x87 =>
   some (some x87)
  | .inr b => some b
theorem R_subdirect_monolith {G : List Frag} {W H : AH} {v_0 : AV} {t : List (List Int)} (hst : St G W H) (h_0 : Rp.rv W v_0 t) {r : (Option (List Int))} (hp : P_subdirect_monolith t = some r) :
  wpc E0 N_subdirect_monolith [v_0] H fun rv H' => ∃ W', Wle W W' ∧ St G W' H' ∧ Rp.rv W' rv (r : Option (List Int)) := by
 refine enterN (F := f_subdirect_monolith) rfl (Nat.le_of_ble_eq_true rfl) fun s hl hg => ?_;replace hl : s.length = 34 := hl;have g0 : gt s 0 = v_0 := hg 0 (Nat.le_of_ble_eq_true rfl);clear hg;unfold P_subdirect_monolith at hp;show wp E0 c_subdirect_monolith s H _;unfold c_subdirect_monolith;refine AM.wp_seq hp0 (AM.wp_reg hp0 ?_);refine wpo_seg hp0 1 (fun s H' => s.length = 34 ∧ gt s 0 = v_0 ∧ H = H') (by simp only [↓runs, isCall, ↓reduceIte, ↓gd_true, ↓gd_false, evs, AV.cells, Nat.reduceEqDiff, Nat.reduceLT, reduceCtorEq, Nat.reduceAdd, sy, g0, hl]) ?_;rintro s _ ⟨hl, g0, rfl⟩;refine wpo_nil (then_n ?_);refine AM.wp_seq hp0 (AM.wp_seq hp0 (AM.wp_reg hp0 ?_));have f1 := fz_ln h_0;refine wpo_seg hp0 3 (fun s H' => s.length = 34 ∧ gt s 0 = v_0 ∧ gt s 8 = .bool (decide ((t.length : Int) < 2)) ∧ H = H') (by simp only [↓runs, isCall, ↓reduceIte, ↓gd_true, ↓gd_false, evs, AV.cells, Nat.reduceEqDiff, Nat.reduceLT, reduceCtorEq, Nat.reduceAdd, sy, f1, g0, hl]) ?_;rintro s _ ⟨hl, g0, g8, rfl⟩;refine wpo_nil (then_n ?_);rcases Bool.eq_false_or_eq_true (decide ((t.length : Int) < 2)) with c2 | c2
 ·replace hp := ifT c2 hp;refine AM.wp_condT (by simp only [ev_t, ev_c, g8, c2]) ?_;refine AM.wp_seq hp0 (AM.wp_reg hp0 ?_);refine wpo_seg hp0 1 (fun s H' => s.length = 34 ∧ gt s 2 = .nils ∧ H = H') (by simp only [↓runs, isCall, ↓reduceIte, ↓gd_true, ↓gd_false, evs, AV.cells, Nat.reduceEqDiff, Nat.reduceLT, reduceCtorEq, Nat.reduceAdd, sy, g0, g8, hl]) ?_;rintro s _ ⟨hl, g2, rfl⟩;refine wpo_nil (then_n ?_);refine AM.wp_ret ?_;refine then_r ?_;obtain rfl := Option.some.inj hp;refine body_ret (vs := [.nils]) (by simp only [rvs, f_subdirect_monolith, Option.map_some, g2]) ?_;exact ⟨W, .refl _, hst, (nl_none _)⟩
 ·replace hp := ifF c2 hp;refine AM.wp_condF (by simp only [ev_t, ev_c, g8, c2]) ?_;refine AM.wp_skip ?_;refine then_n ?_;refine AM.wp_seq hp0 (AM.wp_reg hp0 ?_);have f3 := fz_ln h_0;refine wpo_seg hp0 2 (fun s H' => s.length = 34 ∧ gt s 0 = v_0 ∧ gt s 10 = .int .i64 (t.length : Int) ∧ H = H') (by simp only [↓runs, isCall, ↓reduceIte, ↓gd_true, ↓gd_false, evs, AV.cells, Nat.reduceEqDiff, Nat.reduceLT, reduceCtorEq, Nat.reduceAdd, sy, f3, g0, g8, hl]) ?_;rintro s _ ⟨hl, g0, g10, rfl⟩;obtain ⟨r4, e5, hp⟩ := bn hp;refine wpo_callK hp0 rfl (ys := [.int .i64 (t.length : Int)]) (by simp only [evs, List.map_cons, List.map_nil, ev_t, ev_c, g10]) (R_partition_Trivial hst e5) ?_;rintro rv6 H ⟨W, w7, fg8, hst, o9⟩;replace h_0 := Rp.mono w7 h_0;refine wpo_seg hp0 1 (fun s H' => s.length = 34 ∧ gt s 0 = v_0 ∧ gt s 3 = rv6 ∧ H = H') (by simp only [↓runs, isCall, ↓reduceIte, ↓gd_true, ↓gd_false, evs, AV.cells, Nat.reduceEqDiff, Nat.reduceLT, reduceCtorEq, Nat.reduceAdd, sy, gt_other, g0, g10, hl]) ?_;rintro s _ ⟨hl, g0, g3, rfl⟩;refine wpo_nil (then_n ?_);refine AM.wp_seq hp0 (AM.wp_seq hp0 (AM.wp_reg hp0 ?_));have f10 := fz_ln h_0;refine wpo_seg hp0 3 (fun s H' => s.length = 34 ∧ gt s 0 = v_0 ∧ gt s 3 = rv6 ∧ gt s 13 = .int .i64 (t.length : Int) ∧ gt s 14 = .int .i64 0 ∧ H = H') (by simp only [↓runs, isCall, ↓reduceIte, ↓gd_true, ↓gd_false, evs, AV.cells, Nat.reduceEqDiff, Nat.reduceLT, reduceCtorEq, Nat.reduceAdd, sy, f10, g0, g3, hl]) ?_;rintro s _ ⟨hl, g0, g3, g13, g14, rfl⟩;refine wpo_nil (then_n ?_);obtain ⟨z17, e18, hp⟩ := bn hp;refine range_ref hp0 34 t.length (fun k x => P_subdirect_monolith_l11 t k x) (fun _ x s H' => ∃ (W' : AH) (w3 : AV) (q3 : Frag), s.length = 34 ∧ gt s 3 = w3 ∧ gt s 0 = v_0 ∧  Wle W W' ∧ St (q3 :: G) W' H' ∧ OwS W' w3 q3 (x : List Int)) (fun _ x s H' => ∃ (W' : AH) (w3 : AV) (q3 : Frag), s.length = 34 ∧ gt s 3 = w3 ∧  Wle W W' ∧ St (q3 :: G) W' H' ∧ OwS W' w3 q3 (x : List Int)) e18 (fz_big h_0) rfl ?_ ?_ hl g14 g13 ?_ ?_
  ·intro k x s H d v hd h; rcases hd with rfl | rfl | rfl <;> simpa only [gt_other, pt_length, Nat.reduceEqDiff, not_false_eq_true] using h
  ·exact ⟨W, _, _, hl, g3, g0, .refl _, hst, o9⟩
  ·intro k13 x12 y14 s H hk hI hl g14 g13 hy15 hx16;change P_subdirect_monolith_l11 t k13 x12 = some y14 at hy15;unfold P_subdirect_monolith_l11 at hy15;obtain ⟨W, v21, fg22, hl, g3, g0, w20, hst, o23⟩ := hI;replace h_0 := Rp.mono w20 h_0;refine AM.wp_seq hp0 (AM.wp_reg hp0 ?_);refine wpo_seg hp0 2 (fun s H' => s.length = 34 ∧ gt s 0 = v_0 ∧ gt s 3 = v21 ∧ gt s 4 = .int .i64 (k13 : Int) ∧ gt s 13 = .int .i64 (t.length : Int) ∧ gt s 14 = .int .i64 (k13 : Int) ∧ H = H') (by simp only [↓runs, isCall, ↓reduceIte, ↓gd_true, ↓gd_false, evs, AV.cells, Nat.reduceEqDiff, Nat.reduceLT, reduceCtorEq, Nat.reduceAdd, sy, g0, g3, g13, g14, hl]) ?_;rintro s _ ⟨hl, g0, g3, g4, g13, g14, rfl⟩;refine wpo_nil (then_n ?_);refine AM.wp_seq hp0 (AM.wp_reg hp0 ?_);refine wpo_seg hp0 1 (fun s H' => s.length = 34 ∧ gt s 0 = v_0 ∧ gt s 3 = v21 ∧ gt s 4 = .int .i64 (k13 : Int) ∧ gt s 5 = .int .i64 0 ∧ gt s 13 = .int .i64 (t.length : Int) ∧ gt s 14 = .int .i64 (k13 : Int) ∧ H = H') (by simp only [↓runs, isCall, ↓reduceIte, ↓gd_true, ↓gd_false, evs, AV.cells, Nat.reduceEqDiff, Nat.reduceLT, reduceCtorEq, Nat.reduceAdd, sy, g0, g3, g4, g13, g14, hl]) ?_;rintro s _ ⟨hl, g0, g3, g4, g5, g13, g14, rfl⟩;refine wpo_nil (then_n ?_);obtain ⟨z30, e31, hy15⟩ := bn hy15;refine loop_ref hp0 (fun x => P_subdirect_monolith_l24 k13 t x.1 x.2) (fun x s H' => ∃ (W' : AH) (w3 : AV) (q3 : Frag), s.length = 34 ∧ gt s 3 = w3 ∧ gt s 5 = .int .i64 x.2 ∧ gt s 0 = v_0 ∧ gt s 4 = .int .i64 (k13 : Int) ∧ gt s 13 = .int .i64 (t.length : Int) ∧ gt s 14 = .int .i64 (k13 : Int) ∧  Wle W W' ∧ St (q3 :: G) W' H' ∧ OwS W' w3 q3 (x.1 : List Int)) (fun x s H' => ∃ (W' : AH) (w3 : AV) (q3 : Frag), s.length = 34 ∧ gt s 3 = w3 ∧ gt s 0 = v_0 ∧ gt s 13 = .int .i64 (t.length : Int) ∧ gt s 14 = .int .i64 (k13 : Int) ∧  Wle W W' ∧ St (q3 :: G) W' H' ∧ OwS W' w3 q3 (x.1 : List Int)) e31 ?_ ?_ ?_
   ·exact ⟨W, _, _, hl, g3, g5, g0, g4, g13, g14, .refl _, hst, o23⟩
   ·intro x25 y27 s H hI hy28 hx29;obtain ⟨p32, x33⟩ := x25;dsimp only at hI;change P_subdirect_monolith_l24 k13 t p32 x33 = some y27 at hy28;unfold P_subdirect_monolith_l24 at hy28;obtain ⟨W, v35, fg36, hl, g3, g5, g0, g4, g13, g14, w34, hst, o37⟩ := hI;replace h_0 := Rp.mono w34 h_0;refine AM.wp_seq hp0 (AM.wp_seq hp0 (AM.wp_reg hp0 ?_));refine wpo_seg hp0 3 (fun s H' => s.length = 34 ∧ gt s 0 = v_0 ∧ gt s 3 = v35 ∧ gt s 4 = .int .i64 (k13 : Int) ∧ gt s 5 = .int .i64 x33 ∧ gt s 13 = .int .i64 (t.length : Int) ∧ gt s 14 = .int .i64 (k13 : Int) ∧ gt s 19 = .bool (decide (x33 < (k13 : Int))) ∧ H = H') (by simp only [↓runs, isCall, ↓reduceIte, ↓gd_true, ↓gd_false, evs, AV.cells, Nat.reduceEqDiff, Nat.reduceLT, reduceCtorEq, Nat.reduceAdd, sy, g0, g3, g4, g5, g13, g14, hl]) ?_;rintro s _ ⟨hl, g0, g3, g4, g5, g13, g14, g19, rfl⟩;refine wpo_nil (then_n ?_);rcases Bool.eq_false_or_eq_true (decide (x33 < (k13 : Int))) with c38 | c38
    ·replace hy28 := ifT c38 hy28;refine AM.wp_condT (by simp only [ev_t, ev_c, g19, c38]) ?_;refine AM.wp_skip ?_;refine then_n ?_;refine AM.wp_seq hp0 ?_;refine AM.wp_block ?_;refine AM.wp_seq hp0 (AM.wp_reg hp0 ?_);have f39 : fillA [.int .i64 0, .int .i64 0] [(0, 1, .int .i64 x33), (1, 1, .int .i64 (k13 : Int))] = some [.int .i64 x33, .int .i64 (k13 : Int)] := by simp [fillA, splice, AV.cells]
     obtain ⟨v40, l41, H42, fg43, W, f45, f46, f47, w44, hst, o48⟩ := ow_lit' (n := 2) (k := 1) (z := [.int .i64 0, .int .i64 0]) (ys := [.agg [.int .i64 x33, .int .i64 (k13 : Int)]]) (M := ([(x33, (k13 : Int))] : List (Int × Int))) [(0, 2, .agg [.int .i64 x33, .int .i64 (k13 : Int)])] rfl rfl hst (sc_cons (show Rp.rv _ (.agg [.int .i64 x33, .int .i64 (k13 : Int)]) ((x33, (k13 : Int)) : Int × Int) from (mk_ii _ _ _)) (sc_nil)) ((List.forall_mem_cons.2 ⟨(Rp.cells (show Rp.rv W (.agg [.int .i64 x33, .int .i64 (k13 : Int)]) ((x33, (k13 : Int)) : Int × Int) from (mk_ii _ _ _))), fun _ h => (List.not_mem_nil h).elim⟩)) rfl rfl rfl (by decide);replace h_0 := Rp.mono w44 h_0;replace o37 := o37.mono w44;refine wpo_seg hp0 6 (fun s H' => s.length = 34 ∧ gt s 0 = v_0 ∧ gt s 3 = v35 ∧ gt s 4 = .int .i64 (k13 : Int) ∧ gt s 5 = .int .i64 x33 ∧ gt s 13 = .int .i64 (t.length : Int) ∧ gt s 14 = .int .i64 (k13 : Int) ∧ gt s 22 = v35 ∧ gt s 23 = v_0 ∧ gt s 27 = v40 ∧ H42 = H') (by simp only [↓runs, isCall, ↓reduceIte, ↓gd_true, ↓gd_false, evs, AV.cells, Nat.reduceEqDiff, Nat.reduceLT, reduceCtorEq, Nat.reduceAdd, sy, f39, f45, f46, f47, g0, g3, g4, g5, g13, g14, g19, hl]) ?_;rintro s _ ⟨hl, g0, g3, g4, g5, g13, g14, g22, g23, g27, rfl⟩;obtain ⟨W, w50, hst, h49⟩ := ow_frz hst o48;replace h_0 := Rp.mono w50 h_0;replace o37 := o37.mono w50;obtain ⟨r51, e52, hy28⟩ := bn hy28;refine wpo_callK hp0 rfl (ys := [v_0, v40, .int .i64 0]) (by simp only [evs, List.map_cons, List.map_nil, ev_t, ev_c, g23, g27]) (R_congr_Generated hst h_0 h49 e52) ?_;rintro rv53 H ⟨W, w54, fg55, hst, o56⟩;replace h_0 := Rp.mono w54 h_0;replace h49 := Rp.mono w54 h49;replace o37 := o37.mono w54;refine wpo_seg hp0 0 (fun s H' => s.length = 34 ∧ gt s 0 = v_0 ∧ gt s 3 = v35 ∧ gt s 4 = .int .i64 (k13 : Int) ∧ gt s 5 = .int .i64 x33 ∧ gt s 13 = .int .i64 (t.length : Int) ∧ gt s 14 = .int .i64 (k13 : Int) ∧ gt s 22 = v35 ∧ gt s 28 = rv53 ∧ H = H') (by simp only [↓runs, isCall, ↓reduceIte, ↓gd_true, ↓gd_false, evs, AV.cells, Nat.reduceEqDiff, Nat.reduceLT, reduceCtorEq, Nat.reduceAdd, sy, gt_other, g0, g3, g4, g5, g13, g14, g22, g23, g27, hl]) ?_;rintro s _ ⟨hl, g0, g3, g4, g5, g13, g14, g22, g28, rfl⟩;replace hst := hst.p1;obtain ⟨W, w58, hst, h57⟩ := ow_frz hst o37;replace h_0 := Rp.mono w58 h_0;replace h49 := Rp.mono w58 h49;replace o56 := o56.mono w58;obtain ⟨W, w60, hst, h59⟩ := ow_frz hst o56;replace h_0 := Rp.mono w60 h_0;replace h49 := Rp.mono w60 h49;replace h57 := Rp.mono w60 h57;obtain ⟨r61, e62, hy28⟩ := bn hy28;refine wpo_callK hp0 rfl (ys := [v35, rv53]) (by simp only [evs, List.map_cons, List.map_nil, ev_t, ev_c, g22, g28]) (R_partition_Meet hst h57 h59 e62) ?_;rintro rv63 H ⟨W, w65, fg66, hst, o67⟩;replace h_0 := Rp.mono w65 h_0;replace h49 := Rp.mono w65 h49;replace h57 := Rp.mono w65 h57;replace h59 := Rp.mono w65 h59;refine wpo_seg hp0 1 (fun s H' => s.length = 34 ∧ gt s 0 = v_0 ∧ gt s 3 = rv63 ∧ gt s 4 = .int .i64 (k13 : Int) ∧ gt s 5 = .int .i64 x33 ∧ gt s 13 = .int .i64 (t.length : Int) ∧ gt s 14 = .int .i64 (k13 : Int) ∧ H = H') (by simp only [↓runs, isCall, ↓reduceIte, ↓gd_true, ↓gd_false, evs, AV.cells, Nat.reduceEqDiff, Nat.reduceLT, reduceCtorEq, Nat.reduceAdd, sy, gt_other, g0, g3, g4, g5, g13, g14, g22, g28, hl]) ?_;rintro s _ ⟨hl, g0, g3, g4, g5, g13, g14, rfl⟩;refine wpo_nil (then_n ?_);refine AM.wp_seq hp0 (AM.wp_reg hp0 ?_);refine wpo_seg hp0 1 (fun s H' => s.length = 34 ∧ gt s 0 = v_0 ∧ gt s 3 = rv63 ∧ gt s 4 = .int .i64 (k13 : Int) ∧ gt s 5 = .int .i64 x33 ∧ gt s 13 = .int .i64 (t.length : Int) ∧ gt s 14 = .int .i64 (k13 : Int) ∧ gt s 30 = rv63 ∧ H = H') (by simp only [↓runs, isCall, ↓reduceIte, ↓gd_true, ↓gd_false, evs, AV.cells, Nat.reduceEqDiff, Nat.reduceLT, reduceCtorEq, Nat.reduceAdd, sy, g0, g3, g4, g5, g13, g14, hl]) ?_;rintro s _ ⟨hl, g0, g3, g4, g5, g13, g14, g30, rfl⟩;obtain ⟨r68, e69, hy28⟩ := bn hy28;obtain ⟨W, w70, hst, h71, k72⟩ := ow_lend hst o67;refine wpo_callK hp0 rfl (ys := [rv63]) (by simp only [evs, List.map_cons, List.map_nil, ev_t, ev_c, g30]) (R_subdirect_discrete hst h71 e69) ?_;rintro rv73 H ⟨W, w74, hst, rfl⟩;obtain ⟨W, w75, hst, o67⟩ := k72 _ _ _ w74 hst;replace h_0 := Rp.mono w75 h_0;replace h49 := Rp.mono w75 h49;replace h57 := Rp.mono w75 h57;replace h59 := Rp.mono w75 h59;refine wpo_seg hp0 0 (fun s H' => s.length = 34 ∧ gt s 0 = v_0 ∧ gt s 3 = rv63 ∧ gt s 4 = .int .i64 (k13 : Int) ∧ gt s 5 = .int .i64 x33 ∧ gt s 13 = .int .i64 (t.length : Int) ∧ gt s 14 = .int .i64 (k13 : Int) ∧ gt s 31 = .bool r68 ∧ H = H') (by simp only [↓runs, isCall, ↓reduceIte, ↓gd_true, ↓gd_false, evs, AV.cells, Nat.reduceEqDiff, Nat.reduceLT, reduceCtorEq, Nat.reduceAdd, sy, gt_other, g0, g3, g4, g5, g13, g14, g30, hl]) ?_;rintro s _ ⟨hl, g0, g3, g4, g5, g13, g14, g31, rfl⟩;refine wpo_nil (then_n ?_);rcases Bool.eq_false_or_eq_true (r68) with c76 | c76
     ·replace hy28 := ifT c76 hy28;refine AM.wp_condT (by simp only [ev_t, ev_c, g31, c76]) ?_;refine AM.wp_seq hp0 (AM.wp_reg hp0 ?_);refine wpo_seg hp0 1 (fun s H' => s.length = 34 ∧ gt s 2 = .nils ∧ H = H') (by simp only [↓runs, isCall, ↓reduceIte, ↓gd_true, ↓gd_false, evs, AV.cells, Nat.reduceEqDiff, Nat.reduceLT, reduceCtorEq, Nat.reduceAdd, sy, g0, g3, g4, g5, g13, g14, g31, hl]) ?_;rintro s _ ⟨hl, g2, rfl⟩;refine wpo_nil (then_n ?_);refine AM.wp_ret ?_;refine blk_r ?_;refine then_r ?_;refine then_r (rnd_r ?_);refine rnd_r ?_;refine then_r ?_;obtain rfl := Option.some.inj hy28;have hx := hx29 _ rfl;subst hx;dsimp only at hy15;obtain rfl := Option.some.inj hy15;have hx := hx16 _ rfl;subst hx;dsimp only at hp;obtain rfl := Option.some.inj hp;replace hst := hst.drop;refine body_ret (vs := [.nils]) (by simp only [rvs, f_subdirect_monolith, Option.map_some, g2]) ?_;exact ⟨W, (((((((((w7.trans w20).trans w34).trans w44).trans w50).trans w54).trans w58).trans w60).trans w65).trans w75), hst, (nl_none _)⟩
     ·replace hy28 := ifF c76 hy28;refine AM.wp_condF (by simp only [ev_t, ev_c, g31, c76]) ?_;refine AM.wp_skip ?_;refine blk_n ?_;refine then_n ?_;refine AM.wp_reg hp0 ?_;refine wpo_seg hp0 3 (fun s H' => s.length = 34 ∧ gt s 0 = v_0 ∧ gt s 3 = rv63 ∧ gt s 4 = .int .i64 (k13 : Int) ∧ gt s 5 = .int .i64 (w64 (x33 + 1)) ∧ gt s 13 = .int .i64 (t.length : Int) ∧ gt s 14 = .int .i64 (k13 : Int) ∧ H = H') (by simp only [↓runs, isCall, ↓reduceIte, ↓gd_true, ↓gd_false, evs, AV.cells, Nat.reduceEqDiff, Nat.reduceLT, reduceCtorEq, Nat.reduceAdd, sy, g0, g3, g4, g5, g13, g14, g31, hl]) ?_;rintro s _ ⟨hl, g0, g3, g4, g5, g13, g14, rfl⟩;refine wpo_nil (then_n ?_);obtain rfl := Option.some.inj hy28;exact ⟨_, rfl, ⟨W, _, _, hl, g3, g5, g0, g4, g13, g14, (((((((w34.trans w44).trans w50).trans w54).trans w58).trans w60).trans w65).trans w75), hst, o67⟩⟩
    ·replace hy28 := ifF c38 hy28;refine AM.wp_condF (by simp only [ev_t, ev_c, g19, c38]) ?_;refine AM.wp_exit ?_;refine then_x ?_;refine then_x (rnd_c rfl ?_);obtain rfl := Option.some.inj hy28;exact ⟨_, rfl, ⟨W, _, _, hl, g3, g0, g13, g14, w34, hst, o37⟩⟩
   ·rintro x77 s H hz hI;subst hz;dsimp only at hy15 hI;obtain ⟨W, v79, fg80, hl, g3, g0, g13, g14, w78, hst, o81⟩ := hI;replace h_0 := Rp.mono w78 h_0;refine rnd_n ?_;obtain rfl := Option.some.inj hy15;exact ⟨_, rfl, hl, g14, g13, ⟨W, _, _, hl, g3, g0, (w20.trans w78), hst, o81⟩⟩
  ·rintro x82 s Hn hz hI;replace hI : (fun s H' => ∃ (W' : AH) (w3 : AV) (q3 : Frag), s.length = 34 ∧ gt s 3 = w3 ∧  Wle W W' ∧ St (q3 :: G) W' H' ∧ OwS W' w3 q3 (x82 : List Int)) s Hn := by
    rcases hI with ⟨hI, -⟩ | ⟨_, hI⟩
    ·obtain ⟨W2, v3, q3, hl, g3, g0, w2, hst2, o3⟩ := hI;exact ⟨W2, _, _, hl, g3, w2, hst2, o3⟩
    ·exact hI
   obtain ⟨H, rfl⟩ : ∃ K, K = Hn := ⟨_, rfl⟩;subst hz;dsimp only at hp hI;obtain ⟨W, v84, fg85, hl, g3, w83, hst, o86⟩ := hI;replace h_0 := Rp.mono w83 h_0;refine then_n ?_;refine AM.wp_seq hp0 (AM.wp_reg hp0 ?_);refine wpo_seg hp0 2 (fun s H' => s.length = 34 ∧ gt s 2 = v84 ∧ H = H') (by simp only [↓runs, isCall, ↓reduceIte, ↓gd_true, ↓gd_false, evs, AV.cells, Nat.reduceEqDiff, Nat.reduceLT, reduceCtorEq, Nat.reduceAdd, sy, g3, hl]) ?_;rintro s _ ⟨hl, g2, rfl⟩;refine wpo_nil (then_n ?_);refine AM.wp_ret ?_;obtain ⟨x87, e88, hp⟩ := bn hp;obtain ⟨h89, rfl⟩ := nzl_ok e88;obtain ⟨W, w91, hst, h90⟩ := ow_frz hst o86;obtain rfl := Option.some.inj hp;refine body_ret (vs := [v84]) (by simp only [rvs, f_subdirect_monolith, Option.map_some, g2]) ?_;exact ⟨W, ((w7.trans w83).trans w91), hst, (nl_some h89 h90)⟩

end Go.Proofs.Ytmdpejgnkoneoaa.Pu
set_option maxRecDepth 100000
set_option maxHeartbeats 4000000
namespace Go.Proofs.Ytmdpejgnkoneoaa.Pu
open Go Go.AM Go.Proofs.Ytmdpejgnkoneoaa.Code

noncomputable def P_subdirect_Irreducible (t : List (List Int)) : Option ((List Int) × Bool) :=
 Option.bind (P_mult_Validate t) fun r1 =>
 if !decide (r1 = 0) then
  some ([], false)
 else
  Option.bind (P_subdirect_monolith t) fun r6 =>
  some ((r6.getD []), !r6.isNone)
theorem R_subdirect_Irreducible {G : List Frag} {W H : AH} {v_0 : AV} {t : List (List Int)} (hst : St G W H) (h_0 : Rp.rv W v_0 t) {r : (List Int) × Bool} (hp : P_subdirect_Irreducible t = some r) :
  wpc E0 N_subdirect_Irreducible [v_0] H fun rv H' => ∃ W', Wle W W' ∧ ∃ (v0 : AV), St G W' H' ∧ rv = .tup [v0, .bool r.2] ∧ Rp.rv W' v0 (r.1 : List Int) := by
 refine enterN (F := f_subdirect_Irreducible) rfl (Nat.le_of_ble_eq_true rfl) fun s hl hg => ?_;replace hl : s.length = 13 := hl;have g0 : gt s 0 = v_0 := hg 0 (Nat.le_of_ble_eq_true rfl);clear hg;unfold P_subdirect_Irreducible at hp;show wp E0 c_subdirect_Irreducible s H _;unfold c_subdirect_Irreducible;refine AM.wp_seq hp0 (AM.wp_reg hp0 ?_);refine wpo_seg hp0 2 (fun s H' => s.length = 13 ∧ gt s 0 = v_0 ∧ H = H') (by simp only [↓runs, isCall, ↓reduceIte, ↓gd_true, ↓gd_false, evs, AV.cells, Nat.reduceEqDiff, Nat.reduceLT, reduceCtorEq, Nat.reduceAdd, sy, g0, hl]) ?_;rintro s _ ⟨hl, g0, rfl⟩;refine wpo_nil (then_n ?_);refine AM.wp_seq hp0 (AM.wp_seq hp0 (AM.wp_reg hp0 ?_));refine wpo_seg hp0 1 (fun s H' => s.length = 13 ∧ gt s 0 = v_0 ∧ gt s 5 = v_0 ∧ H = H') (by simp only [↓runs, isCall, ↓reduceIte, ↓gd_true, ↓gd_false, evs, AV.cells, Nat.reduceEqDiff, Nat.reduceLT, reduceCtorEq, Nat.reduceAdd, sy, g0, hl]) ?_;rintro s _ ⟨hl, g0, g5, rfl⟩;obtain ⟨r1, e2, hp⟩ := bn hp;refine wpo_callK hp0 rfl (ys := [v_0]) (by simp only [evs, List.map_cons, List.map_nil, ev_t, ev_c, g5]) (R_mult_Validate hst h_0 e2) ?_;rintro rv3 H ⟨W, w4, hst, rfl⟩;replace h_0 := Rp.mono w4 h_0;refine wpo_seg hp0 1 (fun s H' => s.length = 13 ∧ gt s 0 = v_0 ∧ gt s 7 = .bool (!decide (r1 = 0)) ∧ H = H') (by simp only [↓runs, isCall, ↓reduceIte, ↓gd_true, ↓gd_false, evs, AV.cells, Nat.reduceEqDiff, Nat.reduceLT, reduceCtorEq, Nat.reduceAdd, sy, gt_other, g0, g5, hl]) ?_;rintro s _ ⟨hl, g0, g7, rfl⟩;refine wpo_nil (then_n ?_);rcases Bool.eq_false_or_eq_true (!decide (r1 = 0)) with c5 | c5
 ·replace hp := ifT c5 hp;refine AM.wp_condT (by simp only [ev_t, ev_c, g7, c5]) ?_;refine AM.wp_seq hp0 (AM.wp_reg hp0 ?_);refine wpo_seg hp0 2 (fun s H' => s.length = 13 ∧ gt s 2 = .nils ∧ gt s 3 = .bool false ∧ H = H') (by simp only [↓runs, isCall, ↓reduceIte, ↓gd_true, ↓gd_false, evs, AV.cells, Nat.reduceEqDiff, Nat.reduceLT, reduceCtorEq, Nat.reduceAdd, sy, g0, g7, hl]) ?_;rintro s _ ⟨hl, g2, g3, rfl⟩;refine wpo_nil (then_n ?_);refine AM.wp_ret ?_;refine then_r ?_;obtain rfl := Option.some.inj hp;refine body_ret (vs := [.nils, .bool false]) (by simp only [rvs, f_subdirect_Irreducible, Option.map_some, g2, g3]) ?_;exact ⟨W, w4, _, hst, rfl, (fz_nil _)⟩
 ·replace hp := ifF c5 hp;refine AM.wp_condF (by simp only [ev_t, ev_c, g7, c5]) ?_;refine AM.wp_skip ?_;refine then_n ?_;refine AM.wp_seq hp0 (AM.wp_reg hp0 ?_);refine wpo_seg hp0 1 (fun s H' => s.length = 13 ∧ gt s 8 = v_0 ∧ H = H') (by simp only [↓runs, isCall, ↓reduceIte, ↓gd_true, ↓gd_false, evs, AV.cells, Nat.reduceEqDiff, Nat.reduceLT, reduceCtorEq, Nat.reduceAdd, sy, g0, g7, hl]) ?_;rintro s _ ⟨hl, g8, rfl⟩;obtain ⟨r6, e7, hp⟩ := bn hp;refine wpo_callK hp0 rfl (ys := [v_0]) (by simp only [evs, List.map_cons, List.map_nil, ev_t, ev_c, g8]) (R_subdirect_monolith hst h_0 e7) ?_;rintro rv8 H ⟨W, w9, hst, h10⟩;replace h_0 := Rp.mono w9 h_0;refine wpo_seg hp0 1 (fun s H' => s.length = 13 ∧ gt s 4 = rv8 ∧ H = H') (by simp only [↓runs, isCall, ↓reduceIte, ↓gd_true, ↓gd_false, evs, AV.cells, Nat.reduceEqDiff, Nat.reduceLT, reduceCtorEq, Nat.reduceAdd, sy, gt_other, g8, hl]) ?_;rintro s _ ⟨hl, g4, rfl⟩;refine wpo_nil (then_n ?_);refine AM.wp_seq hp0 (AM.wp_reg hp0 ?_);have f11 := nl_eq h10;refine wpo_seg hp0 5 (fun s H' => s.length = 13 ∧ gt s 2 = rv8 ∧ gt s 3 = .bool (!r6.isNone) ∧ H = H') (by simp only [↓runs, isCall, ↓reduceIte, ↓gd_true, ↓gd_false, evs, AV.cells, Nat.reduceEqDiff, Nat.reduceLT, reduceCtorEq, Nat.reduceAdd, sy, f11, g4, hl]) ?_;rintro s _ ⟨hl, g2, g3, rfl⟩;refine wpo_nil (then_n ?_);refine AM.wp_ret ?_;obtain rfl := Option.some.inj hp;refine body_ret (vs := [rv8, .bool (!r6.isNone)]) (by simp only [rvs, f_subdirect_Irreducible, Option.map_some, g2, g3]) ?_;exact ⟨W, (w4.trans w9), _, hst, rfl, (nl_get h10)⟩

end Go.Proofs.Ytmdpejgnkoneoaa.Pu
set_option maxRecDepth 100000
set_option maxHeartbeats 4000000
namespace Go.Proofs.Ytmdpejgnkoneoaa.Pu
open Go Go.AM Go.Proofs.Ytmdpejgnkoneoaa.Code

noncomputable def P_semigroupref19_Principal_l14 (k4 : Nat) (t : List (List Int)) (out22 : List (List Int)) (y23 : Int) : Option (Lp ((List (List Int)) × Int) (Empty)) :=
 if decide (y23 < (k4 : Int)) then
  Option.bind (P_semigroupref19_Generated t [((k4 : Int), y23)] 0) fun r40 =>
  Option.bind (P_semigroupref03_InsertRow out22 r40) fun r48 =>
  some (.go (r48, w64 (y23 + 1)))
 else
  some (.br (out22, y23))
noncomputable def P_semigroupref19_Principal_l2 (t : List (List Int)) (k4 : Nat) (x3 : List (List Int)) : Option ((List (List Int))) :=
 Option.bind (loopO (fun x => P_semigroupref19_Principal_l14 k4 t x.1 x.2) (x3, 0)) fun z20 =>
 match z20 with
 | .inl x53 =>
  some x53.1
 | .inr b => b.elim
noncomputable def P_semigroupref19_Principal (t : List (List Int)) : Option ((List (List Int))) :=
 Option.bind (forS t.length (fun k x => P_semigroupref19_Principal_l2 t k x) []) fun z8 =>
 some z8
theorem R_semigroupref19_Principal {G : List Frag} {W H : AH} {v_0 : AV} {t : List (List Int)} (hst : St G W H) (h_0 : Rp.rv W v_0 t) {r : (List (List Int))} (hp : P_semigroupref19_Principal t = some r) :
  wpc E0 N_semigroupref19_Principal [v_0] H fun rv H' => ∃ W', Wle W W' ∧ St G W' H' ∧ Rp.rv W' rv (r : List (List Int)) := by
 refine enterN (F := f_semigroupref19_Principal) rfl (Nat.le_of_ble_eq_true rfl) fun s hl hg => ?_;replace hl : s.length = 26 := hl;have g0 : gt s 0 = v_0 := hg 0 (Nat.le_of_ble_eq_true rfl);clear hg;unfold P_semigroupref19_Principal at hp;show wp E0 c_semigroupref19_Principal s H _;unfold c_semigroupref19_Principal;refine AM.wp_seq hp0 (AM.wp_reg hp0 ?_);refine wpo_seg hp0 1 (fun s H' => s.length = 26 ∧ gt s 0 = v_0 ∧ H = H') (by simp only [↓runs, isCall, ↓reduceIte, ↓gd_true, ↓gd_false, evs, AV.cells, Nat.reduceEqDiff, Nat.reduceLT, reduceCtorEq, Nat.reduceAdd, sy, g0, hl]) ?_;rintro s _ ⟨hl, g0, rfl⟩;refine wpo_nil (then_n ?_);refine AM.wp_seq hp0 (AM.wp_reg hp0 ?_);refine wpo_seg hp0 1 (fun s H' => s.length = 26 ∧ gt s 0 = v_0 ∧ gt s 3 = .nils ∧ H = H') (by simp only [↓runs, isCall, ↓reduceIte, ↓gd_true, ↓gd_false, evs, AV.cells, Nat.reduceEqDiff, Nat.reduceLT, reduceCtorEq, Nat.reduceAdd, sy, g0, hl]) ?_;rintro s _ ⟨hl, g0, g3, rfl⟩;refine wpo_nil (then_n ?_);refine AM.wp_seq hp0 (AM.wp_seq hp0 (AM.wp_reg hp0 ?_));have f1 := fz_ln h_0;refine wpo_seg hp0 3 (fun s H' => s.length = 26 ∧ gt s 0 = v_0 ∧ gt s 3 = .nils ∧ gt s 7 = .int .i64 (t.length : Int) ∧ gt s 8 = .int .i64 0 ∧ H = H') (by simp only [↓runs, isCall, ↓reduceIte, ↓gd_true, ↓gd_false, evs, AV.cells, Nat.reduceEqDiff, Nat.reduceLT, reduceCtorEq, Nat.reduceAdd, sy, f1, g0, g3, hl]) ?_;rintro s _ ⟨hl, g0, g3, g7, g8, rfl⟩;refine wpo_nil (then_n ?_);obtain ⟨z8, e9, hp⟩ := bn hp;refine rangeS_ref hp0 26 t.length (fun k x => P_semigroupref19_Principal_l2 t k x) (fun _ x s H' => ∃ (W' : AH) (w3 : AV), s.length = 26 ∧ gt s 3 = w3 ∧ gt s 0 = v_0 ∧  Wle W W' ∧ St G W' H' ∧ Rp.rv W' w3 (x : List (List Int))) e9 (fz_big h_0) rfl ?_ ?_ hl g8 g7 ?_ ?_
 ·intro k x s H d v hd h; rcases hd with rfl | rfl | rfl <;> simpa only [gt_other, pt_length, Nat.reduceEqDiff, not_false_eq_true] using h
 ·exact ⟨W, _, hl, g3, g0, .refl _, hst, (show Rp.rv _ (.nils) ([] : List (List Int)) from (fz_nil _))⟩
 ·intro k4 x3 y5 s H hk hI hl g8 g7 hy6;change P_semigroupref19_Principal_l2 t k4 x3 = some y5 at hy6;unfold P_semigroupref19_Principal_l2 at hy6;obtain ⟨W, v12, hl, g3, g0, w11, hst, h13⟩ := hI;replace h_0 := Rp.mono w11 h_0;refine AM.wp_seq hp0 (AM.wp_reg hp0 ?_);refine wpo_seg hp0 2 (fun s H' => s.length = 26 ∧ gt s 0 = v_0 ∧ gt s 3 = v12 ∧ gt s 4 = .int .i64 (k4 : Int) ∧ gt s 7 = .int .i64 (t.length : Int) ∧ gt s 8 = .int .i64 (k4 : Int) ∧ H = H') (by simp only [↓runs, isCall, ↓reduceIte, ↓gd_true, ↓gd_false, evs, AV.cells, Nat.reduceEqDiff, Nat.reduceLT, reduceCtorEq, Nat.reduceAdd, sy, g0, g3, g7, g8, hl]) ?_;rintro s _ ⟨hl, g0, g3, g4, g7, g8, rfl⟩;refine wpo_nil (then_n ?_);refine AM.wp_seq hp0 (AM.wp_reg hp0 ?_);refine wpo_seg hp0 1 (fun s H' => s.length = 26 ∧ gt s 0 = v_0 ∧ gt s 3 = v12 ∧ gt s 4 = .int .i64 (k4 : Int) ∧ gt s 5 = .int .i64 0 ∧ gt s 7 = .int .i64 (t.length : Int) ∧ gt s 8 = .int .i64 (k4 : Int) ∧ H = H') (by simp only [↓runs, isCall, ↓reduceIte, ↓gd_true, ↓gd_false, evs, AV.cells, Nat.reduceEqDiff, Nat.reduceLT, reduceCtorEq, Nat.reduceAdd, sy, g0, g3, g4, g7, g8, hl]) ?_;rintro s _ ⟨hl, g0, g3, g4, g5, g7, g8, rfl⟩;refine wpo_nil (then_n ?_);obtain ⟨z20, e21, hy6⟩ := bn hy6;refine loop_ref hp0 (fun x => P_semigroupref19_Principal_l14 k4 t x.1 x.2) (fun x s H' => ∃ (W' : AH) (w3 : AV), s.length = 26 ∧ gt s 3 = w3 ∧ gt s 5 = .int .i64 x.2 ∧ gt s 0 = v_0 ∧ gt s 4 = .int .i64 (k4 : Int) ∧ gt s 7 = .int .i64 (t.length : Int) ∧ gt s 8 = .int .i64 (k4 : Int) ∧  Wle W W' ∧ St G W' H' ∧ Rp.rv W' w3 (x.1 : List (List Int))) (fun x s H' => ∃ (W' : AH) (w3 : AV), s.length = 26 ∧ gt s 3 = w3 ∧ gt s 0 = v_0 ∧ gt s 7 = .int .i64 (t.length : Int) ∧ gt s 8 = .int .i64 (k4 : Int) ∧  Wle W W' ∧ St G W' H' ∧ Rp.rv W' w3 (x.1 : List (List Int))) e21 ?_ ?_ ?_
  ·exact ⟨W, _, hl, g3, g5, g0, g4, g7, g8, .refl _, hst, h13⟩
  ·intro x15 y17 s H hI hy18 hx19;obtain ⟨out22, y23⟩ := x15;dsimp only at hI;change P_semigroupref19_Principal_l14 k4 t out22 y23 = some y17 at hy18;unfold P_semigroupref19_Principal_l14 at hy18;obtain ⟨W, v25, hl, g3, g5, g0, g4, g7, g8, w24, hst, h26⟩ := hI;replace h_0 := Rp.mono w24 h_0;refine AM.wp_seq hp0 (AM.wp_seq hp0 (AM.wp_reg hp0 ?_));refine wpo_seg hp0 3 (fun s H' => s.length = 26 ∧ gt s 0 = v_0 ∧ gt s 3 = v25 ∧ gt s 4 = .int .i64 (k4 : Int) ∧ gt s 5 = .int .i64 y23 ∧ gt s 7 = .int .i64 (t.length : Int) ∧ gt s 8 = .int .i64 (k4 : Int) ∧ gt s 13 = .bool (decide (y23 < (k4 : Int))) ∧ H = H') (by simp only [↓runs, isCall, ↓reduceIte, ↓gd_true, ↓gd_false, evs, AV.cells, Nat.reduceEqDiff, Nat.reduceLT, reduceCtorEq, Nat.reduceAdd, sy, g0, g3, g4, g5, g7, g8, hl]) ?_;rintro s _ ⟨hl, g0, g3, g4, g5, g7, g8, g13, rfl⟩;refine wpo_nil (then_n ?_);rcases Bool.eq_false_or_eq_true (decide (y23 < (k4 : Int))) with c27 | c27
   ·replace hy18 := ifT c27 hy18;refine AM.wp_condT (by simp only [ev_t, ev_c, g13, c27]) ?_;refine AM.wp_skip ?_;refine then_n ?_;refine AM.wp_seq hp0 ?_;refine AM.wp_block ?_;refine AM.wp_reg hp0 ?_;have f28 : fillA [.int .i64 0, .int .i64 0] [(0, 1, .int .i64 (k4 : Int)), (1, 1, .int .i64 y23)] = some [.int .i64 (k4 : Int), .int .i64 y23] := by simp [fillA, splice, AV.cells]
    obtain ⟨v29, l30, H31, fg32, W, f34, f35, f36, w33, hst, o37⟩ := ow_lit' (n := 2) (k := 1) (z := [.int .i64 0, .int .i64 0]) (ys := [.agg [.int .i64 (k4 : Int), .int .i64 y23]]) (M := ([((k4 : Int), y23)] : List (Int × Int))) [(0, 2, .agg [.int .i64 (k4 : Int), .int .i64 y23])] rfl rfl hst (sc_cons (show Rp.rv _ (.agg [.int .i64 (k4 : Int), .int .i64 y23]) (((k4 : Int), y23) : Int × Int) from (mk_ii _ _ _)) (sc_nil)) ((List.forall_mem_cons.2 ⟨(Rp.cells (show Rp.rv W (.agg [.int .i64 (k4 : Int), .int .i64 y23]) (((k4 : Int), y23) : Int × Int) from (mk_ii _ _ _))), fun _ h => (List.not_mem_nil h).elim⟩)) rfl rfl rfl (by decide);replace h_0 := Rp.mono w33 h_0;replace h26 := Rp.mono w33 h26;refine wpo_seg hp0 6 (fun s H' => s.length = 26 ∧ gt s 0 = v_0 ∧ gt s 3 = v25 ∧ gt s 4 = .int .i64 (k4 : Int) ∧ gt s 5 = .int .i64 y23 ∧ gt s 7 = .int .i64 (t.length : Int) ∧ gt s 8 = .int .i64 (k4 : Int) ∧ gt s 16 = v25 ∧ gt s 17 = v_0 ∧ gt s 21 = v29 ∧ H31 = H') (by simp only [↓runs, isCall, ↓reduceIte, ↓gd_true, ↓gd_false, evs, AV.cells, Nat.reduceEqDiff, Nat.reduceLT, reduceCtorEq, Nat.reduceAdd, sy, f28, f34, f35, f36, g0, g3, g4, g5, g7, g8, g13, hl]) ?_;rintro s _ ⟨hl, g0, g3, g4, g5, g7, g8, g16, g17, g21, rfl⟩;obtain ⟨W, w39, hst, h38⟩ := ow_frz hst o37;replace h_0 := Rp.mono w39 h_0;replace h26 := Rp.mono w39 h26;obtain ⟨r40, e41, hy18⟩ := bn hy18;refine wpo_callK hp0 rfl (ys := [v_0, v29, .int .i64 0]) (by simp only [evs, List.map_cons, List.map_nil, ev_t, ev_c, g17, g21]) (R_semigroupref19_Generated hst h_0 h38 e41) ?_;rintro rv42 H ⟨W, w43, fg44, hst, o45⟩;replace h_0 := Rp.mono w43 h_0;replace h26 := Rp.mono w43 h26;replace h38 := Rp.mono w43 h38;refine wpo_seg hp0 0 (fun s H' => s.length = 26 ∧ gt s 0 = v_0 ∧ gt s 3 = v25 ∧ gt s 4 = .int .i64 (k4 : Int) ∧ gt s 5 = .int .i64 y23 ∧ gt s 7 = .int .i64 (t.length : Int) ∧ gt s 8 = .int .i64 (k4 : Int) ∧ gt s 16 = v25 ∧ gt s 22 = rv42 ∧ H = H') (by simp only [↓runs, isCall, ↓reduceIte, ↓gd_true, ↓gd_false, evs, AV.cells, Nat.reduceEqDiff, Nat.reduceLT, reduceCtorEq, Nat.reduceAdd, sy, gt_other, g0, g3, g4, g5, g7, g8, g16, g17, g21, hl]) ?_;rintro s _ ⟨hl, g0, g3, g4, g5, g7, g8, g16, g22, rfl⟩;obtain ⟨W, w47, hst, h46⟩ := ow_frz hst o45;replace h_0 := Rp.mono w47 h_0;replace h26 := Rp.mono w47 h26;replace h38 := Rp.mono w47 h38;obtain ⟨r48, e49, hy18⟩ := bn hy18;refine wpo_callK hp0 rfl (ys := [v25, rv42]) (by simp only [evs, List.map_cons, List.map_nil, ev_t, ev_c, g16, g22]) (R_semigroupref03_InsertRow hst h26 h46 e49) ?_;rintro rv50 H ⟨W, w51, hst, h52⟩;replace h_0 := Rp.mono w51 h_0;replace h26 := Rp.mono w51 h26;replace h38 := Rp.mono w51 h38;replace h46 := Rp.mono w51 h46;refine wpo_seg hp0 1 (fun s H' => s.length = 26 ∧ gt s 0 = v_0 ∧ gt s 3 = rv50 ∧ gt s 4 = .int .i64 (k4 : Int) ∧ gt s 5 = .int .i64 y23 ∧ gt s 7 = .int .i64 (t.length : Int) ∧ gt s 8 = .int .i64 (k4 : Int) ∧ H = H') (by simp only [↓runs, isCall, ↓reduceIte, ↓gd_true, ↓gd_false, evs, AV.cells, Nat.reduceEqDiff, Nat.reduceLT, reduceCtorEq, Nat.reduceAdd, sy, gt_other, g0, g3, g4, g5, g7, g8, g16, g22, hl]) ?_;rintro s _ ⟨hl, g0, g3, g4, g5, g7, g8, rfl⟩;refine wpo_nil ?_;refine blk_n ?_;refine then_n ?_;refine AM.wp_reg hp0 ?_;refine wpo_seg hp0 3 (fun s H' => s.length = 26 ∧ gt s 0 = v_0 ∧ gt s 3 = rv50 ∧ gt s 4 = .int .i64 (k4 : Int) ∧ gt s 5 = .int .i64 (w64 (y23 + 1)) ∧ gt s 7 = .int .i64 (t.length : Int) ∧ gt s 8 = .int .i64 (k4 : Int) ∧ H = H') (by simp only [↓runs, isCall, ↓reduceIte, ↓gd_true, ↓gd_false, evs, AV.cells, Nat.reduceEqDiff, Nat.reduceLT, reduceCtorEq, Nat.reduceAdd, sy, g0, g3, g4, g5, g7, g8, hl]) ?_;rintro s _ ⟨hl, g0, g3, g4, g5, g7, g8, rfl⟩;refine wpo_nil (then_n ?_);obtain rfl := Option.some.inj hy18;exact ⟨_, rfl, ⟨W, _, hl, g3, g5, g0, g4, g7, g8, (((((w24.trans w33).trans w39).trans w43).trans w47).trans w51), hst, h52⟩⟩
   ·replace hy18 := ifF c27 hy18;refine AM.wp_condF (by simp only [ev_t, ev_c, g13, c27]) ?_;refine AM.wp_exit ?_;refine then_x ?_;refine then_x (rnd_c rfl ?_);obtain rfl := Option.some.inj hy18;exact ⟨_, rfl, ⟨W, _, hl, g3, g0, g7, g8, w24, hst, h26⟩⟩
  ·rintro x53 s H hz hI;subst hz;dsimp only at hy6 hI;obtain ⟨W, v55, hl, g3, g0, g7, g8, w54, hst, h56⟩ := hI;replace h_0 := Rp.mono w54 h_0;refine rnd_n ?_;obtain rfl := Option.some.inj hy6;exact ⟨hl, g8, g7, ⟨W, _, hl, g3, g0, (w11.trans w54), hst, h56⟩⟩
 ·rintro s H hI _;obtain ⟨W, v58, hl, g3, g0, w57, hst, h59⟩ := hI;replace h_0 := Rp.mono w57 h_0;refine then_n ?_;refine AM.wp_seq hp0 (AM.wp_reg hp0 ?_);refine wpo_seg hp0 2 (fun s H' => s.length = 26 ∧ gt s 2 = v58 ∧ H = H') (by simp only [↓runs, isCall, ↓reduceIte, ↓gd_true, ↓gd_false, evs, AV.cells, Nat.reduceEqDiff, Nat.reduceLT, reduceCtorEq, Nat.reduceAdd, sy, g0, g3, hl]) ?_;rintro s _ ⟨hl, g2, rfl⟩;refine wpo_nil (then_n ?_);refine AM.wp_ret ?_;obtain rfl := Option.some.inj hp;refine body_ret (vs := [v58]) (by simp only [rvs, f_semigroupref19_Principal, Option.map_some, g2]) ?_;exact ⟨W, w57, hst, h59⟩

end Go.Proofs.Ytmdpejgnkoneoaa.Pu
set_option maxRecDepth 100000
set_option maxHeartbeats 4000000
namespace Go.Proofs.Ytmdpejgnkoneoaa.Pu
open Go Go.AM Go.Proofs.Ytmdpejgnkoneoaa.Code

noncomputable def P_semigroupref19_Minimal_l29 (r1 : (List (List Int))) (x21 : List Int) (k31 : Nat) (x30 : Bool) : Option (Bool) :=
 Option.bind (gi r1 (k31 : Int)) fun x39 =>
 Option.bind (
  if x30 then
   Option.bind (P_semigroupref03_Same x21 x39) fun r49 =>
   if r49 then
    some true
   else
    Option.bind (P_semigroupref03_Refines x39 x21) fun r54 =>
    some (!r54)
  else
   some false) fun z46 =>
 some z46
noncomputable def P_semigroupref19_Minimal_l7 (r1 : (List (List Int))) (k10 : Nat) (x9 : List (List Int)) : Option ((List (List Int))) :=
 Option.bind (gi r1 (k10 : Int)) fun x21 =>
 Option.bind (forS r1.length (fun k x => P_semigroupref19_Minimal_l29 r1 x21 k x) true) fun z35 =>
 if z35 then
  Option.bind (pus 24 x9 [x21]) fun x72 =>
  some x72
 else
  some x9
noncomputable def P_semigroupref19_Minimal (t : List (List Int)) : Option ((List (List Int))) :=
 Option.bind (P_semigroupref19_Principal t) fun r1 =>
 Option.bind (forS r1.length (fun k x => P_semigroupref19_Minimal_l7 r1 k x) []) fun z14 =>
 some z14
theorem R_semigroupref19_Minimal {G : List Frag} {W H : AH} {v_0 : AV} {t : List (List Int)} (hst : St G W H) (h_0 : Rp.rv W v_0 t) {r : (List (List Int))} (hp : P_semigroupref19_Minimal t = some r) :
  wpc E0 N_semigroupref19_Minimal [v_0] H fun rv H' => ∃ W', Wle W W' ∧ ∃ (g0 : Frag), St (g0 :: G) W' H' ∧ OwS W' rv g0 (r : List (List Int)) := by
 refine enterN (F := f_semigroupref19_Minimal) rfl (Nat.le_of_ble_eq_true rfl) fun s hl hg => ?_;replace hl : s.length = 44 := hl;have g0 : gt s 0 = v_0 := hg 0 (Nat.le_of_ble_eq_true rfl);clear hg;unfold P_semigroupref19_Minimal at hp;show wp E0 c_semigroupref19_Minimal s H _;unfold c_semigroupref19_Minimal;refine AM.wp_seq hp0 (AM.wp_reg hp0 ?_);refine wpo_seg hp0 1 (fun s H' => s.length = 44 ∧ gt s 0 = v_0 ∧ H = H') (by simp only [↓runs, isCall, ↓reduceIte, ↓gd_true, ↓gd_false, evs, AV.cells, Nat.reduceEqDiff, Nat.reduceLT, reduceCtorEq, Nat.reduceAdd, sy, g0, hl]) ?_;rintro s _ ⟨hl, g0, rfl⟩;refine wpo_nil (then_n ?_);refine AM.wp_seq hp0 (AM.wp_reg hp0 ?_);refine wpo_seg hp0 1 (fun s H' => s.length = 44 ∧ gt s 0 = v_0 ∧ gt s 3 = .nils ∧ H = H') (by simp only [↓runs, isCall, ↓reduceIte, ↓gd_true, ↓gd_false, evs, AV.cells, Nat.reduceEqDiff, Nat.reduceLT, reduceCtorEq, Nat.reduceAdd, sy, g0, hl]) ?_;rintro s _ ⟨hl, g0, g3, rfl⟩;refine wpo_nil (then_n ?_);refine AM.wp_seq hp0 (AM.wp_reg hp0 ?_);refine wpo_seg hp0 1 (fun s H' => s.length = 44 ∧ gt s 3 = .nils ∧ gt s 10 = v_0 ∧ H = H') (by simp only [↓runs, isCall, ↓reduceIte, ↓gd_true, ↓gd_false, evs, AV.cells, Nat.reduceEqDiff, Nat.reduceLT, reduceCtorEq, Nat.reduceAdd, sy, g0, g3, hl]) ?_;rintro s _ ⟨hl, g3, g10, rfl⟩;obtain ⟨r1, e2, hp⟩ := bn hp;refine wpo_callK hp0 rfl (ys := [v_0]) (by simp only [evs, List.map_cons, List.map_nil, ev_t, ev_c, g10]) (R_semigroupref19_Principal hst h_0 e2) ?_;rintro rv3 H ⟨W, w4, hst, h5⟩;replace h_0 := Rp.mono w4 h_0;refine wpo_seg hp0 1 (fun s H' => s.length = 44 ∧ gt s 3 = .nils ∧ gt s 4 = rv3 ∧ H = H') (by simp only [↓runs, isCall, ↓reduceIte, ↓gd_true, ↓gd_false, evs, AV.cells, Nat.reduceEqDiff, Nat.reduceLT, reduceCtorEq, Nat.reduceAdd, sy, gt_other, g3, g10, hl]) ?_;rintro s _ ⟨hl, g3, g4, rfl⟩;refine wpo_nil (then_n ?_);refine AM.wp_seq hp0 (AM.wp_seq hp0 (AM.wp_reg hp0 ?_));have f6 := fz_ln h5;refine wpo_seg hp0 3 (fun s H' => s.length = 44 ∧ gt s 3 = .nils ∧ gt s 4 = rv3 ∧ gt s 12 = rv3 ∧ gt s 13 = .int .i64 (r1.length : Int) ∧ gt s 14 = .int .i64 0 ∧ H = H') (by simp only [↓runs, isCall, ↓reduceIte, ↓gd_true, ↓gd_false, evs, AV.cells, Nat.reduceEqDiff, Nat.reduceLT, reduceCtorEq, Nat.reduceAdd, sy, f6, g3, g4, hl]) ?_;rintro s _ ⟨hl, g3, g4, g12, g13, g14, rfl⟩;refine wpo_nil (then_n ?_);replace hst := hst.nil;have o8 := ow_nil (α := List Int) W;obtain ⟨z14, e15, hp⟩ := bn hp;refine rangeS_ref hp0 44 r1.length (fun k x => P_semigroupref19_Minimal_l7 r1 k x) (fun _ x s H' => ∃ (W' : AH) (w3 : AV) (q3 : Frag), s.length = 44 ∧ gt s 3 = w3 ∧ gt s 4 = rv3 ∧ gt s 12 = rv3 ∧  Wle W W' ∧ St (q3 :: G) W' H' ∧ OwS W' w3 q3 (x : List (List Int))) e15 (fz_big h5) rfl ?_ ?_ hl g14 g13 ?_ ?_
 ·intro k x s H d v hd h; rcases hd with rfl | rfl | rfl <;> simpa only [gt_other, pt_length, Nat.reduceEqDiff, not_false_eq_true] using h
 ·exact ⟨W, _, _, hl, g3, g4, g12, .refl _, hst, o8⟩
 ·intro k10 x9 y11 s H hk hI hl g14 g13 hy12;change P_semigroupref19_Minimal_l7 r1 k10 x9 = some y11 at hy12;unfold P_semigroupref19_Minimal_l7 at hy12;obtain ⟨W, v18, fg19, hl, g3, g4, g12, w17, hst, o20⟩ := hI;replace h5 := Rp.mono w17 h5;refine AM.wp_seq hp0 (AM.wp_reg hp0 ?_);obtain ⟨x21, e22, hy12⟩ := bn hy12;obtain ⟨p23, y24, f25, f26, h27⟩ := fz_at (k := .i64) hst h5 e22 rfl;refine wpo_seg hp0 3 (fun s H' => s.length = 44 ∧ gt s 3 = v18 ∧ gt s 4 = rv3 ∧ gt s 6 = y24 ∧ gt s 12 = rv3 ∧ gt s 13 = .int .i64 (r1.length : Int) ∧ gt s 14 = .int .i64 (k10 : Int) ∧ H = H') (by simp only [↓runs, isCall, ↓reduceIte, ↓gd_true, ↓gd_false, evs, AV.cells, Nat.reduceEqDiff, Nat.reduceLT, reduceCtorEq, Nat.reduceAdd, sy, f25, f26, g3, g4, g12, g13, g14, hl]) ?_;rintro s _ ⟨hl, g3, g4, g6, g12, g13, g14, rfl⟩;refine wpo_nil (then_n ?_);refine AM.wp_seq hp0 (AM.wp_reg hp0 ?_);refine wpo_seg hp0 1 (fun s H' => s.length = 44 ∧ gt s 3 = v18 ∧ gt s 4 = rv3 ∧ gt s 6 = y24 ∧ gt s 7 = .bool true ∧ gt s 12 = rv3 ∧ gt s 13 = .int .i64 (r1.length : Int) ∧ gt s 14 = .int .i64 (k10 : Int) ∧ H = H') (by simp only [↓runs, isCall, ↓reduceIte, ↓gd_true, ↓gd_false, evs, AV.cells, Nat.reduceEqDiff, Nat.reduceLT, reduceCtorEq, Nat.reduceAdd, sy, g3, g4, g6, g12, g13, g14, hl]) ?_;rintro s _ ⟨hl, g3, g4, g6, g7, g12, g13, g14, rfl⟩;refine wpo_nil (then_n ?_);refine AM.wp_seq hp0 (AM.wp_seq hp0 (AM.wp_reg hp0 ?_));have f28 := fz_ln h5;refine wpo_seg hp0 3 (fun s H' => s.length = 44 ∧ gt s 3 = v18 ∧ gt s 4 = rv3 ∧ gt s 6 = y24 ∧ gt s 7 = .bool true ∧ gt s 12 = rv3 ∧ gt s 13 = .int .i64 (r1.length : Int) ∧ gt s 14 = .int .i64 (k10 : Int) ∧ gt s 18 = rv3 ∧ gt s 19 = .int .i64 (r1.length : Int) ∧ gt s 20 = .int .i64 0 ∧ H = H') (by simp only [↓runs, isCall, ↓reduceIte, ↓gd_true, ↓gd_false, evs, AV.cells, Nat.reduceEqDiff, Nat.reduceLT, reduceCtorEq, Nat.reduceAdd, sy, f28, g3, g4, g6, g7, g12, g13, g14, hl]) ?_;rintro s _ ⟨hl, g3, g4, g6, g7, g12, g13, g14, g18, g19, g20, rfl⟩;refine wpo_nil (then_n ?_);obtain ⟨z35, e36, hy12⟩ := bn hy12;refine rangeS_ref hp0 44 r1.length (fun k x => P_semigroupref19_Minimal_l29 r1 x21 k x) (fun _ x s H' => ∃ (W' : AH), s.length = 44 ∧ gt s 7 = .bool x ∧ gt s 3 = v18 ∧ gt s 4 = rv3 ∧ gt s 6 = y24 ∧ gt s 12 = rv3 ∧ gt s 13 = .int .i64 (r1.length : Int) ∧ gt s 14 = .int .i64 (k10 : Int) ∧ gt s 18 = rv3 ∧  Wle W W' ∧ St (fg19 :: G) W' H') e36 (fz_big h5) rfl ?_ ?_ hl g20 g19 ?_ ?_
  ·intro k x s H d v hd h; rcases hd with rfl | rfl | rfl <;> simpa only [gt_other, pt_length, Nat.reduceEqDiff, not_false_eq_true] using h
  ·exact ⟨W, hl, g7, g3, g4, g6, g12, g13, g14, g18, .refl _, hst⟩
  ·intro k31 x30 y32 s H hk hI hl g20 g19 hy33;change P_semigroupref19_Minimal_l29 r1 x21 k31 x30 = some y32 at hy33;unfold P_semigroupref19_Minimal_l29 at hy33;obtain ⟨W, hl, g7, g3, g4, g6, g12, g13, g14, g18, w38, hst⟩ := hI;replace h5 := Rp.mono w38 h5;replace h27 := Rp.mono w38 h27;replace o20 := o20.mono w38;refine AM.wp_seq hp0 (AM.wp_reg hp0 ?_);obtain ⟨x39, e40, hy33⟩ := bn hy33;obtain ⟨p41, y42, f43, f44, h45⟩ := fz_at (k := .i64) hst h5 e40 rfl;refine wpo_seg hp0 3 (fun s H' => s.length = 44 ∧ gt s 3 = v18 ∧ gt s 4 = rv3 ∧ gt s 6 = y24 ∧ gt s 7 = .bool x30 ∧ gt s 9 = y42 ∧ gt s 12 = rv3 ∧ gt s 13 = .int .i64 (r1.length : Int) ∧ gt s 14 = .int .i64 (k10 : Int) ∧ gt s 18 = rv3 ∧ gt s 19 = .int .i64 (r1.length : Int) ∧ gt s 20 = .int .i64 (k31 : Int) ∧ H = H') (by simp only [↓runs, isCall, ↓reduceIte, ↓gd_true, ↓gd_false, evs, AV.cells, Nat.reduceEqDiff, Nat.reduceLT, reduceCtorEq, Nat.reduceAdd, sy, f43, f44, g3, g4, g6, g7, g12, g13, g14, g18, g19, g20, hl]) ?_;rintro s _ ⟨hl, g3, g4, g6, g7, g9, g12, g13, g14, g18, g19, g20, rfl⟩;refine wpo_nil (then_n ?_);obtain ⟨z46, hj47, hy33⟩ := bn hy33;refine AM.wp_regK hp0 (fun s H' => ∃ (W' : AH), s.length = 44 ∧ gt s 7 = .bool z46 ∧ gt s 3 = v18 ∧ gt s 4 = rv3 ∧ gt s 6 = y24 ∧ gt s 12 = rv3 ∧ gt s 13 = .int .i64 (r1.length : Int) ∧ gt s 14 = .int .i64 (k10 : Int) ∧ gt s 18 = rv3 ∧ gt s 19 = .int .i64 (r1.length : Int) ∧ gt s 20 = .int .i64 (k31 : Int) ∧  Wle W W' ∧ St (fg19 :: G) W' H') ?_ ?_
   ·rcases Bool.eq_false_or_eq_true (x30) with c48 | c48
    ·replace hj47 := ifT c48 hj47;refine wpo_seg hp0 4 (fun s H' => s.length = 44 ∧ gt s 3 = v18 ∧ gt s 4 = rv3 ∧ gt s 6 = y24 ∧ gt s 7 = .bool true ∧ gt s 9 = y42 ∧ gt s 12 = rv3 ∧ gt s 13 = .int .i64 (r1.length : Int) ∧ gt s 14 = .int .i64 (k10 : Int) ∧ gt s 18 = rv3 ∧ gt s 19 = .int .i64 (r1.length : Int) ∧ gt s 20 = .int .i64 (k31 : Int) ∧ gt s 25 = .bool true ∧ gt s 26 = y24 ∧ gt s 27 = y42 ∧ H = H') (by simp only [↓runs, isCall, ↓reduceIte, ↓gd_true, ↓gd_false, evs, AV.cells, Nat.reduceEqDiff, Nat.reduceLT, reduceCtorEq, Nat.reduceAdd, sy, c48, g3, g4, g6, g7, g9, g12, g13, g14, g18, g19, g20, hl]) ?_;rintro s _ ⟨hl, g3, g4, g6, g7, g9, g12, g13, g14, g18, g19, g20, g25, g26, g27, rfl⟩;obtain ⟨r49, e50, hj47⟩ := bn hj47;refine wpo_callK hp0 (by simp only [wanted, g25, beq_self_eq_true]) (ys := [y24, y42]) (by simp only [evs, List.map_cons, List.map_nil, ev_t, ev_c, g26, g27]) (R_semigroupref03_Same hst h27 h45 e50) ?_;rintro rv51 H ⟨W, w52, hst, rfl⟩;replace h5 := Rp.mono w52 h5;replace h27 := Rp.mono w52 h27;replace h45 := Rp.mono w52 h45;replace o20 := o20.mono w52;rcases Bool.eq_false_or_eq_true (r49) with c53 | c53
     ·replace hj47 := ifT c53 hj47;refine wpo_seg hp0 8 (fun s H' => s.length = 44 ∧ gt s 3 = v18 ∧ gt s 4 = rv3 ∧ gt s 6 = y24 ∧ gt s 7 = .bool true ∧ gt s 12 = rv3 ∧ gt s 13 = .int .i64 (r1.length : Int) ∧ gt s 14 = .int .i64 (k10 : Int) ∧ gt s 18 = rv3 ∧ gt s 19 = .int .i64 (r1.length : Int) ∧ gt s 20 = .int .i64 (k31 : Int) ∧ H = H') (by simp only [↓runs, isCall, ↓reduceIte, ↓gd_true, ↓gd_false, evs, AV.cells, Nat.reduceEqDiff, Nat.reduceLT, reduceCtorEq, Nat.reduceAdd, sy, gt_other, c53, g3, g4, g6, g7, g9, g12, g13, g14, g18, g19, g20, g25, g26, g27, hl]) ?_;rintro s _ ⟨hl, g3, g4, g6, g7, g12, g13, g14, g18, g19, g20, rfl⟩;refine wpo_nil ?_;obtain rfl := Option.some.inj hj47;exact ⟨W, hl, g7, g3, g4, g6, g12, g13, g14, g18, g19, g20, w52, hst⟩
     ·replace hj47 := ifF c53 hj47;refine wpo_seg hp0 3 (fun s H' => s.length = 44 ∧ gt s 3 = v18 ∧ gt s 4 = rv3 ∧ gt s 6 = y24 ∧ gt s 7 = .bool true ∧ gt s 12 = rv3 ∧ gt s 13 = .int .i64 (r1.length : Int) ∧ gt s 14 = .int .i64 (k10 : Int) ∧ gt s 18 = rv3 ∧ gt s 19 = .int .i64 (r1.length : Int) ∧ gt s 20 = .int .i64 (k31 : Int) ∧ gt s 25 = .bool true ∧ gt s 29 = .bool false ∧ gt s 30 = y42 ∧ gt s 31 = y24 ∧ H = H') (by simp only [↓runs, isCall, ↓reduceIte, ↓gd_true, ↓gd_false, evs, AV.cells, Nat.reduceEqDiff, Nat.reduceLT, reduceCtorEq, Nat.reduceAdd, sy, gt_other, c53, g3, g4, g6, g7, g9, g12, g13, g14, g18, g19, g20, g25, g26, g27, hl]) ?_;rintro s _ ⟨hl, g3, g4, g6, g7, g12, g13, g14, g18, g19, g20, g25, g29, g30, g31, rfl⟩;obtain ⟨r54, e55, hj47⟩ := bn hj47;refine wpo_callK hp0 (by simp only [wanted, g29, beq_self_eq_true]) (ys := [y42, y24]) (by simp only [evs, List.map_cons, List.map_nil, ev_t, ev_c, g30, g31]) (R_semigroupref03_Refines hst h45 h27 e55) ?_;rintro rv56 H ⟨W, w57, hst, rfl⟩;replace h5 := Rp.mono w57 h5;replace h27 := Rp.mono w57 h27;replace h45 := Rp.mono w57 h45;replace o20 := o20.mono w57;refine wpo_seg hp0 4 (fun s H' => s.length = 44 ∧ gt s 3 = v18 ∧ gt s 4 = rv3 ∧ gt s 6 = y24 ∧ gt s 7 = .bool (!r54) ∧ gt s 12 = rv3 ∧ gt s 13 = .int .i64 (r1.length : Int) ∧ gt s 14 = .int .i64 (k10 : Int) ∧ gt s 18 = rv3 ∧ gt s 19 = .int .i64 (r1.length : Int) ∧ gt s 20 = .int .i64 (k31 : Int) ∧ H = H') (by simp only [↓runs, isCall, ↓reduceIte, ↓gd_true, ↓gd_false, evs, AV.cells, Nat.reduceEqDiff, Nat.reduceLT, reduceCtorEq, Nat.reduceAdd, sy, gt_other, g3, g4, g6, g7, g12, g13, g14, g18, g19, g20, g25, g29, g30, g31, hl]) ?_;rintro s _ ⟨hl, g3, g4, g6, g7, g12, g13, g14, g18, g19, g20, rfl⟩;refine wpo_nil ?_;obtain rfl := Option.some.inj hj47;exact ⟨W, hl, g7, g3, g4, g6, g12, g13, g14, g18, g19, g20, (w52.trans w57), hst⟩
    ·replace hj47 := ifF c48 hj47;refine wpo_seg hp0 13 (fun s H' => s.length = 44 ∧ gt s 3 = v18 ∧ gt s 4 = rv3 ∧ gt s 6 = y24 ∧ gt s 7 = .bool false ∧ gt s 12 = rv3 ∧ gt s 13 = .int .i64 (r1.length : Int) ∧ gt s 14 = .int .i64 (k10 : Int) ∧ gt s 18 = rv3 ∧ gt s 19 = .int .i64 (r1.length : Int) ∧ gt s 20 = .int .i64 (k31 : Int) ∧ H = H') (by simp (maxSteps := 1000000) only [↓runs, isCall, ↓reduceIte, ↓gd_true, ↓gd_false, evs, AV.cells, Nat.reduceEqDiff, Nat.reduceLT, reduceCtorEq, Nat.reduceAdd, sy, c48, g3, g4, g6, g7, g9, g12, g13, g14, g18, g19, g20, hl]) ?_;rintro s _ ⟨hl, g3, g4, g6, g7, g12, g13, g14, g18, g19, g20, rfl⟩;refine wpo_nil ?_;obtain rfl := Option.some.inj hj47;exact ⟨W, hl, g7, g3, g4, g6, g12, g13, g14, g18, g19, g20, .refl _, hst⟩
   ·rintro s H ⟨W, hl, g7, g3, g4, g6, g12, g13, g14, g18, g19, g20, w58, hst⟩;replace h5 := Rp.mono w58 h5;replace h27 := Rp.mono w58 h27;replace o20 := o20.mono w58;refine rnd_n ?_;obtain rfl := Option.some.inj hy33;exact ⟨hl, g20, g19, ⟨W, hl, g7, g3, g4, g6, g12, g13, g14, g18, (w38.trans w58), hst⟩⟩
  ·rintro s H hI _;obtain ⟨W, hl, g7, g3, g4, g6, g12, g13, g14, g18, w59, hst⟩ := hI;replace h5 := Rp.mono w59 h5;replace h27 := Rp.mono w59 h27;replace o20 := o20.mono w59;refine then_n ?_;refine AM.wp_seq hp0 (AM.wp_reg hp0 ?_);refine wpo_seg hp0 1 (fun s H' => s.length = 44 ∧ gt s 3 = v18 ∧ gt s 4 = rv3 ∧ gt s 6 = y24 ∧ gt s 12 = rv3 ∧ gt s 13 = .int .i64 (r1.length : Int) ∧ gt s 14 = .int .i64 (k10 : Int) ∧ gt s 37 = .bool z35 ∧ H = H') (by simp only [↓runs, isCall, ↓reduceIte, ↓gd_true, ↓gd_false, evs, AV.cells, Nat.reduceEqDiff, Nat.reduceLT, reduceCtorEq, Nat.reduceAdd, sy, g3, g4, g6, g7, g12, g13, g14, g18, hl]) ?_;rintro s _ ⟨hl, g3, g4, g6, g12, g13, g14, g37, rfl⟩;refine wpo_nil (then_n ?_);rcases Bool.eq_false_or_eq_true (z35) with c60 | c60
   ·replace hy12 := ifT c60 hy12;refine AM.wp_condT (by simp only [ev_t, ev_c, g37, c60]) ?_;refine AM.wp_reg hp0 ?_;obtain ⟨v61, l62, H63, fg64, W, f66, f67, f68, w65, hst, o69⟩ := ow_lit' (n := 1) (k := 1) (z := [.nils]) (ys := [y24]) (M := ([x21] : List (List Int))) [(0, 1, y24)] rfl rfl hst (sc_cons (show Rp.rv _ (y24) (x21 : List Int) from h27) (sc_nil)) ((List.forall_mem_cons.2 ⟨(Rp.cells (show Rp.rv W (y24) (x21 : List Int) from h27)), fun _ h => (List.not_mem_nil h).elim⟩)) rfl rfl rfl (by decide);replace h5 := Rp.mono w65 h5;replace h27 := Rp.mono w65 h27;replace o20 := o20.mono w65;obtain ⟨c70, sn71⟩ := ow_sn hst (.head _) o69;obtain ⟨x72, e73, hy12⟩ := bn hy12;replace hst := hst.p1;obtain ⟨v74, H75, fg76, W, f78, w77, hst, o79⟩ := ow_apps [.nils] rfl hst o20 sn71 e73;replace h5 := Rp.mono w77 h5;replace h27 := Rp.mono w77 h27;replace o69 := o69.mono w77;refine wpo_seg hp0 5 (fun s H' => s.length = 44 ∧ gt s 3 = v74 ∧ gt s 4 = rv3 ∧ gt s 12 = rv3 ∧ gt s 13 = .int .i64 (r1.length : Int) ∧ gt s 14 = .int .i64 (k10 : Int) ∧ H75 = H') (by simp only [↓runs, isCall, ↓reduceIte, ↓gd_true, ↓gd_false, evs, AV.cells, Nat.reduceEqDiff, Nat.reduceLT, reduceCtorEq, Nat.reduceAdd, sy, f66, f67, f68, f78, g3, g4, g6, g12, g13, g14, g37, hl]) ?_;rintro s _ ⟨hl, g3, g4, g12, g13, g14, rfl⟩;refine wpo_nil ?_;refine rnd_n ?_;obtain rfl := Option.some.inj hy12;replace hst := hst.p1;replace hst := hst.drop;exact ⟨hl, g14, g13, ⟨W, _, _, hl, g3, g4, g12, (((w17.trans w59).trans w65).trans w77), hst, o79⟩⟩
   ·replace hy12 := ifF c60 hy12;refine AM.wp_condF (by simp only [ev_t, ev_c, g37, c60]) ?_;refine AM.wp_skip ?_;refine rnd_n ?_;obtain rfl := Option.some.inj hy12;exact ⟨hl, g14, g13, ⟨W, _, _, hl, g3, g4, g12, (w17.trans w59), hst, o20⟩⟩
 ·rintro s H hI _;obtain ⟨W, v81, fg82, hl, g3, g4, g12, w80, hst, o83⟩ := hI;replace h5 := Rp.mono w80 h5;refine then_n ?_;refine AM.wp_seq hp0 (AM.wp_reg hp0 ?_);refine wpo_seg hp0 2 (fun s H' => s.length = 44 ∧ gt s 2 = v81 ∧ H = H') (by simp only [↓runs, isCall, ↓reduceIte, ↓gd_true, ↓gd_false, evs, AV.cells, Nat.reduceEqDiff, Nat.reduceLT, reduceCtorEq, Nat.reduceAdd, sy, g3, g4, g12, hl]) ?_;rintro s _ ⟨hl, g2, rfl⟩;refine wpo_nil (then_n ?_);refine AM.wp_ret ?_;obtain rfl := Option.some.inj hp;refine body_ret (vs := [v81]) (by simp only [rvs, f_semigroupref19_Minimal, Option.map_some, g2]) ?_;exact ⟨W, (w4.trans w80), _, hst, o83⟩

end Go.Proofs.Ytmdpejgnkoneoaa.Pu
set_option maxRecDepth 100000
set_option maxHeartbeats 4000000
namespace Go.Proofs.Ytmdpejgnkoneoaa.Pu
open Go Go.AM Go.Proofs.Ytmdpejgnkoneoaa.Code

noncomputable def P_semigroupref22_Irreducible (t : List (List Int)) : Option ((List Int) × Bool) :=
 Option.bind (
  Option.bind (P_semigroupref14_Valid t) fun r3 =>
  if !r3 then
   some true
  else
   some (decide ((t.length : Int) < 2))) fun z1 =>
 if z1 then
  some ([], false)
 else
  Option.bind (P_semigroupref19_Minimal t) fun r11 =>
  if !decide ((r11.length : Int) = 1) then
   some ([], false)
  else
   Option.bind (gi r11 0) fun x20 =>
   some (x20, true)
theorem R_semigroupref22_Irreducible {G : List Frag} {W H : AH} {v_0 : AV} {t : List (List Int)} (hst : St G W H) (h_0 : Rp.rv W v_0 t) {r : (List Int) × Bool} (hp : P_semigroupref22_Irreducible t = some r) :
  wpc E0 N_semigroupref22_Irreducible [v_0] H fun rv H' => ∃ W', Wle W W' ∧ ∃ (v0 : AV), St G W' H' ∧ rv = .tup [v0, .bool r.2] ∧ Rp.rv W' v0 (r.1 : List Int) := by
 refine enterN (F := f_semigroupref22_Irreducible) rfl (Nat.le_of_ble_eq_true rfl) fun s hl hg => ?_;replace hl : s.length = 21 := hl;have g0 : gt s 0 = v_0 := hg 0 (Nat.le_of_ble_eq_true rfl);clear hg;unfold P_semigroupref22_Irreducible at hp;show wp E0 c_semigroupref22_Irreducible s H _;unfold c_semigroupref22_Irreducible;refine AM.wp_seq hp0 (AM.wp_reg hp0 ?_);refine wpo_seg hp0 2 (fun s H' => s.length = 21 ∧ gt s 0 = v_0 ∧ H = H') (by simp only [↓runs, isCall, ↓reduceIte, ↓gd_true, ↓gd_false, evs, AV.cells, Nat.reduceEqDiff, Nat.reduceLT, reduceCtorEq, Nat.reduceAdd, sy, g0, hl]) ?_;rintro s _ ⟨hl, g0, rfl⟩;refine wpo_nil (then_n ?_);refine AM.wp_seq hp0 (AM.wp_seq hp0 ?_);obtain ⟨z1, hj2, hp⟩ := bn hp;refine AM.wp_regK hp0 (fun s H' => ∃ (W' : AH), s.length = 21 ∧ gt s 12 = .bool z1 ∧ gt s 0 = v_0 ∧  Wle W W' ∧ St G W' H') ?_ ?_
 ·refine wpo_seg hp0 1 (fun s H' => s.length = 21 ∧ gt s 0 = v_0 ∧ gt s 5 = v_0 ∧ H = H') (by simp only [↓runs, isCall, ↓reduceIte, ↓gd_true, ↓gd_false, evs, AV.cells, Nat.reduceEqDiff, Nat.reduceLT, reduceCtorEq, Nat.reduceAdd, sy, g0, hl]) ?_;rintro s _ ⟨hl, g0, g5, rfl⟩;obtain ⟨r3, e4, hj2⟩ := bn hj2;refine wpo_callK hp0 rfl (ys := [v_0]) (by simp only [evs, List.map_cons, List.map_nil, ev_t, ev_c, g5]) (R_semigroupref14_Valid hst h_0 e4) ?_;rintro rv5 H ⟨W, w6, hst, rfl⟩;replace h_0 := Rp.mono w6 h_0;rcases Bool.eq_false_or_eq_true (!r3) with c7 | c7
  ·replace hj2 := ifT c7 hj2;refine wpo_seg hp0 6 (fun s H' => s.length = 21 ∧ gt s 0 = v_0 ∧ gt s 12 = .bool true ∧ H = H') (by simp only [↓runs, isCall, ↓reduceIte, ↓gd_true, ↓gd_false, evs, AV.cells, Nat.reduceEqDiff, Nat.reduceLT, reduceCtorEq, Nat.reduceAdd, sy, gt_other, c7, g0, g5, hl]) ?_;rintro s _ ⟨hl, g0, g12, rfl⟩;refine wpo_nil ?_;obtain rfl := Option.some.inj hj2;exact ⟨W, hl, g12, g0, w6, hst⟩
  ·replace hj2 := ifF c7 hj2;have f8 := fz_ln h_0;refine wpo_seg hp0 6 (fun s H' => s.length = 21 ∧ gt s 0 = v_0 ∧ gt s 12 = .bool (decide ((t.length : Int) < 2)) ∧ H = H') (by simp only [↓runs, isCall, ↓reduceIte, ↓gd_true, ↓gd_false, evs, AV.cells, Nat.reduceEqDiff, Nat.reduceLT, reduceCtorEq, Nat.reduceAdd, sy, gt_other, c7, f8, g0, g5, hl]) ?_;rintro s _ ⟨hl, g0, g12, rfl⟩;refine wpo_nil ?_;obtain rfl := Option.some.inj hj2;exact ⟨W, hl, g12, g0, w6, hst⟩
 ·rintro s H ⟨W, hl, g12, g0, w9, hst⟩;replace h_0 := Rp.mono w9 h_0;refine then_n ?_;rcases Bool.eq_false_or_eq_true (z1) with c10 | c10
  ·replace hp := ifT c10 hp;refine AM.wp_condT (by simp only [ev_t, ev_c, g12, c10]) ?_;refine AM.wp_seq hp0 (AM.wp_reg hp0 ?_);refine wpo_seg hp0 2 (fun s H' => s.length = 21 ∧ gt s 2 = .nils ∧ gt s 3 = .bool false ∧ H = H') (by simp only [↓runs, isCall, ↓reduceIte, ↓gd_true, ↓gd_false, evs, AV.cells, Nat.reduceEqDiff, Nat.reduceLT, reduceCtorEq, Nat.reduceAdd, sy, g0, g12, hl]) ?_;rintro s _ ⟨hl, g2, g3, rfl⟩;refine wpo_nil (then_n ?_);refine AM.wp_ret ?_;refine then_r ?_;obtain rfl := Option.some.inj hp;refine body_ret (vs := [.nils, .bool false]) (by simp only [rvs, f_semigroupref22_Irreducible, Option.map_some, g2, g3]) ?_;exact ⟨W, w9, _, hst, rfl, (fz_nil _)⟩
  ·replace hp := ifF c10 hp;refine AM.wp_condF (by simp only [ev_t, ev_c, g12, c10]) ?_;refine AM.wp_skip ?_;refine then_n ?_;refine AM.wp_seq hp0 (AM.wp_reg hp0 ?_);refine wpo_seg hp0 1 (fun s H' => s.length = 21 ∧ gt s 13 = v_0 ∧ H = H') (by simp only [↓runs, isCall, ↓reduceIte, ↓gd_true, ↓gd_false, evs, AV.cells, Nat.reduceEqDiff, Nat.reduceLT, reduceCtorEq, Nat.reduceAdd, sy, g0, g12, hl]) ?_;rintro s _ ⟨hl, g13, rfl⟩;obtain ⟨r11, e12, hp⟩ := bn hp;refine wpo_callK hp0 rfl (ys := [v_0]) (by simp only [evs, List.map_cons, List.map_nil, ev_t, ev_c, g13]) (R_semigroupref19_Minimal hst h_0 e12) ?_;rintro rv13 H ⟨W, w14, fg15, hst, o16⟩;replace h_0 := Rp.mono w14 h_0;refine wpo_seg hp0 1 (fun s H' => s.length = 21 ∧ gt s 4 = rv13 ∧ H = H') (by simp only [↓runs, isCall, ↓reduceIte, ↓gd_true, ↓gd_false, evs, AV.cells, Nat.reduceEqDiff, Nat.reduceLT, reduceCtorEq, Nat.reduceAdd, sy, gt_other, g13, hl]) ?_;rintro s _ ⟨hl, g4, rfl⟩;refine wpo_nil (then_n ?_);refine AM.wp_seq hp0 (AM.wp_seq hp0 (AM.wp_reg hp0 ?_));have f17 := ow_ln o16;have b18 := ow_big o16;refine wpo_seg hp0 3 (fun s H' => s.length = 21 ∧ gt s 4 = rv13 ∧ gt s 17 = .bool (!decide ((r11.length : Int) = 1)) ∧ H = H') (by simp only [↓runs, isCall, ↓reduceIte, ↓gd_true, ↓gd_false, evs, AV.cells, Nat.reduceEqDiff, Nat.reduceLT, reduceCtorEq, Nat.reduceAdd, sy, f17, g4, hl]) ?_;rintro s _ ⟨hl, g4, g17, rfl⟩;refine wpo_nil (then_n ?_);rcases Bool.eq_false_or_eq_true (!decide ((r11.length : Int) = 1)) with c19 | c19
   ·replace hp := ifT c19 hp;refine AM.wp_condT (by simp only [ev_t, ev_c, g17, c19]) ?_;refine AM.wp_seq hp0 (AM.wp_reg hp0 ?_);refine wpo_seg hp0 2 (fun s H' => s.length = 21 ∧ gt s 2 = .nils ∧ gt s 3 = .bool false ∧ H = H') (by simp only [↓runs, isCall, ↓reduceIte, ↓gd_true, ↓gd_false, evs, AV.cells, Nat.reduceEqDiff, Nat.reduceLT, reduceCtorEq, Nat.reduceAdd, sy, g4, g17, hl]) ?_;rintro s _ ⟨hl, g2, g3, rfl⟩;refine wpo_nil (then_n ?_);refine AM.wp_ret ?_;refine then_r ?_;obtain rfl := Option.some.inj hp;replace hst := hst.drop;refine body_ret (vs := [.nils, .bool false]) (by simp only [rvs, f_semigroupref22_Irreducible, Option.map_some, g2, g3]) ?_;exact ⟨W, (w9.trans w14), _, hst, rfl, (fz_nil _)⟩
   ·replace hp := ifF c19 hp;refine AM.wp_condF (by simp only [ev_t, ev_c, g17, c19]) ?_;refine AM.wp_skip ?_;refine then_n ?_;refine AM.wp_seq hp0 (AM.wp_reg hp0 ?_);obtain ⟨x20, e21, hp⟩ := bn hp;obtain ⟨p22, y23, f24, f25, h26⟩ := ow_at (k := .i64) hst (.head _) o16 e21 rfl;refine wpo_seg hp0 5 (fun s H' => s.length = 21 ∧ gt s 2 = y23 ∧ gt s 3 = .bool true ∧ H = H') (by simp only [↓runs, isCall, ↓reduceIte, ↓gd_true, ↓gd_false, evs, AV.cells, Nat.reduceEqDiff, Nat.reduceLT, reduceCtorEq, Nat.reduceAdd, sy, f24, f25, g4, g17, hl]) ?_;rintro s _ ⟨hl, g2, g3, rfl⟩;refine wpo_nil (then_n ?_);refine AM.wp_ret ?_;obtain rfl := Option.some.inj hp;replace hst := hst.drop;refine body_ret (vs := [y23, .bool true]) (by simp only [rvs, f_semigroupref22_Irreducible, Option.map_some, g2, g3]) ?_;exact ⟨W, (w9.trans w14), _, hst, rfl, h26⟩

end Go.Proofs.Ytmdpejgnkoneoaa.Pu
