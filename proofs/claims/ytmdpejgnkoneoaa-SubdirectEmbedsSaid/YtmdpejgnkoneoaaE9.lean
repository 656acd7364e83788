/- Part 9 of the proof that the law SubdirectEmbeds holds: words and lemmas it rests on. No condition. -/
import Derived.Test.YtmdpejgnkoneoaaE5
import Derived.Test.YtmdpejgnkoneoaaE8
import Derived.Test.YtmdpejgnkoneoaaE6
import Derived.Test.YtmdpejgnkoneoaaE7
set_option linter.unusedSimpArgs false
set_option linter.unusedVariables false
set_option linter.unnecessarySimpa false
set_option linter.unusedSectionVars false
set_option maxRecDepth 100000
set_option maxHeartbeats 4000000
namespace Go.Proofs.Ytmdpejgnkoneoaa.Pu
open Go Go.AM Go.Proofs.Ytmdpejgnkoneoaa.Code

noncomputable def P_subdirect_Check_l7 (list : List (List Int)) (t : List (List Int)) (k9 : Nat) : Option (Lp (Unit) (Bool)) :=
 Option.bind (gi list (k9 : Int)) fun x16 =>
 Option.bind (P_congr_Quotient t x16) fun r23 =>
 Option.bind (
  if !decide (r23.2 = 0) then
   some true
  else
   Option.bind (P_subdirect_monolith r23.1) fun r32 =>
   some r32.isNone) fun z29 =>
 if z29 then
  some (.ex false)
 else
  some (.go ())
noncomputable def P_subdirect_Check_l57 (list : List (List Int)) (t : List (List Int)) (k59 : Nat) : Option (Lp (Unit) (Bool)) :=
 Option.bind (P_subdirect_meet (t.length : Int) list (k59 : Int)) fun r67 =>
 Option.bind (P_subdirect_discrete r67) fun r75 =>
 if r75 then
  some (.ex false)
 else
  some (.go ())
noncomputable def P_subdirect_Check (t : List (List Int)) (list : List (List Int)) : Option (Bool) :=
 Option.bind (P_mult_Validate t) fun r1 =>
 if !decide (r1 = 0) then
  some false
 else
  Option.bind (forR list.length (fun k x => P_subdirect_Check_l7 list t k) ()) fun z13 =>
  match z13 with
  | .inl x40 =>
   Option.bind (P_subdirect_meet (t.length : Int) list (-1)) fun r43 =>
   Option.bind (P_subdirect_discrete r43) fun r51 =>
   if !r51 then
    some false
   else
    Option.bind (forR list.length (fun k x => P_subdirect_Check_l57 list t k) ()) fun z63 =>
    match z63 with
    | .inl x80 =>
     some true
    | .inr b => some b
  | .inr b => some b
theorem R_subdirect_Check {G : List Frag} {W H : AH} {v_0 v_1 : AV} {t : List (List Int)} {list : List (List Int)} (hst : St G W H) (h_0 : Rp.rv W v_0 t) (h_1 : Rp.rv W v_1 list) {r : Bool} (hp : P_subdirect_Check t list = some r) :
  wpc E0 N_subdirect_Check [v_0, v_1] H fun rv H' => ∃ W', Wle W W' ∧ St G W' H' ∧ rv = .bool r := by
 refine enterN (F := f_subdirect_Check) rfl (Nat.le_of_ble_eq_true rfl) fun s hl hg => ?_;replace hl : s.length = 51 := hl;have g0 : gt s 0 = v_0 := hg 0 (Nat.le_of_ble_eq_true rfl);have g1 : gt s 1 = v_1 := hg 1 (Nat.le_of_ble_eq_true rfl);clear hg;unfold P_subdirect_Check at hp;show wp E0 c_subdirect_Check s H _;unfold c_subdirect_Check;refine AM.wp_seq hp0 (AM.wp_reg hp0 ?_);refine wpo_seg hp0 1 (fun s H' => s.length = 51 ∧ gt s 0 = v_0 ∧ gt s 1 = v_1 ∧ H = H') (by simp only [↓runs, isCall, ↓reduceIte, ↓gd_true, ↓gd_false, evs, AV.cells, Nat.reduceEqDiff, Nat.reduceLT, reduceCtorEq, Nat.reduceAdd, sy, g0, g1, hl]) ?_;rintro s _ ⟨hl, g0, g1, rfl⟩;refine wpo_nil (then_n ?_);refine AM.wp_seq hp0 (AM.wp_seq hp0 (AM.wp_reg hp0 ?_));refine wpo_seg hp0 1 (fun s H' => s.length = 51 ∧ gt s 0 = v_0 ∧ gt s 1 = v_1 ∧ gt s 10 = v_0 ∧ H = H') (by simp only [↓runs, isCall, ↓reduceIte, ↓gd_true, ↓gd_false, evs, AV.cells, Nat.reduceEqDiff, Nat.reduceLT, reduceCtorEq, Nat.reduceAdd, sy, g0, g1, hl]) ?_;rintro s _ ⟨hl, g0, g1, g10, rfl⟩;obtain ⟨r1, e2, hp⟩ := bn hp;refine wpo_callK hp0 rfl (ys := [v_0]) (by simp only [evs, List.map_cons, List.map_nil, ev_t, ev_c, g10]) (R_mult_Validate hst h_0 e2) ?_;rintro rv3 H ⟨W, w4, hst, rfl⟩;replace h_0 := Rp.mono w4 h_0;replace h_1 := Rp.mono w4 h_1;refine wpo_seg hp0 1 (fun s H' => s.length = 51 ∧ gt s 0 = v_0 ∧ gt s 1 = v_1 ∧ gt s 12 = .bool (!decide (r1 = 0)) ∧ H = H') (by simp only [↓runs, isCall, ↓reduceIte, ↓gd_true, ↓gd_false, evs, AV.cells, Nat.reduceEqDiff, Nat.reduceLT, reduceCtorEq, Nat.reduceAdd, sy, gt_other, g0, g1, g10, hl]) ?_;rintro s _ ⟨hl, g0, g1, g12, rfl⟩;refine wpo_nil (then_n ?_);rcases Bool.eq_false_or_eq_true (!decide (r1 = 0)) with c5 | c5
 ·replace hp := ifT c5 hp;refine AM.wp_condT (by simp only [ev_t, ev_c, g12, c5]) ?_;refine AM.wp_seq hp0 (AM.wp_reg hp0 ?_);refine wpo_seg hp0 1 (fun s H' => s.length = 51 ∧ gt s 4 = .bool false ∧ H = H') (by simp only [↓runs, isCall, ↓reduceIte, ↓gd_true, ↓gd_false, evs, AV.cells, Nat.reduceEqDiff, Nat.reduceLT, reduceCtorEq, Nat.reduceAdd, sy, g0, g1, g12, hl]) ?_;rintro s _ ⟨hl, g4, rfl⟩;refine wpo_nil (then_n ?_);refine AM.wp_ret ?_;refine then_r ?_;obtain rfl := Option.some.inj hp;refine body_ret (vs := [.bool false]) (by simp only [rvs, f_subdirect_Check, Option.map_some, g4]) ?_;exact ⟨W, w4, hst, rfl⟩
 ·replace hp := ifF c5 hp;refine AM.wp_condF (by simp only [ev_t, ev_c, g12, c5]) ?_;refine AM.wp_skip ?_;refine then_n ?_;refine AM.wp_seq hp0 (AM.wp_seq hp0 (AM.wp_reg hp0 ?_));have f6 := fz_ln h_1;refine wpo_seg hp0 3 (fun s H' => s.length = 51 ∧ gt s 0 = v_0 ∧ gt s 1 = v_1 ∧ gt s 13 = v_1 ∧ gt s 14 = .int .i64 (list.length : Int) ∧ gt s 15 = .int .i64 0 ∧ H = H') (by simp only [↓runs, isCall, ↓reduceIte, ↓gd_true, ↓gd_false, evs, AV.cells, Nat.reduceEqDiff, Nat.reduceLT, reduceCtorEq, Nat.reduceAdd, sy, f6, g0, g1, g12, hl]) ?_;rintro s _ ⟨hl, g0, g1, g13, g14, g15, rfl⟩;refine wpo_nil (then_n ?_);obtain ⟨z13, e14, hp⟩ := bn hp;refine range_ref hp0 51 list.length (fun k x => P_subdirect_Check_l7 list t k) (fun _ x s H' => ∃ (W' : AH), s.length = 51 ∧ gt s 0 = v_0 ∧ gt s 1 = v_1 ∧ gt s 13 = v_1 ∧  Wle W W' ∧ St G W' H') (fun _ x s H' => ∃ (W' : AH), s.length = 51 ∧ gt s 0 = v_0 ∧ gt s 1 = v_1 ∧  Wle W W' ∧ St G W' H') e14 (fz_big h_1) rfl ?_ ?_ hl g15 g14 ?_ ?_
  ·intro k x s H d v hd h; rcases hd with rfl | rfl | rfl <;> simpa only [gt_other, pt_length, Nat.reduceEqDiff, not_false_eq_true] using h
  ·exact ⟨W, hl, g0, g1, g13, .refl _, hst⟩
  ·intro k9 x8 y10 s H hk hI hl g15 g14 hy11 hx12;change P_subdirect_Check_l7 list t k9 = some y10 at hy11;unfold P_subdirect_Check_l7 at hy11;obtain ⟨W, hl, g0, g1, g13, w15, hst⟩ := hI;replace h_0 := Rp.mono w15 h_0;replace h_1 := Rp.mono w15 h_1;refine AM.wp_seq hp0 (AM.wp_reg hp0 ?_);obtain ⟨x16, e17, hy11⟩ := bn hy11;obtain ⟨p18, y19, f20, f21, h22⟩ := fz_at (k := .i64) hst h_1 e17 rfl;refine wpo_seg hp0 3 (fun s H' => s.length = 51 ∧ gt s 0 = v_0 ∧ gt s 1 = v_1 ∧ gt s 6 = y19 ∧ gt s 13 = v_1 ∧ gt s 14 = .int .i64 (list.length : Int) ∧ gt s 15 = .int .i64 (k9 : Int) ∧ H = H') (by simp only [↓runs, isCall, ↓reduceIte, ↓gd_true, ↓gd_false, evs, AV.cells, Nat.reduceEqDiff, Nat.reduceLT, reduceCtorEq, Nat.reduceAdd, sy, f20, f21, g0, g1, g13, g14, g15, hl]) ?_;rintro s _ ⟨hl, g0, g1, g6, g13, g14, g15, rfl⟩;refine wpo_nil (then_n ?_);refine AM.wp_seq hp0 (AM.wp_reg hp0 ?_);refine wpo_seg hp0 2 (fun s H' => s.length = 51 ∧ gt s 0 = v_0 ∧ gt s 1 = v_1 ∧ gt s 13 = v_1 ∧ gt s 14 = .int .i64 (list.length : Int) ∧ gt s 15 = .int .i64 (k9 : Int) ∧ gt s 20 = v_0 ∧ gt s 21 = y19 ∧ H = H') (by simp only [↓runs, isCall, ↓reduceIte, ↓gd_true, ↓gd_false, evs, AV.cells, Nat.reduceEqDiff, Nat.reduceLT, reduceCtorEq, Nat.reduceAdd, sy, g0, g1, g6, g13, g14, g15, hl]) ?_;rintro s _ ⟨hl, g0, g1, g13, g14, g15, g20, g21, rfl⟩;obtain ⟨r23, e24, hy11⟩ := bn hy11;refine wpo_callK hp0 rfl (ys := [v_0, y19]) (by simp only [evs, List.map_cons, List.map_nil, ev_t, ev_c, g20, g21]) (R_congr_Quotient hst h_0 h22 e24) ?_;rintro rv25 H ⟨W, w26, v27, hst, rfl, h28⟩;replace h_0 := Rp.mono w26 h_0;replace h_1 := Rp.mono w26 h_1;replace h22 := Rp.mono w26 h22;refine wpo_seg hp0 5 (fun s H' => s.length = 51 ∧ gt s 0 = v_0 ∧ gt s 1 = v_1 ∧ gt s 7 = v27 ∧ gt s 8 = .int .i64 r23.2 ∧ gt s 13 = v_1 ∧ gt s 14 = .int .i64 (list.length : Int) ∧ gt s 15 = .int .i64 (k9 : Int) ∧ H = H') (by simp only [↓runs, isCall, ↓reduceIte, ↓gd_true, ↓gd_false, evs, AV.cells, Nat.reduceEqDiff, Nat.reduceLT, reduceCtorEq, Nat.reduceAdd, sy, gt_other, g0, g1, g13, g14, g15, g20, g21, hl]) ?_;rintro s _ ⟨hl, g0, g1, g7, g8, g13, g14, g15, rfl⟩;refine wpo_nil (then_n ?_);refine AM.wp_seq hp0 ?_;obtain ⟨z29, hj30, hy11⟩ := bn hy11;refine AM.wp_regK hp0 (fun s H' => ∃ (W' : AH), s.length = 51 ∧ gt s 31 = .bool z29 ∧ gt s 0 = v_0 ∧ gt s 1 = v_1 ∧ gt s 13 = v_1 ∧ gt s 14 = .int .i64 (list.length : Int) ∧ gt s 15 = .int .i64 (k9 : Int) ∧  Wle W W' ∧ St G W' H') ?_ ?_
   ·rcases Bool.eq_false_or_eq_true (!decide (r23.2 = 0)) with c31 | c31
    ·replace hj30 := ifT c31 hj30;refine wpo_seg hp0 7 (fun s H' => s.length = 51 ∧ gt s 0 = v_0 ∧ gt s 1 = v_1 ∧ gt s 13 = v_1 ∧ gt s 14 = .int .i64 (list.length : Int) ∧ gt s 15 = .int .i64 (k9 : Int) ∧ gt s 31 = .bool true ∧ H = H') (by simp only [↓runs, isCall, ↓reduceIte, ↓gd_true, ↓gd_false, evs, AV.cells, Nat.reduceEqDiff, Nat.reduceLT, reduceCtorEq, Nat.reduceAdd, sy, c31, g0, g1, g7, g8, g13, g14, g15, hl]) ?_;rintro s _ ⟨hl, g0, g1, g13, g14, g15, g31, rfl⟩;refine wpo_nil ?_;obtain rfl := Option.some.inj hj30;exact ⟨W, hl, g31, g0, g1, g13, g14, g15, .refl _, hst⟩
    ·replace hj30 := ifF c31 hj30;refine wpo_seg hp0 4 (fun s H' => s.length = 51 ∧ gt s 0 = v_0 ∧ gt s 1 = v_1 ∧ gt s 13 = v_1 ∧ gt s 14 = .int .i64 (list.length : Int) ∧ gt s 15 = .int .i64 (k9 : Int) ∧ gt s 27 = .bool false ∧ gt s 28 = v27 ∧ H = H') (by simp only [↓runs, isCall, ↓reduceIte, ↓gd_true, ↓gd_false, evs, AV.cells, Nat.reduceEqDiff, Nat.reduceLT, reduceCtorEq, Nat.reduceAdd, sy, c31, g0, g1, g7, g8, g13, g14, g15, hl]) ?_;rintro s _ ⟨hl, g0, g1, g13, g14, g15, g27, g28, rfl⟩;obtain ⟨r32, e33, hj30⟩ := bn hj30;refine wpo_callK hp0 (by simp only [wanted, g27, beq_self_eq_true]) (ys := [v27]) (by simp only [evs, List.map_cons, List.map_nil, ev_t, ev_c, g28]) (R_subdirect_monolith hst h28 e33) ?_;rintro rv34 H ⟨W, w35, hst, h36⟩;replace h_0 := Rp.mono w35 h_0;replace h_1 := Rp.mono w35 h_1;replace h22 := Rp.mono w35 h22;replace h28 := Rp.mono w35 h28;have f37 := nl_eq h36;refine wpo_seg hp0 2 (fun s H' => s.length = 51 ∧ gt s 0 = v_0 ∧ gt s 1 = v_1 ∧ gt s 13 = v_1 ∧ gt s 14 = .int .i64 (list.length : Int) ∧ gt s 15 = .int .i64 (k9 : Int) ∧ gt s 31 = .bool r32.isNone ∧ H = H') (by simp only [↓runs, isCall, ↓reduceIte, ↓gd_true, ↓gd_false, evs, AV.cells, Nat.reduceEqDiff, Nat.reduceLT, reduceCtorEq, Nat.reduceAdd, sy, gt_other, f37, g0, g1, g13, g14, g15, g27, g28, hl]) ?_;rintro s _ ⟨hl, g0, g1, g13, g14, g15, g31, rfl⟩;refine wpo_nil ?_;obtain rfl := Option.some.inj hj30;exact ⟨W, hl, g31, g0, g1, g13, g14, g15, w35, hst⟩
   ·rintro s H ⟨W, hl, g31, g0, g1, g13, g14, g15, w38, hst⟩;replace h_0 := Rp.mono w38 h_0;replace h_1 := Rp.mono w38 h_1;refine then_n ?_;rcases Bool.eq_false_or_eq_true (z29) with c39 | c39
    ·replace hy11 := ifT c39 hy11;refine AM.wp_condT (by simp only [ev_t, ev_c, g31, c39]) ?_;refine AM.wp_seq hp0 (AM.wp_reg hp0 ?_);refine wpo_seg hp0 1 (fun s H' => s.length = 51 ∧ gt s 4 = .bool false ∧ H = H') (by simp only [↓runs, isCall, ↓reduceIte, ↓gd_true, ↓gd_false, evs, AV.cells, Nat.reduceEqDiff, Nat.reduceLT, reduceCtorEq, Nat.reduceAdd, sy, g0, g1, g13, g14, g15, g31, hl]) ?_;rintro s _ ⟨hl, g4, rfl⟩;refine wpo_nil (then_n ?_);refine AM.wp_ret ?_;refine rnd_r ?_;refine then_r ?_;obtain rfl := Option.some.inj hy11;have hx := hx12 _ rfl;subst hx;dsimp only at hp;obtain rfl := Option.some.inj hp;refine body_ret (vs := [.bool false]) (by simp only [rvs, f_subdirect_Check, Option.map_some, g4]) ?_;exact ⟨W, (((w4.trans w15).trans w26).trans w38), hst, rfl⟩
    ·replace hy11 := ifF c39 hy11;refine AM.wp_condF (by simp only [ev_t, ev_c, g31, c39]) ?_;refine AM.wp_skip ?_;refine rnd_n ?_;obtain rfl := Option.some.inj hy11;exact ⟨_, rfl, hl, g15, g14, ⟨W, hl, g0, g1, g13, ((w15.trans w26).trans w38), hst⟩⟩
  ·rintro x40 s Hn hz hI;replace hI : (fun s H' => ∃ (W' : AH), s.length = 51 ∧ gt s 0 = v_0 ∧ gt s 1 = v_1 ∧  Wle W W' ∧ St G W' H') s Hn := by
    rcases hI with ⟨hI, -⟩ | ⟨_, hI⟩
    ·obtain ⟨W2, hl, g0, g1, g13, w2, hst2⟩ := hI;exact ⟨W2, hl, g0, g1, w2, hst2⟩
    ·exact hI
   obtain ⟨H, rfl⟩ : ∃ K, K = Hn := ⟨_, rfl⟩;subst hz;dsimp only at hp hI;obtain ⟨W, hl, g0, g1, w41, hst⟩ := hI;replace h_0 := Rp.mono w41 h_0;replace h_1 := Rp.mono w41 h_1;refine then_n ?_;refine AM.wp_seq hp0 (AM.wp_seq hp0 (AM.wp_reg hp0 ?_));have f42 := fz_ln h_0;refine wpo_seg hp0 3 (fun s H' => s.length = 51 ∧ gt s 0 = v_0 ∧ gt s 1 = v_1 ∧ gt s 34 = .int .i64 (t.length : Int) ∧ gt s 35 = v_1 ∧ H = H') (by simp only [↓runs, isCall, ↓reduceIte, ↓gd_true, ↓gd_false, evs, AV.cells, Nat.reduceEqDiff, Nat.reduceLT, reduceCtorEq, Nat.reduceAdd, sy, f42, g0, g1, hl]) ?_;rintro s _ ⟨hl, g0, g1, g34, g35, rfl⟩;obtain ⟨r43, e44, hp⟩ := bn hp;refine wpo_callK hp0 rfl (ys := [.int .i64 (t.length : Int), v_1, .int .i64 (-1)]) (by simp only [evs, List.map_cons, List.map_nil, ev_t, ev_c, g34, g35]) (R_subdirect_meet hst h_1 e44) ?_;rintro rv45 H ⟨W, w46, fg47, hst, o48⟩;replace h_0 := Rp.mono w46 h_0;replace h_1 := Rp.mono w46 h_1;refine wpo_seg hp0 0 (fun s H' => s.length = 51 ∧ gt s 0 = v_0 ∧ gt s 1 = v_1 ∧ gt s 36 = rv45 ∧ H = H') (by simp only [↓runs, isCall, ↓reduceIte, ↓gd_true, ↓gd_false, evs, AV.cells, Nat.reduceEqDiff, Nat.reduceLT, reduceCtorEq, Nat.reduceAdd, sy, gt_other, g0, g1, g34, g35, hl]) ?_;rintro s _ ⟨hl, g0, g1, g36, rfl⟩;obtain ⟨W, w50, hst, h49⟩ := ow_frz hst o48;replace h_0 := Rp.mono w50 h_0;replace h_1 := Rp.mono w50 h_1;obtain ⟨r51, e52, hp⟩ := bn hp;refine wpo_callK hp0 rfl (ys := [rv45]) (by simp only [evs, List.map_cons, List.map_nil, ev_t, ev_c, g36]) (R_subdirect_discrete hst h49 e52) ?_;rintro rv53 H ⟨W, w54, hst, rfl⟩;replace h_0 := Rp.mono w54 h_0;replace h_1 := Rp.mono w54 h_1;replace h49 := Rp.mono w54 h49;refine wpo_seg hp0 1 (fun s H' => s.length = 51 ∧ gt s 0 = v_0 ∧ gt s 1 = v_1 ∧ gt s 38 = .bool (!r51) ∧ H = H') (by simp only [↓runs, isCall, ↓reduceIte, ↓gd_true, ↓gd_false, evs, AV.cells, Nat.reduceEqDiff, Nat.reduceLT, reduceCtorEq, Nat.reduceAdd, sy, gt_other, g0, g1, g36, hl]) ?_;rintro s _ ⟨hl, g0, g1, g38, rfl⟩;refine wpo_nil (then_n ?_);rcases Bool.eq_false_or_eq_true (!r51) with c55 | c55
   ·replace hp := ifT c55 hp;refine AM.wp_condT (by simp only [ev_t, ev_c, g38, c55]) ?_;refine AM.wp_seq hp0 (AM.wp_reg hp0 ?_);refine wpo_seg hp0 1 (fun s H' => s.length = 51 ∧ gt s 4 = .bool false ∧ H = H') (by simp only [↓runs, isCall, ↓reduceIte, ↓gd_true, ↓gd_false, evs, AV.cells, Nat.reduceEqDiff, Nat.reduceLT, reduceCtorEq, Nat.reduceAdd, sy, g0, g1, g38, hl]) ?_;rintro s _ ⟨hl, g4, rfl⟩;refine wpo_nil (then_n ?_);refine AM.wp_ret ?_;refine then_r ?_;obtain rfl := Option.some.inj hp;refine body_ret (vs := [.bool false]) (by simp only [rvs, f_subdirect_Check, Option.map_some, g4]) ?_;exact ⟨W, ((((w4.trans w41).trans w46).trans w50).trans w54), hst, rfl⟩
   ·replace hp := ifF c55 hp;refine AM.wp_condF (by simp only [ev_t, ev_c, g38, c55]) ?_;refine AM.wp_skip ?_;refine then_n ?_;refine AM.wp_seq hp0 (AM.wp_seq hp0 (AM.wp_reg hp0 ?_));have f56 := fz_ln h_1;refine wpo_seg hp0 3 (fun s H' => s.length = 51 ∧ gt s 0 = v_0 ∧ gt s 1 = v_1 ∧ gt s 40 = .int .i64 (list.length : Int) ∧ gt s 41 = .int .i64 0 ∧ H = H') (by simp only [↓runs, isCall, ↓reduceIte, ↓gd_true, ↓gd_false, evs, AV.cells, Nat.reduceEqDiff, Nat.reduceLT, reduceCtorEq, Nat.reduceAdd, sy, f56, g0, g1, g38, hl]) ?_;rintro s _ ⟨hl, g0, g1, g40, g41, rfl⟩;refine wpo_nil (then_n ?_);obtain ⟨z63, e64, hp⟩ := bn hp;refine range_ref hp0 51 list.length (fun k x => P_subdirect_Check_l57 list t k) (fun _ x s H' => ∃ (W' : AH), s.length = 51 ∧ gt s 0 = v_0 ∧ gt s 1 = v_1 ∧  Wle W W' ∧ St G W' H') (fun _ x s H' => ∃ (W' : AH), s.length = 51 ∧  Wle W W' ∧ St G W' H') e64 (fz_big h_1) rfl ?_ ?_ hl g41 g40 ?_ ?_
    ·intro k x s H d v hd h; rcases hd with rfl | rfl | rfl <;> simpa only [gt_other, pt_length, Nat.reduceEqDiff, not_false_eq_true] using h
    ·exact ⟨W, hl, g0, g1, .refl _, hst⟩
    ·intro k59 x58 y60 s H hk hI hl g41 g40 hy61 hx62;change P_subdirect_Check_l57 list t k59 = some y60 at hy61;unfold P_subdirect_Check_l57 at hy61;obtain ⟨W, hl, g0, g1, w65, hst⟩ := hI;replace h_0 := Rp.mono w65 h_0;replace h_1 := Rp.mono w65 h_1;refine AM.wp_seq hp0 (AM.wp_reg hp0 ?_);refine wpo_seg hp0 2 (fun s H' => s.length = 51 ∧ gt s 0 = v_0 ∧ gt s 1 = v_1 ∧ gt s 9 = .int .i64 (k59 : Int) ∧ gt s 40 = .int .i64 (list.length : Int) ∧ gt s 41 = .int .i64 (k59 : Int) ∧ H = H') (by simp only [↓runs, isCall, ↓reduceIte, ↓gd_true, ↓gd_false, evs, AV.cells, Nat.reduceEqDiff, Nat.reduceLT, reduceCtorEq, Nat.reduceAdd, sy, g0, g1, g40, g41, hl]) ?_;rintro s _ ⟨hl, g0, g1, g9, g40, g41, rfl⟩;refine wpo_nil (then_n ?_);refine AM.wp_seq hp0 (AM.wp_reg hp0 ?_);have f66 := fz_ln h_0;refine wpo_seg hp0 4 (fun s H' => s.length = 51 ∧ gt s 0 = v_0 ∧ gt s 1 = v_1 ∧ gt s 40 = .int .i64 (list.length : Int) ∧ gt s 41 = .int .i64 (k59 : Int) ∧ gt s 45 = .int .i64 (t.length : Int) ∧ gt s 46 = v_1 ∧ gt s 47 = .int .i64 (k59 : Int) ∧ H = H') (by simp only [↓runs, isCall, ↓reduceIte, ↓gd_true, ↓gd_false, evs, AV.cells, Nat.reduceEqDiff, Nat.reduceLT, reduceCtorEq, Nat.reduceAdd, sy, f66, g0, g1, g9, g40, g41, hl]) ?_;rintro s _ ⟨hl, g0, g1, g40, g41, g45, g46, g47, rfl⟩;obtain ⟨r67, e68, hy61⟩ := bn hy61;refine wpo_callK hp0 rfl (ys := [.int .i64 (t.length : Int), v_1, .int .i64 (k59 : Int)]) (by simp only [evs, List.map_cons, List.map_nil, ev_t, ev_c, g45, g46, g47]) (R_subdirect_meet hst h_1 e68) ?_;rintro rv69 H ⟨W, w70, fg71, hst, o72⟩;replace h_0 := Rp.mono w70 h_0;replace h_1 := Rp.mono w70 h_1;refine wpo_seg hp0 0 (fun s H' => s.length = 51 ∧ gt s 0 = v_0 ∧ gt s 1 = v_1 ∧ gt s 40 = .int .i64 (list.length : Int) ∧ gt s 41 = .int .i64 (k59 : Int) ∧ gt s 48 = rv69 ∧ H = H') (by simp only [↓runs, isCall, ↓reduceIte, ↓gd_true, ↓gd_false, evs, AV.cells, Nat.reduceEqDiff, Nat.reduceLT, reduceCtorEq, Nat.reduceAdd, sy, gt_other, g0, g1, g40, g41, g45, g46, g47, hl]) ?_;rintro s _ ⟨hl, g0, g1, g40, g41, g48, rfl⟩;obtain ⟨W, w74, hst, h73⟩ := ow_frz hst o72;replace h_0 := Rp.mono w74 h_0;replace h_1 := Rp.mono w74 h_1;obtain ⟨r75, e76, hy61⟩ := bn hy61;refine wpo_callK hp0 rfl (ys := [rv69]) (by simp only [evs, List.map_cons, List.map_nil, ev_t, ev_c, g48]) (R_subdirect_discrete hst h73 e76) ?_;rintro rv77 H ⟨W, w78, hst, rfl⟩;replace h_0 := Rp.mono w78 h_0;replace h_1 := Rp.mono w78 h_1;replace h73 := Rp.mono w78 h73;refine wpo_seg hp0 0 (fun s H' => s.length = 51 ∧ gt s 0 = v_0 ∧ gt s 1 = v_1 ∧ gt s 40 = .int .i64 (list.length : Int) ∧ gt s 41 = .int .i64 (k59 : Int) ∧ gt s 49 = .bool r75 ∧ H = H') (by simp only [↓runs, isCall, ↓reduceIte, ↓gd_true, ↓gd_false, evs, AV.cells, Nat.reduceEqDiff, Nat.reduceLT, reduceCtorEq, Nat.reduceAdd, sy, gt_other, g0, g1, g40, g41, g48, hl]) ?_;rintro s _ ⟨hl, g0, g1, g40, g41, g49, rfl⟩;refine wpo_nil (then_n ?_);rcases Bool.eq_false_or_eq_true (r75) with c79 | c79
     ·replace hy61 := ifT c79 hy61;refine AM.wp_condT (by simp only [ev_t, ev_c, g49, c79]) ?_;refine AM.wp_seq hp0 (AM.wp_reg hp0 ?_);refine wpo_seg hp0 1 (fun s H' => s.length = 51 ∧ gt s 4 = .bool false ∧ H = H') (by simp only [↓runs, isCall, ↓reduceIte, ↓gd_true, ↓gd_false, evs, AV.cells, Nat.reduceEqDiff, Nat.reduceLT, reduceCtorEq, Nat.reduceAdd, sy, g0, g1, g40, g41, g49, hl]) ?_;rintro s _ ⟨hl, g4, rfl⟩;refine wpo_nil (then_n ?_);refine AM.wp_ret ?_;refine rnd_r ?_;refine then_r ?_;obtain rfl := Option.some.inj hy61;have hx := hx62 _ rfl;subst hx;dsimp only at hp;obtain rfl := Option.some.inj hp;refine body_ret (vs := [.bool false]) (by simp only [rvs, f_subdirect_Check, Option.map_some, g4]) ?_;exact ⟨W, ((((((((w4.trans w41).trans w46).trans w50).trans w54).trans w65).trans w70).trans w74).trans w78), hst, rfl⟩
     ·replace hy61 := ifF c79 hy61;refine AM.wp_condF (by simp only [ev_t, ev_c, g49, c79]) ?_;refine AM.wp_skip ?_;refine rnd_n ?_;obtain rfl := Option.some.inj hy61;exact ⟨_, rfl, hl, g41, g40, ⟨W, hl, g0, g1, (((w65.trans w70).trans w74).trans w78), hst⟩⟩
    ·rintro x80 s Hn hz hI;replace hI : (fun s H' => ∃ (W' : AH), s.length = 51 ∧  Wle W W' ∧ St G W' H') s Hn := by
      rcases hI with ⟨hI, -⟩ | ⟨_, hI⟩
      ·obtain ⟨W2, hl, g0, g1, w2, hst2⟩ := hI;exact ⟨W2, hl, w2, hst2⟩
      ·exact hI
     obtain ⟨H, rfl⟩ : ∃ K, K = Hn := ⟨_, rfl⟩;subst hz;dsimp only at hp hI;obtain ⟨W, hl, w81, hst⟩ := hI;replace h_0 := Rp.mono w81 h_0;replace h_1 := Rp.mono w81 h_1;refine then_n ?_;refine AM.wp_seq hp0 (AM.wp_reg hp0 ?_);refine wpo_seg hp0 1 (fun s H' => s.length = 51 ∧ gt s 4 = .bool true ∧ H = H') (by simp only [↓runs, isCall, ↓reduceIte, ↓gd_true, ↓gd_false, evs, AV.cells, Nat.reduceEqDiff, Nat.reduceLT, reduceCtorEq, Nat.reduceAdd, sy, hl]) ?_;rintro s _ ⟨hl, g4, rfl⟩;refine wpo_nil (then_n ?_);refine AM.wp_ret ?_;obtain rfl := Option.some.inj hp;refine body_ret (vs := [.bool true]) (by simp only [rvs, f_subdirect_Check, Option.map_some, g4]) ?_;exact ⟨W, (((((w4.trans w41).trans w46).trans w50).trans w54).trans w81), hst, rfl⟩

end Go.Proofs.Ytmdpejgnkoneoaa.Pu
set_option maxRecDepth 100000
set_option maxHeartbeats 4000000
namespace Go.Proofs.Ytmdpejgnkoneoaa.Pu
open Go Go.AM Go.Proofs.Ytmdpejgnkoneoaa.Code

end Go.Proofs.Ytmdpejgnkoneoaa.Pu
set_option maxRecDepth 100000
set_option maxHeartbeats 4000000
namespace Go.Proofs.Ytmdpejgnkoneoaa.Pu
open Go Go.AM Go.Proofs.Ytmdpejgnkoneoaa.Code

end Go.Proofs.Ytmdpejgnkoneoaa.Pu
namespace Go.Proofs.Ytmdpejgnkoneoaa.Mt
open Go Go.AM Go.AM.Par Go.AM.Cg Go.AM.Lx Go.Proofs.Ytmdpejgnkoneoaa.Pu

def InfTo (list : List (List Int)) (b : Int) (k x y : Nat) : Prop := ∀ j, j < k → (j : Int) ≠ b → (list.getD j []).getD x 0 = (list.getD j []).getD y 0
theorem inf_step {list : List (List Int)} {b : Int} {k x y : Nat} (hb : (k : Int) ≠ b) : (InfTo list b k x y ∧ (list.getD k []).getD x 0 = (list.getD k []).getD y 0) ↔ InfTo list b (k + 1) x y := by
  constructor
  · rintro ⟨h1, h2⟩ j hj hjb
    rcases Nat.lt_or_ge j k with h | h
    · exact h1 j h hjb
    · have : j = k := by omega
      subst this; exact h2
  · intro h; exact ⟨fun j hj => h j (by omega), h k (by omega) hb⟩
theorem inf_skip {list : List (List Int)} {b : Int} {k x y : Nat} (hb : (k : Int) = b) : InfTo list b k x y ↔ InfTo list b (k + 1) x y := by
  constructor
  · intro h1 j hj hjb
    rcases Nat.lt_or_ge j k with h | h
    · exact h1 j h hjb
    · have : j = k := by omega
      subst this; exact absurd hb hjb
  · intro h j hj; exact h j (by omega)
theorem smeet {n : Nat} {list : List (List Int)} (hn : n ≤ 4096) (hl : ∀ k, k < list.length → (list.getD k []).length = n ∧ validP (list.getD k []) = true) (b : Int) :
    ∃ r, P_subdirect_meet (n : Int) list b = some r ∧ IsP n (InfTo list b list.length) r := by
  unfold P_subdirect_meet
  rw [trivial' hn]
  simp only [Option.bind_some]
  obtain ⟨y, hy, hQ⟩ := forS_inv (n := list.length) (f := fun k x => P_subdirect_meet_l8 b list k x) (x := List.replicate n 0) (fun k X => IsP n (InfTo list b k) X)
    ((rep_isP n).mono fun x y _ _ => ⟨fun _ j hj => by omega, fun _ => trivial⟩) (by
      intro k X hk hX
      unfold P_subdirect_meet_l8
      rw [gi_lt [] hk]
      simp only [Option.bind_some]
      by_cases hb : (k : Int) = b
      · have c1 : decide ((k : Int) = b) = true := decide_eq_true hb
        simp only [c1, Bool.not_true, Bool.false_eq_true, if_false]
        exact ⟨_, rfl, hX.mono fun x y _ _ => inf_skip hb⟩
      · have c1 : decide ((k : Int) = b) = false := decide_eq_false hb
        simp only [c1, Bool.not_false, if_true]
        obtain ⟨h1, h2⟩ := hl k hk
        have hs := IsP.self h2
        rw [h1] at hs
        obtain ⟨r, hr, hR⟩ := meet hX hs hn
        rw [hr]
        exact ⟨_, rfl, hR.mono fun x y _ _ => inf_step hb⟩)
  rw [hy]
  exact ⟨_, rfl, hQ⟩
def SI (n : Nat) (T : Nat → Nat → Nat) : Prop := 2 ≤ n ∧ ¬ Disc n (Mon n T)
def Fac (n : Nat) (T : Nat → Nat → Nat) (p : List Int) : Prop := CongL n T 0 p ∧ SI (ncl p) (quoT T p)
def ChkP (n : Nat) (T : Nat → Nat → Nat) (list : List (List Int)) : Prop := (∀ k, k < list.length → Fac n T (list.getD k [])) ∧ Disc n (InfTo list (-1) list.length) ∧ ∀ k, k < list.length → ¬ Disc n (InfTo list (k : Int) list.length)

open Classical in
theorem check {n : Nat} {T : Nat → Nat → Nat} {t : List (List Int)} (h : Sg t n T) (list : List (List Int)) : P_subdirect_Check t list = some (decide (ChkP n T list)) := by
  have h400 := h.le
  unfold P_subdirect_Check
  rw [validate, h.valid, h.len]
  simp only [Option.bind_some, Option.bind_none, decide_true, decide_false, Bool.not_true, Bool.not_false, Bool.true_and, Bool.and_true, Bool.false_eq_true, if_true, if_false, not_true_eq_false, not_false_eq_true, ite_true, ite_false, Bool.not_eq_true, decide_eq_true_eq, decide_eq_false_iff_not, Bool.not_eq_true', Bool.not_eq_false', Option.getD_some, Option.getD_none, Option.isSome_some, Option.isSome_none, Option.isNone_some, Option.isNone_none, eq_self, forall_const, true_implies, false_implies, implies_true]
  rw [look_const (ok := fun k => Fac n T (list.getD k [])) (b := false) fun k hk => by
    unfold P_subdirect_Check_l7
    rw [gi_lt [] hk]
    simp only [Option.bind_some]
    rw [quotient h]
    by_cases hC : CongL n T 0 (list.getD k [])
    · rw [if_pos hC]
      simp only [Option.bind_some, Option.bind_none, decide_true, decide_false, Bool.not_true, Bool.not_false, Bool.true_and, Bool.and_true, Bool.false_eq_true, if_true, if_false, not_true_eq_false, not_false_eq_true, ite_true, ite_false, Bool.not_eq_true, decide_eq_true_eq, decide_eq_false_iff_not, Bool.not_eq_true', Bool.not_eq_false', Option.getD_some, Option.getD_none, Option.isSome_some, Option.isSome_none, Option.isNone_some, Option.isNone_none, eq_self, forall_const, true_implies, false_implies, implies_true]
      rcases monolith (quo_tab h hC) with ⟨a, b⟩ | ⟨p, a, b, c, d⟩
      · rw [a, if_neg (fun hF : Fac n T (list.getD k []) => by
          rcases b with b | b
          · have := hF.2.1; omega
          · exact hF.2.2 b)]
        rfl
      · rw [a, if_pos (show Fac n T (list.getD k []) from ⟨hC, b, c⟩)]
        rfl
    · rw [if_neg hC, if_neg (fun hF : Fac n T (list.getD k []) => hC hF.1)]
      rfl]
  by_cases hA : ∀ k, k < list.length → Fac n T (list.getD k [])
  · have hl : ∀ k, k < list.length → (list.getD k []).length = n ∧ validP (list.getD k []) = true := fun k hk => ⟨(hA k hk).1.1, (hA k hk).1.2.1⟩
    rw [if_pos hA]
    obtain ⟨r, e, hr⟩ := smeet (by omega) hl (-1)
    simp only [Option.bind_some]
    rw [e]
    simp only [Option.bind_some]
    rw [discrete hr (by omega)]
    simp only [Option.bind_some]
    by_cases hD : Disc n (InfTo list (-1) list.length)
    · rw [decide_eq_true hD]
      simp only [Bool.not_true, Bool.false_eq_true, if_false, Bool.true_eq_false, reduceCtorEq]
      rw [look_const (ok := fun k => ¬ Disc n (InfTo list (k : Int) list.length)) (b := false) fun k hk => by
        unfold P_subdirect_Check_l57
        obtain ⟨r, e, hr⟩ := smeet (by omega) hl (k : Int)
        rw [h.len, e]
        simp only [Option.bind_some]
        rw [discrete hr (by omega)]
        simp only [Option.bind_some]
        by_cases hd : Disc n (InfTo list (k : Int) list.length)
        · rw [decide_eq_true hd, if_neg (show ¬ ¬ Disc n (InfTo list (k : Int) list.length) from fun h => h hd)]; rfl
        · rw [decide_eq_false hd, if_pos hd]; rfl]
      by_cases hB : ∀ k, k < list.length → ¬ Disc n (InfTo list (k : Int) list.length)
      · rw [if_pos hB, decide_eq_true (show ChkP n T list from ⟨hA, hD, hB⟩)]; rfl
      · rw [if_neg hB, decide_eq_false (fun hc : ChkP n T list => hB hc.2.2)]; rfl
    · rw [decide_eq_false hD, decide_eq_false (fun hc : ChkP n T list => hD hc.2.1)]
      rfl
  · rw [if_neg hA, decide_eq_false (fun hc : ChkP n T list => hA hc.1)]
    rfl

end Go.Proofs.Ytmdpejgnkoneoaa.Mt
set_option maxRecDepth 100000
set_option maxHeartbeats 4000000
namespace Go.Proofs.Ytmdpejgnkoneoaa.Pu
open Go Go.AM Go.Proofs.Ytmdpejgnkoneoaa.Code

noncomputable def P_semigrouplaw22_klein : Option ((List (List Int))) :=
 some ([[0, 1, 2, 3], [1, 0, 3, 2], [2, 3, 0, 1], [3, 2, 1, 0]])
theorem R_semigrouplaw22_klein {G : List Frag} {W H : AH} (hst : St G W H) {r : (List (List Int))} (hp : P_semigrouplaw22_klein = some r) :
  wpc E0 N_semigrouplaw22_klein [] H fun rv H' => ∃ W', Wle W W' ∧ ∃ (g0 : Frag), St (g0 :: G) W' H' ∧ OwS W' rv g0 (r : List (List Int)) := by
 refine enterN (F := f_semigrouplaw22_klein) rfl (Nat.le_of_ble_eq_true rfl) fun s hl hg => ?_;replace hl : s.length = 6 := hl;clear hg;unfold P_semigrouplaw22_klein at hp;show wp E0 c_semigrouplaw22_klein s H _;unfold c_semigrouplaw22_klein;refine AM.wp_seq hp0 (AM.wp_reg hp0 ?_);refine wpo_seg hp0 1 (fun s H' => s.length = 6 ∧ H = H') (by simp only [↓runs, isCall, ↓reduceIte, ↓gd_true, ↓gd_false, evs, AV.cells, Nat.reduceEqDiff, Nat.reduceLT, reduceCtorEq, Nat.reduceAdd, sy, hl]) ?_;rintro s _ ⟨hl, rfl⟩;refine wpo_nil (then_n ?_);refine AM.wp_seq hp0 (AM.wp_reg hp0 ?_);obtain ⟨v1, l2, H3, fg4, W, f6, f7, f8, w5, hst, o9⟩ := ow_lit' (n := 1) (k := 4) (z := [.int .i64 0, .int .i64 0, .int .i64 0, .int .i64 0]) (ys := [.int .i64 0, .int .i64 1, .int .i64 2, .int .i64 3]) (M := ([0, 1, 2, 3] : List (Int))) [(0, 1, .int .i64 0), (1, 1, .int .i64 1), (2, 1, .int .i64 2), (3, 1, .int .i64 3)] rfl rfl hst (sc_cons (show Rp.rv _ (.int .i64 0) (0 : Int) from rfl) (sc_cons (show Rp.rv _ (.int .i64 1) (1 : Int) from rfl) (sc_cons (show Rp.rv _ (.int .i64 2) (2 : Int) from rfl) (sc_cons (show Rp.rv _ (.int .i64 3) (3 : Int) from rfl) (sc_nil))))) ((List.forall_mem_cons.2 ⟨rfl, (List.forall_mem_cons.2 ⟨rfl, (List.forall_mem_cons.2 ⟨rfl, (List.forall_mem_cons.2 ⟨rfl, fun _ h => (List.not_mem_nil h).elim⟩)⟩)⟩)⟩)) rfl rfl rfl (by decide);obtain ⟨v10, l11, H12, fg13, W, f15, f16, f17, w14, hst, o18⟩ := ow_lit' (n := 1) (k := 4) (z := [.int .i64 0, .int .i64 0, .int .i64 0, .int .i64 0]) (ys := [.int .i64 1, .int .i64 0, .int .i64 3, .int .i64 2]) (M := ([1, 0, 3, 2] : List (Int))) [(0, 1, .int .i64 1), (1, 1, .int .i64 0), (2, 1, .int .i64 3), (3, 1, .int .i64 2)] rfl rfl hst (sc_cons (show Rp.rv _ (.int .i64 1) (1 : Int) from rfl) (sc_cons (show Rp.rv _ (.int .i64 0) (0 : Int) from rfl) (sc_cons (show Rp.rv _ (.int .i64 3) (3 : Int) from rfl) (sc_cons (show Rp.rv _ (.int .i64 2) (2 : Int) from rfl) (sc_nil))))) ((List.forall_mem_cons.2 ⟨rfl, (List.forall_mem_cons.2 ⟨rfl, (List.forall_mem_cons.2 ⟨rfl, (List.forall_mem_cons.2 ⟨rfl, fun _ h => (List.not_mem_nil h).elim⟩)⟩)⟩)⟩)) rfl rfl rfl (by decide);replace o9 := o9.mono w14;obtain ⟨v19, l20, H21, fg22, W, f24, f25, f26, w23, hst, o27⟩ := ow_lit' (n := 1) (k := 4) (z := [.int .i64 0, .int .i64 0, .int .i64 0, .int .i64 0]) (ys := [.int .i64 2, .int .i64 3, .int .i64 0, .int .i64 1]) (M := ([2, 3, 0, 1] : List (Int))) [(0, 1, .int .i64 2), (1, 1, .int .i64 3), (2, 1, .int .i64 0), (3, 1, .int .i64 1)] rfl rfl hst (sc_cons (show Rp.rv _ (.int .i64 2) (2 : Int) from rfl) (sc_cons (show Rp.rv _ (.int .i64 3) (3 : Int) from rfl) (sc_cons (show Rp.rv _ (.int .i64 0) (0 : Int) from rfl) (sc_cons (show Rp.rv _ (.int .i64 1) (1 : Int) from rfl) (sc_nil))))) ((List.forall_mem_cons.2 ⟨rfl, (List.forall_mem_cons.2 ⟨rfl, (List.forall_mem_cons.2 ⟨rfl, (List.forall_mem_cons.2 ⟨rfl, fun _ h => (List.not_mem_nil h).elim⟩)⟩)⟩)⟩)) rfl rfl rfl (by decide);replace o9 := o9.mono w23;replace o18 := o18.mono w23;obtain ⟨v28, l29, H30, fg31, W, f34, f35, f36, w33, hst, o37⟩ := ow_lit' (n := 1) (k := 4) (z := [.int .i64 0, .int .i64 0, .int .i64 0, .int .i64 0]) (ys := [.int .i64 3, .int .i64 2, .int .i64 1, .int .i64 0]) (M := ([3, 2, 1, 0] : List (Int))) [(0, 1, .int .i64 3), (1, 1, .int .i64 2), (2, 1, .int .i64 1), (3, 1, .int .i64 0)] rfl rfl hst (sc_cons (show Rp.rv _ (.int .i64 3) (3 : Int) from rfl) (sc_cons (show Rp.rv _ (.int .i64 2) (2 : Int) from rfl) (sc_cons (show Rp.rv _ (.int .i64 1) (1 : Int) from rfl) (sc_cons (show Rp.rv _ (.int .i64 0) (0 : Int) from rfl) (sc_nil))))) ((List.forall_mem_cons.2 ⟨rfl, (List.forall_mem_cons.2 ⟨rfl, (List.forall_mem_cons.2 ⟨rfl, (List.forall_mem_cons.2 ⟨rfl, fun _ h => (List.not_mem_nil h).elim⟩)⟩)⟩)⟩)) rfl rfl rfl (by decide);replace o9 := o9.mono w33;replace o18 := o18.mono w33;replace o27 := o27.mono w33;replace hst := hst.p3;obtain ⟨W, w39, hst, h38⟩ := ow_frz hst o9;replace o18 := o18.mono w39;replace o27 := o27.mono w39;replace o37 := o37.mono w39;replace hst := hst.p2;obtain ⟨W, w41, hst, h40⟩ := ow_frz hst o18;replace h38 := Rp.mono w41 h38;replace o27 := o27.mono w41;replace o37 := o37.mono w41;replace hst := hst.p1;obtain ⟨W, w43, hst, h42⟩ := ow_frz hst o27;replace h38 := Rp.mono w43 h38;replace h40 := Rp.mono w43 h40;replace o37 := o37.mono w43;obtain ⟨W, w45, hst, h44⟩ := ow_frz hst o37;replace h38 := Rp.mono w45 h38;replace h40 := Rp.mono w45 h40;replace h42 := Rp.mono w45 h42;obtain ⟨v46, l47, H48, fg49, W, f51, f52, f53, w50, hst, o54⟩ := ow_lit' (n := 1) (k := 4) (z := [.nils, .nils, .nils, .nils]) (ys := [v1, v10, v19, v28]) (M := ([[0, 1, 2, 3], [1, 0, 3, 2], [2, 3, 0, 1], [3, 2, 1, 0]] : List (List Int))) [(0, 1, v1), (1, 1, v10), (2, 1, v19), (3, 1, v28)] rfl rfl hst (sc_cons (show Rp.rv _ (v1) ([0, 1, 2, 3] : List Int) from h38) (sc_cons (show Rp.rv _ (v10) ([1, 0, 3, 2] : List Int) from h40) (sc_cons (show Rp.rv _ (v19) ([2, 3, 0, 1] : List Int) from h42) (sc_cons (show Rp.rv _ (v28) ([3, 2, 1, 0] : List Int) from h44) (sc_nil))))) ((List.forall_mem_cons.2 ⟨(Rp.cells (show Rp.rv W (v1) ([0, 1, 2, 3] : List Int) from h38)), (List.forall_mem_cons.2 ⟨(Rp.cells (show Rp.rv W (v10) ([1, 0, 3, 2] : List Int) from h40)), (List.forall_mem_cons.2 ⟨(Rp.cells (show Rp.rv W (v19) ([2, 3, 0, 1] : List Int) from h42)), (List.forall_mem_cons.2 ⟨(Rp.cells (show Rp.rv W (v28) ([3, 2, 1, 0] : List Int) from h44)), fun _ h => (List.not_mem_nil h).elim⟩)⟩)⟩)⟩)) rfl rfl rfl (by decide);replace h38 := Rp.mono w50 h38;replace h40 := Rp.mono w50 h40;replace h42 := Rp.mono w50 h42;replace h44 := Rp.mono w50 h44;refine wpo_seg hp0 6 (fun s H' => s.length = 6 ∧ gt s 0 = v46 ∧ H48 = H') (by simp only [↓runs, isCall, ↓reduceIte, ↓gd_true, ↓gd_false, evs, AV.cells, Nat.reduceEqDiff, Nat.reduceLT, reduceCtorEq, Nat.reduceAdd, sy, f6, f7, f8, f15, f16, f17, f24, f25, f26, f34, f35, f36, f51, f52, f53, hl]) ?_;rintro s _ ⟨hl, g0, rfl⟩;refine wpo_nil (then_n ?_);refine AM.wp_ret ?_;obtain rfl := Option.some.inj hp;refine body_ret (vs := [v46]) (by simp only [rvs, f_semigrouplaw22_klein, Option.map_some, g0]) ?_;exact ⟨W, ((((((((w5.trans w14).trans w23).trans w33).trans w39).trans w41).trans w43).trans w45).trans w50), _, hst, o54⟩

end Go.Proofs.Ytmdpejgnkoneoaa.Pu
set_option maxRecDepth 100000
set_option maxHeartbeats 4000000
namespace Go.Proofs.Ytmdpejgnkoneoaa.Pu
open Go Go.AM Go.Proofs.Ytmdpejgnkoneoaa.Code

noncomputable def P_semigrouplaw22_awake : Option (Bool) :=
 Option.bind (P_semigrouplaw22_klein) fun r1 =>
 Option.bind (P_subdirect_Irreducible r1) fun r10 =>
 Option.bind (P_subdirect_Irreducible ([[0, 1], [1, 0]])) fun r49 =>
 Option.bind (
  if !r10.2 then
   if r49.2 then
    Option.bind (P_subdirect_Check r1 ([[0, 0, 1, 1], [0, 1, 0, 1]])) fun r98 =>
    some r98
   else
    some false
  else
   some false) fun z55 =>
 some z55
theorem R_semigrouplaw22_awake {G : List Frag} {W H : AH} (hst : St G W H) {r : Bool} (hp : P_semigrouplaw22_awake = some r) :
  wpc E0 N_semigrouplaw22_awake [] H fun rv H' => ∃ W', Wle W W' ∧ St G W' H' ∧ rv = .bool r := by
 refine enterN (F := f_semigrouplaw22_awake) rfl (Nat.le_of_ble_eq_true rfl) fun s hl hg => ?_;replace hl : s.length = 29 := hl;clear hg;unfold P_semigrouplaw22_awake at hp;show wp E0 c_semigrouplaw22_awake s H _;unfold c_semigrouplaw22_awake;refine AM.wp_seq hp0 (AM.wp_reg hp0 ?_);refine wpo_seg hp0 1 (fun s H' => s.length = 29 ∧ H = H') (by simp only [↓runs, isCall, ↓reduceIte, ↓gd_true, ↓gd_false, evs, AV.cells, Nat.reduceEqDiff, Nat.reduceLT, reduceCtorEq, Nat.reduceAdd, sy, hl]) ?_;rintro s _ ⟨hl, rfl⟩;refine wpo_nil (then_n ?_);refine AM.wp_seq hp0 (AM.wp_reg hp0 ?_);obtain ⟨r1, e2, hp⟩ := bn hp;refine wpo_callK hp0 rfl (ys := []) (by simp only [evs, List.map_cons, List.map_nil, ev_t, ev_c]) (R_semigrouplaw22_klein hst e2) ?_;rintro rv3 H ⟨W, w4, fg5, hst, o6⟩;refine wpo_seg hp0 0 (fun s H' => s.length = 29 ∧ gt s 6 = rv3 ∧ H = H') (by simp only [↓runs, isCall, ↓reduceIte, ↓gd_true, ↓gd_false, evs, AV.cells, Nat.reduceEqDiff, Nat.reduceLT, reduceCtorEq, Nat.reduceAdd, sy, gt_other, hl]) ?_;rintro s _ ⟨hl, g6, rfl⟩;obtain ⟨W, w9, hst, h7⟩ := ow_frz hst o6;obtain ⟨r10, e11, hp⟩ := bn hp;refine wpo_callK hp0 rfl (ys := [rv3]) (by simp only [evs, List.map_cons, List.map_nil, ev_t, ev_c, g6]) (R_subdirect_Irreducible hst h7 e11) ?_;rintro rv12 H ⟨W, w13, v14, hst, rfl, h15⟩;replace h7 := Rp.mono w13 h7;refine wpo_seg hp0 5 (fun s H' => s.length = 29 ∧ gt s 2 = .bool r10.2 ∧ H = H') (by simp only [↓runs, isCall, ↓reduceIte, ↓gd_true, ↓gd_false, evs, AV.cells, Nat.reduceEqDiff, Nat.reduceLT, reduceCtorEq, Nat.reduceAdd, sy, gt_other, g6, hl]) ?_;rintro s _ ⟨hl, g2, rfl⟩;refine wpo_nil (then_n ?_);refine AM.wp_seq hp0 (AM.wp_reg hp0 ?_);obtain ⟨v16, l17, H18, fg19, W, f21, f22, f23, w20, hst, o24⟩ := ow_lit' (n := 1) (k := 2) (z := [.int .i64 0, .int .i64 0]) (ys := [.int .i64 0, .int .i64 1]) (M := ([0, 1] : List (Int))) [(0, 1, .int .i64 0), (1, 1, .int .i64 1)] rfl rfl hst (sc_cons (show Rp.rv _ (.int .i64 0) (0 : Int) from rfl) (sc_cons (show Rp.rv _ (.int .i64 1) (1 : Int) from rfl) (sc_nil))) ((List.forall_mem_cons.2 ⟨rfl, (List.forall_mem_cons.2 ⟨rfl, fun _ h => (List.not_mem_nil h).elim⟩)⟩)) rfl rfl rfl (by decide);replace h7 := Rp.mono w20 h7;replace h15 := Rp.mono w20 h15;obtain ⟨v25, l26, H27, fg28, W, f30, f31, f32, w29, hst, o33⟩ := ow_lit' (n := 1) (k := 2) (z := [.int .i64 0, .int .i64 0]) (ys := [.int .i64 1, .int .i64 0]) (M := ([1, 0] : List (Int))) [(0, 1, .int .i64 1), (1, 1, .int .i64 0)] rfl rfl hst (sc_cons (show Rp.rv _ (.int .i64 1) (1 : Int) from rfl) (sc_cons (show Rp.rv _ (.int .i64 0) (0 : Int) from rfl) (sc_nil))) ((List.forall_mem_cons.2 ⟨rfl, (List.forall_mem_cons.2 ⟨rfl, fun _ h => (List.not_mem_nil h).elim⟩)⟩)) rfl rfl rfl (by decide);replace h7 := Rp.mono w29 h7;replace h15 := Rp.mono w29 h15;replace o24 := o24.mono w29;replace hst := hst.p1;obtain ⟨W, w35, hst, h34⟩ := ow_frz hst o24;replace h7 := Rp.mono w35 h7;replace h15 := Rp.mono w35 h15;replace o33 := o33.mono w35;obtain ⟨W, w37, hst, h36⟩ := ow_frz hst o33;replace h7 := Rp.mono w37 h7;replace h15 := Rp.mono w37 h15;replace h34 := Rp.mono w37 h34;obtain ⟨v38, l39, H40, fg41, W, f43, f44, f45, w42, hst, o46⟩ := ow_lit' (n := 1) (k := 2) (z := [.nils, .nils]) (ys := [v16, v25]) (M := ([[0, 1], [1, 0]] : List (List Int))) [(0, 1, v16), (1, 1, v25)] rfl rfl hst (sc_cons (show Rp.rv _ (v16) ([0, 1] : List Int) from h34) (sc_cons (show Rp.rv _ (v25) ([1, 0] : List Int) from h36) (sc_nil))) ((List.forall_mem_cons.2 ⟨(Rp.cells (show Rp.rv W (v16) ([0, 1] : List Int) from h34)), (List.forall_mem_cons.2 ⟨(Rp.cells (show Rp.rv W (v25) ([1, 0] : List Int) from h36)), fun _ h => (List.not_mem_nil h).elim⟩)⟩)) rfl rfl rfl (by decide);replace h7 := Rp.mono w42 h7;replace h15 := Rp.mono w42 h15;replace h34 := Rp.mono w42 h34;replace h36 := Rp.mono w42 h36;refine wpo_seg hp0 3 (fun s H' => s.length = 29 ∧ gt s 2 = .bool r10.2 ∧ gt s 13 = v38 ∧ H40 = H') (by simp only [↓runs, isCall, ↓reduceIte, ↓gd_true, ↓gd_false, evs, AV.cells, Nat.reduceEqDiff, Nat.reduceLT, reduceCtorEq, Nat.reduceAdd, sy, f21, f22, f23, f30, f31, f32, f43, f44, f45, g2, hl]) ?_;rintro s _ ⟨hl, g2, g13, rfl⟩;obtain ⟨W, w48, hst, h47⟩ := ow_frz hst o46;replace h7 := Rp.mono w48 h7;replace h15 := Rp.mono w48 h15;replace h34 := Rp.mono w48 h34;replace h36 := Rp.mono w48 h36;obtain ⟨r49, e50, hp⟩ := bn hp;refine wpo_callK hp0 rfl (ys := [v38]) (by simp only [evs, List.map_cons, List.map_nil, ev_t, ev_c, g13]) (R_subdirect_Irreducible hst h47 e50) ?_;rintro rv51 H ⟨W, w52, v53, hst, rfl, h54⟩;replace h7 := Rp.mono w52 h7;replace h15 := Rp.mono w52 h15;replace h34 := Rp.mono w52 h34;replace h36 := Rp.mono w52 h36;replace h47 := Rp.mono w52 h47;refine wpo_seg hp0 5 (fun s H' => s.length = 29 ∧ gt s 2 = .bool r10.2 ∧ gt s 4 = .bool r49.2 ∧ H = H') (by simp only [↓runs, isCall, ↓reduceIte, ↓gd_true, ↓gd_false, evs, AV.cells, Nat.reduceEqDiff, Nat.reduceLT, reduceCtorEq, Nat.reduceAdd, sy, gt_other, g2, g13, hl]) ?_;rintro s _ ⟨hl, g2, g4, rfl⟩;refine wpo_nil (then_n ?_);refine AM.wp_seq hp0 ?_;obtain ⟨z55, hj56, hp⟩ := bn hp;refine AM.wp_regK hp0 (fun s H' => ∃ (W' : AH), s.length = 29 ∧ gt s 0 = .bool z55 ∧  Wle W W' ∧ St G W' H') ?_ ?_
 ·rcases Bool.eq_false_or_eq_true (!r10.2) with c57 | c57
  ·replace hj56 := ifT c57 hj56;rcases Bool.eq_false_or_eq_true (r49.2) with c58 | c58
   ·replace hj56 := ifT c58 hj56;refine wpo_seg hp0 6 (fun s H' => s.length = 29 ∧ gt s 22 = .bool true ∧ H = H') (by simp only [↓runs, isCall, ↓reduceIte, ↓gd_true, ↓gd_false, evs, AV.cells, Nat.reduceEqDiff, Nat.reduceLT, reduceCtorEq, Nat.reduceAdd, sy, c57, c58, g2, g4, hl]) ?_;rintro s _ ⟨hl, g22, rfl⟩;refine wpo_callK hp0 (by simp only [wanted, g22, beq_self_eq_true]) (ys := []) (by simp only [evs, List.map_cons, List.map_nil, ev_t, ev_c]) (R_semigrouplaw22_klein hst e2) ?_;rintro rv59 H ⟨W, w60, fg61, hst, o62⟩;replace h7 := Rp.mono w60 h7;replace h15 := Rp.mono w60 h15;replace h34 := Rp.mono w60 h34;replace h36 := Rp.mono w60 h36;replace h47 := Rp.mono w60 h47;replace h54 := Rp.mono w60 h54;obtain ⟨v63, l64, H65, fg66, W, f68, f69, f70, w67, hst, o71⟩ := ow_lit' (n := 1) (k := 4) (z := [.int .i64 0, .int .i64 0, .int .i64 0, .int .i64 0]) (ys := [.int .i64 0, .int .i64 0, .int .i64 1, .int .i64 1]) (M := ([0, 0, 1, 1] : List (Int))) [(0, 1, .int .i64 0), (1, 1, .int .i64 0), (2, 1, .int .i64 1), (3, 1, .int .i64 1)] rfl rfl hst (sc_cons (show Rp.rv _ (.int .i64 0) (0 : Int) from rfl) (sc_cons (show Rp.rv _ (.int .i64 0) (0 : Int) from rfl) (sc_cons (show Rp.rv _ (.int .i64 1) (1 : Int) from rfl) (sc_cons (show Rp.rv _ (.int .i64 1) (1 : Int) from rfl) (sc_nil))))) ((List.forall_mem_cons.2 ⟨rfl, (List.forall_mem_cons.2 ⟨rfl, (List.forall_mem_cons.2 ⟨rfl, (List.forall_mem_cons.2 ⟨rfl, fun _ h => (List.not_mem_nil h).elim⟩)⟩)⟩)⟩)) rfl rfl rfl (by decide);replace h7 := Rp.mono w67 h7;replace h15 := Rp.mono w67 h15;replace h34 := Rp.mono w67 h34;replace h36 := Rp.mono w67 h36;replace h47 := Rp.mono w67 h47;replace h54 := Rp.mono w67 h54;replace o62 := o62.mono w67;obtain ⟨v72, l73, H74, fg75, W, f77, f78, f79, w76, hst, o80⟩ := ow_lit' (n := 1) (k := 4) (z := [.int .i64 0, .int .i64 0, .int .i64 0, .int .i64 0]) (ys := [.int .i64 0, .int .i64 1, .int .i64 0, .int .i64 1]) (M := ([0, 1, 0, 1] : List (Int))) [(0, 1, .int .i64 0), (1, 1, .int .i64 1), (2, 1, .int .i64 0), (3, 1, .int .i64 1)] rfl rfl hst (sc_cons (show Rp.rv _ (.int .i64 0) (0 : Int) from rfl) (sc_cons (show Rp.rv _ (.int .i64 1) (1 : Int) from rfl) (sc_cons (show Rp.rv _ (.int .i64 0) (0 : Int) from rfl) (sc_cons (show Rp.rv _ (.int .i64 1) (1 : Int) from rfl) (sc_nil))))) ((List.forall_mem_cons.2 ⟨rfl, (List.forall_mem_cons.2 ⟨rfl, (List.forall_mem_cons.2 ⟨rfl, (List.forall_mem_cons.2 ⟨rfl, fun _ h => (List.not_mem_nil h).elim⟩)⟩)⟩)⟩)) rfl rfl rfl (by decide);replace h7 := Rp.mono w76 h7;replace h15 := Rp.mono w76 h15;replace h34 := Rp.mono w76 h34;replace h36 := Rp.mono w76 h36;replace h47 := Rp.mono w76 h47;replace h54 := Rp.mono w76 h54;replace o62 := o62.mono w76;replace o71 := o71.mono w76;replace hst := hst.p1;obtain ⟨W, w82, hst, h81⟩ := ow_frz hst o71;replace h7 := Rp.mono w82 h7;replace h15 := Rp.mono w82 h15;replace h34 := Rp.mono w82 h34;replace h36 := Rp.mono w82 h36;replace h47 := Rp.mono w82 h47;replace h54 := Rp.mono w82 h54;replace o62 := o62.mono w82;replace o80 := o80.mono w82;obtain ⟨W, w84, hst, h83⟩ := ow_frz hst o80;replace h7 := Rp.mono w84 h7;replace h15 := Rp.mono w84 h15;replace h34 := Rp.mono w84 h34;replace h36 := Rp.mono w84 h36;replace h47 := Rp.mono w84 h47;replace h54 := Rp.mono w84 h54;replace h81 := Rp.mono w84 h81;replace o62 := o62.mono w84;obtain ⟨v85, l86, H87, fg88, W, f90, f91, f92, w89, hst, o93⟩ := ow_lit' (n := 1) (k := 2) (z := [.nils, .nils]) (ys := [v63, v72]) (M := ([[0, 0, 1, 1], [0, 1, 0, 1]] : List (List Int))) [(0, 1, v63), (1, 1, v72)] rfl rfl hst (sc_cons (show Rp.rv _ (v63) ([0, 0, 1, 1] : List Int) from h81) (sc_cons (show Rp.rv _ (v72) ([0, 1, 0, 1] : List Int) from h83) (sc_nil))) ((List.forall_mem_cons.2 ⟨(Rp.cells (show Rp.rv W (v63) ([0, 0, 1, 1] : List Int) from h81)), (List.forall_mem_cons.2 ⟨(Rp.cells (show Rp.rv W (v72) ([0, 1, 0, 1] : List Int) from h83)), fun _ h => (List.not_mem_nil h).elim⟩)⟩)) rfl rfl rfl (by decide);replace h7 := Rp.mono w89 h7;replace h15 := Rp.mono w89 h15;replace h34 := Rp.mono w89 h34;replace h36 := Rp.mono w89 h36;replace h47 := Rp.mono w89 h47;replace h54 := Rp.mono w89 h54;replace h81 := Rp.mono w89 h81;replace h83 := Rp.mono w89 h83;replace o62 := o62.mono w89;refine wpo_seg hp0 3 (fun s H' => s.length = 29 ∧ gt s 22 = .bool true ∧ gt s 23 = rv59 ∧ gt s 26 = v85 ∧ H87 = H') (by simp only [↓runs, isCall, ↓reduceIte, ↓gd_true, ↓gd_false, evs, AV.cells, Nat.reduceEqDiff, Nat.reduceLT, reduceCtorEq, Nat.reduceAdd, sy, gt_other, f68, f69, f70, f77, f78, f79, f90, f91, f92, g22, hl]) ?_;rintro s _ ⟨hl, g22, g23, g26, rfl⟩;replace hst := hst.p1;obtain ⟨W, w95, hst, h94⟩ := ow_frz hst o62;replace h7 := Rp.mono w95 h7;replace h15 := Rp.mono w95 h15;replace h34 := Rp.mono w95 h34;replace h36 := Rp.mono w95 h36;replace h47 := Rp.mono w95 h47;replace h54 := Rp.mono w95 h54;replace h81 := Rp.mono w95 h81;replace h83 := Rp.mono w95 h83;replace o93 := o93.mono w95;obtain ⟨W, w97, hst, h96⟩ := ow_frz hst o93;replace h7 := Rp.mono w97 h7;replace h15 := Rp.mono w97 h15;replace h34 := Rp.mono w97 h34;replace h36 := Rp.mono w97 h36;replace h47 := Rp.mono w97 h47;replace h54 := Rp.mono w97 h54;replace h81 := Rp.mono w97 h81;replace h83 := Rp.mono w97 h83;replace h94 := Rp.mono w97 h94;obtain ⟨r98, e99, hj56⟩ := bn hj56;refine wpo_callK hp0 (by simp only [wanted, g22, beq_self_eq_true]) (ys := [rv59, v85]) (by simp only [evs, List.map_cons, List.map_nil, ev_t, ev_c, g23, g26]) (R_subdirect_Check hst h94 h96 e99) ?_;rintro rv100 H ⟨W, w101, hst, rfl⟩;replace h7 := Rp.mono w101 h7;replace h15 := Rp.mono w101 h15;replace h34 := Rp.mono w101 h34;replace h36 := Rp.mono w101 h36;replace h47 := Rp.mono w101 h47;replace h54 := Rp.mono w101 h54;replace h81 := Rp.mono w101 h81;replace h83 := Rp.mono w101 h83;replace h94 := Rp.mono w101 h94;replace h96 := Rp.mono w101 h96;refine wpo_seg hp0 2 (fun s H' => s.length = 29 ∧ gt s 0 = .bool r98 ∧ H = H') (by simp only [↓runs, isCall, ↓reduceIte, ↓gd_true, ↓gd_false, evs, AV.cells, Nat.reduceEqDiff, Nat.reduceLT, reduceCtorEq, Nat.reduceAdd, sy, gt_other, g22, g23, g26, hl]) ?_;rintro s _ ⟨hl, g0, rfl⟩;refine wpo_nil ?_;obtain rfl := Option.some.inj hj56;exact ⟨W, hl, g0, ((((((((w60.trans w67).trans w76).trans w82).trans w84).trans w89).trans w95).trans w97).trans w101), hst⟩
   ·replace hj56 := ifF c58 hj56;refine wpo_seg hp0 13 (fun s H' => s.length = 29 ∧ gt s 0 = .bool false ∧ H = H') (by simp (maxSteps := 1000000) only [↓runs, isCall, ↓reduceIte, ↓gd_true, ↓gd_false, evs, AV.cells, Nat.reduceEqDiff, Nat.reduceLT, reduceCtorEq, Nat.reduceAdd, sy, c57, c58, g2, g4, hl]) ?_;rintro s _ ⟨hl, g0, rfl⟩;refine wpo_nil ?_;obtain rfl := Option.some.inj hj56;exact ⟨W, hl, g0, .refl _, hst⟩
  ·replace hj56 := ifF c57 hj56;refine wpo_seg hp0 13 (fun s H' => s.length = 29 ∧ gt s 0 = .bool false ∧ H = H') (by simp (maxSteps := 1000000) only [↓runs, isCall, ↓reduceIte, ↓gd_true, ↓gd_false, evs, AV.cells, Nat.reduceEqDiff, Nat.reduceLT, reduceCtorEq, Nat.reduceAdd, sy, c57, g2, g4, hl]) ?_;rintro s _ ⟨hl, g0, rfl⟩;refine wpo_nil ?_;obtain rfl := Option.some.inj hj56;exact ⟨W, hl, g0, .refl _, hst⟩
 ·rintro s H ⟨W, hl, g0, w102, hst⟩;refine then_n ?_;refine AM.wp_ret ?_;obtain rfl := Option.some.inj hp;refine body_ret (vs := [.bool z55]) (by simp only [rvs, f_semigrouplaw22_awake, Option.map_some, g0]) ?_;exact ⟨W, ((((((((((w4.trans w9).trans w13).trans w20).trans w29).trans w35).trans w37).trans w42).trans w48).trans w52).trans w102), hst, rfl⟩

end Go.Proofs.Ytmdpejgnkoneoaa.Pu
set_option maxRecDepth 100000
set_option maxHeartbeats 4000000
namespace Go.Proofs.Ytmdpejgnkoneoaa.Pu
open Go Go.AM Go.Proofs.Ytmdpejgnkoneoaa.Code

noncomputable def P_semigrouplaw22_large (t : List (List Int)) (most : Int) : Option (Bool) :=
 Option.bind (
  if decide (most < (t.length : Int)) then
   Option.bind (P_semigroupref14_Shape t) fun r5 =>
   some (decide (r5 = 0))
  else
   some false) fun z1 =>
 some z1
theorem R_semigrouplaw22_large {G : List Frag} {W H : AH} {v_0 : AV} {t : List (List Int)} {most : Int} (hst : St G W H) (h_0 : Rp.rv W v_0 t) {r : Bool} (hp : P_semigrouplaw22_large t most = some r) :
  wpc E0 N_semigrouplaw22_large [v_0, .int .i64 most] H fun rv H' => ∃ W', Wle W W' ∧ St G W' H' ∧ rv = .bool r := by
 refine enterN (F := f_semigrouplaw22_large) rfl (Nat.le_of_ble_eq_true rfl) fun s hl hg => ?_;replace hl : s.length = 14 := hl;have g0 : gt s 0 = v_0 := hg 0 (Nat.le_of_ble_eq_true rfl);have g1 : gt s 1 = .int .i64 most := hg 1 (Nat.le_of_ble_eq_true rfl);clear hg;unfold P_semigrouplaw22_large at hp;show wp E0 c_semigrouplaw22_large s H _;unfold c_semigrouplaw22_large;refine AM.wp_seq hp0 (AM.wp_reg hp0 ?_);refine wpo_seg hp0 1 (fun s H' => s.length = 14 ∧ gt s 0 = v_0 ∧ gt s 1 = .int .i64 most ∧ H = H') (by simp only [↓runs, isCall, ↓reduceIte, ↓gd_true, ↓gd_false, evs, AV.cells, Nat.reduceEqDiff, Nat.reduceLT, reduceCtorEq, Nat.reduceAdd, sy, g0, g1, hl]) ?_;rintro s _ ⟨hl, g0, g1, rfl⟩;refine wpo_nil (then_n ?_);refine AM.wp_seq hp0 ?_;obtain ⟨z1, hj2, hp⟩ := bn hp;refine AM.wp_regK hp0 (fun s H' => ∃ (W' : AH), s.length = 14 ∧ gt s 4 = .bool z1 ∧  Wle W W' ∧ St G W' H') ?_ ?_
 ·have f3 := fz_ln h_0;rcases Bool.eq_false_or_eq_true (decide (most < (t.length : Int))) with c4 | c4
  ·replace hj2 := ifT c4 hj2;refine wpo_seg hp0 6 (fun s H' => s.length = 14 ∧ gt s 9 = .bool true ∧ gt s 10 = v_0 ∧ H = H') (by simp only [↓runs, isCall, ↓reduceIte, ↓gd_true, ↓gd_false, evs, AV.cells, Nat.reduceEqDiff, Nat.reduceLT, reduceCtorEq, Nat.reduceAdd, sy, f3, c4, g0, g1, hl]) ?_;rintro s _ ⟨hl, g9, g10, rfl⟩;obtain ⟨r5, e6, hj2⟩ := bn hj2;refine wpo_callK hp0 (by simp only [wanted, g9, beq_self_eq_true]) (ys := [v_0]) (by simp only [evs, List.map_cons, List.map_nil, ev_t, ev_c, g10]) (R_semigroupref14_Shape hst h_0 e6) ?_;rintro rv7 H ⟨W, w9, hst, rfl⟩;replace h_0 := Rp.mono w9 h_0;refine wpo_seg hp0 3 (fun s H' => s.length = 14 ∧ gt s 4 = .bool (decide (r5 = 0)) ∧ H = H') (by simp only [↓runs, isCall, ↓reduceIte, ↓gd_true, ↓gd_false, evs, AV.cells, Nat.reduceEqDiff, Nat.reduceLT, reduceCtorEq, Nat.reduceAdd, sy, gt_other, g9, g10, hl]) ?_;rintro s _ ⟨hl, g4, rfl⟩;refine wpo_nil ?_;obtain rfl := Option.some.inj hj2;exact ⟨W, hl, g4, w9, hst⟩
  ·replace hj2 := ifF c4 hj2;refine wpo_seg hp0 10 (fun s H' => s.length = 14 ∧ gt s 4 = .bool false ∧ H = H') (by simp only [↓runs, isCall, ↓reduceIte, ↓gd_true, ↓gd_false, evs, AV.cells, Nat.reduceEqDiff, Nat.reduceLT, reduceCtorEq, Nat.reduceAdd, sy, f3, c4, g0, g1, hl]) ?_;rintro s _ ⟨hl, g4, rfl⟩;refine wpo_nil ?_;obtain rfl := Option.some.inj hj2;exact ⟨W, hl, g4, .refl _, hst⟩
 ·rintro s H ⟨W, hl, g4, w10, hst⟩;refine then_n ?_;refine AM.wp_ret ?_;obtain rfl := Option.some.inj hp;refine body_ret (vs := [.bool z1]) (by simp only [rvs, f_semigrouplaw22_large, Option.map_some, g4]) ?_;exact ⟨W, w10, hst, rfl⟩

end Go.Proofs.Ytmdpejgnkoneoaa.Pu
namespace Go.Proofs.Ytmdpejgnkoneoaa.Mt
open Go Go.AM Go.AM.Par Go.AM.Cg Go.AM.Lx Go.Proofs.Ytmdpejgnkoneoaa.Pu

theorem sg_of {t : List (List Int)} {n : Nat} (hl : t.length = n) (h0 : 0 < n) (h1 : n ≤ 400) (hr : ∀ x, x < n → (t.getD x []).length = n) (hv : ∀ x, x < n → ∀ y, y < n → (t.getD x []).getD y 0 = (natT t x y : Int) ∧ natT t x y < n)
    (ha : ∀ x, x < n → ∀ y, y < n → ∀ z, z < n → natT t (natT t x y) z = natT t x (natT t y z)) : Sg t n (natT t) :=
  ⟨⟨hl, h0, h1, hr, fun x y hx hy => (hv x hx y hy).1, fun x y hx hy => (hv x hx y hy).2⟩, fun x y z hx hy hz => ha x hx y hy z hz⟩
abbrev kT : List (List Int) := [[0, 1, 2, 3], [1, 0, 3, 2], [2, 3, 0, 1], [3, 2, 1, 0]]
abbrev zT : List (List Int) := [[0, 1], [1, 0]]
abbrev kP : List Int := [0, 0, 1, 1]
abbrev kQ : List Int := [0, 1, 0, 1]
theorem k_sg : Sg kT 4 (natT kT) := sg_of rfl (by omega) (by omega) (by decide) (by decide) (by decide)
theorem z_sg : Sg zT 2 (natT zT) := sg_of rfl (by omega) (by omega) (by decide) (by decide) (by decide)
theorem congL_of {n : Nat} {T : Nat → Nat → Nat} {p : List Int} (hl : p.length = n) (hv : validP p = true) (h : ∀ x, x < n → ∀ y, y < n → ∀ s, s < n → p.getD x 0 = p.getD y 0 → p.getD (T s x) 0 = p.getD (T s y) 0 ∧ p.getD (T x s) 0 = p.getD (T y s) 0) : CongL n T 0 p :=
  ⟨hl, hv, fun x y s hx hy hs e => ⟨fun _ => (h x hx y hy s hs e).1, fun _ => (h x hx y hy s hs e).2⟩⟩
theorem kP_cong : CongL 4 (natT kT) 0 kP := congL_of rfl (by decide) (by decide)
theorem kQ_cong : CongL 4 (natT kT) 0 kQ := congL_of rfl (by decide) (by decide)
theorem kPQ : ∀ x, x < 4 → ∀ y, y < 4 → kP.getD x 0 = kP.getD y 0 → kQ.getD x 0 = kQ.getD y 0 → x = y := by decide
theorem si_two (T : Nat → Nat → Nat) : SI 2 T := by
  refine ⟨Nat.le_refl _, fun h => ?_⟩
  have := h 0 1 (by omega) (by omega) fun a b ha hb hne => by
    rcases (by omega : (a = 0 ∧ b = 1) ∨ (a = 1 ∧ b = 0)) with ⟨rfl, rfl⟩ | ⟨rfl, rfl⟩
    · exact Gen.has (p := (0, 1)) (by simp)
    · exact Gen.cgr.symm _ _ (Gen.has (p := (1, 0)) (by simp))
  omega
theorem k_disc : Disc 4 (Mon 4 (natT kT)) := fun u v hu hv h => by
  have h1 := h 0 1 (by omega) (by omega) (by omega) _ (kP_cong.cgr k_sg.lt) (fun p hp => by
    simp only [List.mem_singleton] at hp; subst hp; exact (Ker.iff (by omega) (by omega)).2 rfl)
  have h2 := h 0 2 (by omega) (by omega) (by omega) _ (kQ_cong.cgr k_sg.lt) (fun p hp => by
    simp only [List.mem_singleton] at hp; subst hp; exact (Ker.iff (by omega) (by omega)).2 rfl)
  exact kPQ u hu v hv ((Ker.iff hu hv).1 h1) ((Ker.iff hu hv).1 h2)
theorem k_chk : ChkP 4 (natT kT) [kP, kQ] := by
  refine ⟨fun k hk => ?_, fun x y hx hy h => ?_, fun k hk h => ?_⟩
  · rcases (by simp only [List.length_cons, List.length_nil] at hk; omega : k = 0 ∨ k = 1) with rfl | rfl
    · exact ⟨kP_cong, si_two _⟩
    · exact ⟨kQ_cong, si_two _⟩
  · exact kPQ x hx y hy (h 0 (by decide) (by decide)) (h 1 (by decide) (by decide))
  · rcases (by simp only [List.length_cons, List.length_nil] at hk; omega : k = 0 ∨ k = 1) with rfl | rfl
    · have := h 0 2 (by omega) (by omega) fun j hj hne => by
        have : j = 1 := by simp only [List.length_cons, List.length_nil] at hj; omega
        subst this; rfl
      omega
    · have := h 0 1 (by omega) (by omega) fun j hj hne => by
        have : j = 0 := by simp only [List.length_cons, List.length_nil] at hj; omega
        subst this; rfl
      omega
open Classical in
theorem awake : P_semigrouplaw22_awake = some true := by
  unfold P_semigrouplaw22_awake P_semigrouplaw22_klein
  simp only [Option.bind_some]
  rcases irreducible k_sg with ⟨a, _⟩ | ⟨p, _, _, c, _⟩
  · rcases irreducible z_sg with ⟨_, b⟩ | ⟨p, a2, _⟩
    · rcases b with b | b
      · omega
      · exact absurd b (si_two _).2
    · rw [a, a2]
      simp only [Option.bind_some, Bool.not_false, if_true]
      rw [check k_sg, decide_eq_true k_chk]
      rfl
  · exact absurd k_disc c
theorem large (t : List (List Int)) (m : Int) : P_semigrouplaw22_large t m = some (decide (m < (t.length : Int) ∧ shapeM t = 0)) := by
  unfold P_semigrouplaw22_large
  rw [ref_shape]
  simp only [Option.bind_some]
  by_cases h : m < (t.length : Int)
  · rw [if_pos (decide_eq_true h)]
    simp only [Option.bind_some, h, true_and]
  · rw [if_neg (by simpa using h)]
    simp only [Option.bind_some, h, false_and, decide_false]
end Go.Proofs.Ytmdpejgnkoneoaa.Mt
set_option maxRecDepth 100000
set_option maxHeartbeats 4000000
namespace Go.Proofs.Ytmdpejgnkoneoaa.Pu
open Go Go.AM Go.Proofs.Ytmdpejgnkoneoaa.Code

noncomputable def P_subdirect_apart_l35 (a : Int) (b_ : Int) (k20 : Nat) (t : List (List Int)) (p43 : List Int) (pairs44 : List (Int × Int)) (x45 : Int) : Option (Lp ((List Int) × (List (Int × Int)) × Int) (Empty)) :=
 if decide (x45 < (k20 : Int)) then
  Option.bind (gi p43 x45) fun x54 =>
  Option.bind (gi p43 (k20 : Int)) fun x61 =>
  if decide (x54 = x61) then
   some (.go (p43, pairs44, w64 (x45 + 1)))
  else
   Option.bind (pus 16 [] pairs44) fun x80 =>
   Option.bind (pus 16 x80 [(x45, (k20 : Int))]) fun x100 =>
   Option.bind (P_congr_Generated t x100 0) fun r108 =>
   Option.bind (gi r108 a) fun x118 =>
   Option.bind (gi r108 b_) fun x125 =>
   if !decide (x118 = x125) then
    some (.go (r108, x100, w64 (x45 + 1)))
   else
    some (.go (p43, pairs44, w64 (x45 + 1)))
 else
  some (.br (p43, pairs44, x45))
noncomputable def P_subdirect_apart_l18 (a : Int) (b_ : Int) (t : List (List Int)) (k20 : Nat) (p26 : List Int) (pairs27 : List (Int × Int)) : Option ((List Int) × (List (Int × Int))) :=
 Option.bind (loopO (fun x => P_subdirect_apart_l35 a b_ k20 t x.1 x.2.1 x.2.2) (p26, pairs27, 0)) fun z41 =>
 match z41 with
 | .inl x133 =>
  some (x133.1, x133.2.1)
 | .inr b => b.elim
noncomputable def P_subdirect_apart (t : List (List Int)) (a : Int) (b_ : Int) : Option ((List Int)) :=
 Option.bind (P_partition_Discrete (t.length : Int)) fun r2 =>
 Option.bind (forS t.length (fun k x => P_subdirect_apart_l18 a b_ t k x.1 x.2) (r2, [])) fun z24 =>
 some z24.1
theorem R_subdirect_apart {G : List Frag} {W H : AH} {v_0 : AV} {t : List (List Int)} {a : Int} {b_ : Int} (hst : St G W H) (h_0 : Rp.rv W v_0 t) {r : (List Int)} (hp : P_subdirect_apart t a b_ = some r) :
  wpc E0 N_subdirect_apart [v_0, .int .i64 a, .int .i64 b_] H fun rv H' => ∃ W', Wle W W' ∧ ∃ (g0 : Frag), St (g0 :: G) W' H' ∧ OwS W' rv g0 (r : List Int) := by
 refine enterN (F := f_subdirect_apart) rfl (Nat.le_of_ble_eq_true rfl) fun s hl hg => ?_;replace hl : s.length = 60 := hl;have g0 : gt s 0 = v_0 := hg 0 (Nat.le_of_ble_eq_true rfl);have g1 : gt s 1 = .int .i64 a := hg 1 (Nat.le_of_ble_eq_true rfl);have g2 : gt s 2 = .int .i64 b_ := hg 2 (Nat.le_of_ble_eq_true rfl);clear hg;unfold P_subdirect_apart at hp;show wp E0 c_subdirect_apart s H _;unfold c_subdirect_apart;refine AM.wp_seq hp0 (AM.wp_reg hp0 ?_);refine wpo_seg hp0 1 (fun s H' => s.length = 60 ∧ gt s 0 = v_0 ∧ gt s 1 = .int .i64 a ∧ gt s 2 = .int .i64 b_ ∧ H = H') (by simp only [↓runs, isCall, ↓reduceIte, ↓gd_true, ↓gd_false, evs, AV.cells, Nat.reduceEqDiff, Nat.reduceLT, reduceCtorEq, Nat.reduceAdd, sy, g0, g1, g2, hl]) ?_;rintro s _ ⟨hl, g0, g1, g2, rfl⟩;refine wpo_nil (then_n ?_);refine AM.wp_seq hp0 (AM.wp_reg hp0 ?_);have f1 := fz_ln h_0;refine wpo_seg hp0 2 (fun s H' => s.length = 60 ∧ gt s 0 = v_0 ∧ gt s 1 = .int .i64 a ∧ gt s 2 = .int .i64 b_ ∧ gt s 14 = .int .i64 (t.length : Int) ∧ H = H') (by simp only [↓runs, isCall, ↓reduceIte, ↓gd_true, ↓gd_false, evs, AV.cells, Nat.reduceEqDiff, Nat.reduceLT, reduceCtorEq, Nat.reduceAdd, sy, f1, g0, g1, g2, hl]) ?_;rintro s _ ⟨hl, g0, g1, g2, g14, rfl⟩;obtain ⟨r2, e3, hp⟩ := bn hp;refine wpo_callK hp0 rfl (ys := [.int .i64 (t.length : Int)]) (by simp only [evs, List.map_cons, List.map_nil, ev_t, ev_c, g14]) (R_partition_Discrete hst e3) ?_;rintro rv4 H ⟨W, w5, fg6, hst, o7⟩;replace h_0 := Rp.mono w5 h_0;refine wpo_seg hp0 1 (fun s H' => s.length = 60 ∧ gt s 0 = v_0 ∧ gt s 1 = .int .i64 a ∧ gt s 2 = .int .i64 b_ ∧ gt s 7 = rv4 ∧ H = H') (by simp only [↓runs, isCall, ↓reduceIte, ↓gd_true, ↓gd_false, evs, AV.cells, Nat.reduceEqDiff, Nat.reduceLT, reduceCtorEq, Nat.reduceAdd, sy, gt_other, g0, g1, g2, g14, hl]) ?_;rintro s _ ⟨hl, g0, g1, g2, g7, rfl⟩;refine wpo_nil (then_n ?_);refine AM.wp_seq hp0 (AM.wp_reg hp0 ?_);obtain ⟨v8, l9, H10, fg11, W, f13, f14, f15, w12, hst, o16⟩ := ow_lit' (n := 2) (k := 0) (z := []) (ys := []) (M := ([] : List (Int × Int))) [] rfl rfl hst (sc_nil) ( fun _ h => (List.not_mem_nil h).elim) rfl rfl rfl (by decide);replace h_0 := Rp.mono w12 h_0;replace o7 := o7.mono w12;refine wpo_seg hp0 2 (fun s H' => s.length = 60 ∧ gt s 0 = v_0 ∧ gt s 1 = .int .i64 a ∧ gt s 2 = .int .i64 b_ ∧ gt s 7 = rv4 ∧ gt s 8 = v8 ∧ H10 = H') (by simp only [↓runs, isCall, ↓reduceIte, ↓gd_true, ↓gd_false, evs, AV.cells, Nat.reduceEqDiff, Nat.reduceLT, reduceCtorEq, Nat.reduceAdd, sy, f13, f14, f15, g0, g1, g2, g7, hl]) ?_;rintro s _ ⟨hl, g0, g1, g2, g7, g8, rfl⟩;refine wpo_nil (then_n ?_);refine AM.wp_seq hp0 (AM.wp_seq hp0 (AM.wp_reg hp0 ?_));have f17 := fz_ln h_0;refine wpo_seg hp0 3 (fun s H' => s.length = 60 ∧ gt s 0 = v_0 ∧ gt s 1 = .int .i64 a ∧ gt s 2 = .int .i64 b_ ∧ gt s 7 = rv4 ∧ gt s 8 = v8 ∧ gt s 18 = .int .i64 (t.length : Int) ∧ gt s 19 = .int .i64 0 ∧ H10 = H') (by simp only [↓runs, isCall, ↓reduceIte, ↓gd_true, ↓gd_false, evs, AV.cells, Nat.reduceEqDiff, Nat.reduceLT, reduceCtorEq, Nat.reduceAdd, sy, f17, g0, g1, g2, g7, g8, hl]) ?_;rintro s _ ⟨hl, g0, g1, g2, g7, g8, g18, g19, rfl⟩;refine wpo_nil (then_n ?_);obtain ⟨z24, e25, hp⟩ := bn hp;refine rangeS_ref hp0 60 t.length (fun k x => P_subdirect_apart_l18 a b_ t k x.1 x.2) (fun _ x s H' => ∃ (W' : AH) (w7 : AV) (q7 : Frag) (w8 : AV) (q8 : Frag), s.length = 60 ∧ gt s 7 = w7 ∧ gt s 8 = w8 ∧ gt s 0 = v_0 ∧ gt s 1 = .int .i64 a ∧ gt s 2 = .int .i64 b_ ∧  Wle W W' ∧ St (q7 :: q8 :: G) W' H' ∧ OwS W' w7 q7 (x.1 : List Int) ∧ OwS W' w8 q8 (x.2 : List (Int × Int))) e25 (fz_big h_0) rfl ?_ ?_ hl g19 g18 ?_ ?_
 ·intro k x s H d v hd h; rcases hd with rfl | rfl | rfl <;> simpa only [gt_other, pt_length, Nat.reduceEqDiff, not_false_eq_true] using h
 ·replace hst := hst.p1;exact ⟨W, _, _, _, _, hl, g7, g8, g0, g1, g2, .refl _, hst, o7, o16⟩
 ·intro k20 x19 y21 s H hk hI hl g19 g18 hy22;obtain ⟨p26, pairs27⟩ := x19;dsimp only at hI;change P_subdirect_apart_l18 a b_ t k20 p26 pairs27 = some y21 at hy22;unfold P_subdirect_apart_l18 at hy22;obtain ⟨W, v29, fg30, v32, fg33, hl, g7, g8, g0, g1, g2, w28, hst, o31, o34⟩ := hI;replace h_0 := Rp.mono w28 h_0;refine AM.wp_seq hp0 (AM.wp_reg hp0 ?_);refine wpo_seg hp0 2 (fun s H' => s.length = 60 ∧ gt s 0 = v_0 ∧ gt s 1 = .int .i64 a ∧ gt s 2 = .int .i64 b_ ∧ gt s 7 = v29 ∧ gt s 8 = v32 ∧ gt s 9 = .int .i64 (k20 : Int) ∧ gt s 18 = .int .i64 (t.length : Int) ∧ gt s 19 = .int .i64 (k20 : Int) ∧ H = H') (by simp only [↓runs, isCall, ↓reduceIte, ↓gd_true, ↓gd_false, evs, AV.cells, Nat.reduceEqDiff, Nat.reduceLT, reduceCtorEq, Nat.reduceAdd, sy, g0, g1, g2, g7, g8, g18, g19, hl]) ?_;rintro s _ ⟨hl, g0, g1, g2, g7, g8, g9, g18, g19, rfl⟩;refine wpo_nil (then_n ?_);refine AM.wp_seq hp0 (AM.wp_reg hp0 ?_);refine wpo_seg hp0 1 (fun s H' => s.length = 60 ∧ gt s 0 = v_0 ∧ gt s 1 = .int .i64 a ∧ gt s 2 = .int .i64 b_ ∧ gt s 7 = v29 ∧ gt s 8 = v32 ∧ gt s 9 = .int .i64 (k20 : Int) ∧ gt s 10 = .int .i64 0 ∧ gt s 18 = .int .i64 (t.length : Int) ∧ gt s 19 = .int .i64 (k20 : Int) ∧ H = H') (by simp only [↓runs, isCall, ↓reduceIte, ↓gd_true, ↓gd_false, evs, AV.cells, Nat.reduceEqDiff, Nat.reduceLT, reduceCtorEq, Nat.reduceAdd, sy, g0, g1, g2, g7, g8, g9, g18, g19, hl]) ?_;rintro s _ ⟨hl, g0, g1, g2, g7, g8, g9, g10, g18, g19, rfl⟩;refine wpo_nil (then_n ?_);obtain ⟨z41, e42, hy22⟩ := bn hy22;refine loop_ref hp0 (fun x => P_subdirect_apart_l35 a b_ k20 t x.1 x.2.1 x.2.2) (fun x s H' => ∃ (W' : AH) (w7 : AV) (q7 : Frag) (w8 : AV) (q8 : Frag), s.length = 60 ∧ gt s 7 = w7 ∧ gt s 8 = w8 ∧ gt s 10 = .int .i64 x.2.2 ∧ gt s 0 = v_0 ∧ gt s 1 = .int .i64 a ∧ gt s 2 = .int .i64 b_ ∧ gt s 9 = .int .i64 (k20 : Int) ∧ gt s 18 = .int .i64 (t.length : Int) ∧ gt s 19 = .int .i64 (k20 : Int) ∧  Wle W W' ∧ St (q7 :: q8 :: G) W' H' ∧ OwS W' w7 q7 (x.1 : List Int) ∧ OwS W' w8 q8 (x.2.1 : List (Int × Int))) (fun x s H' => ∃ (W' : AH) (w7 : AV) (q7 : Frag) (w8 : AV) (q8 : Frag), s.length = 60 ∧ gt s 7 = w7 ∧ gt s 8 = w8 ∧ gt s 0 = v_0 ∧ gt s 1 = .int .i64 a ∧ gt s 2 = .int .i64 b_ ∧ gt s 18 = .int .i64 (t.length : Int) ∧ gt s 19 = .int .i64 (k20 : Int) ∧  Wle W W' ∧ St (q7 :: q8 :: G) W' H' ∧ OwS W' w7 q7 (x.1 : List Int) ∧ OwS W' w8 q8 (x.2.1 : List (Int × Int))) e42 ?_ ?_ ?_
  ·replace hst := hst.p1;replace hst := hst.p1;exact ⟨W, _, _, _, _, hl, g7, g8, g10, g0, g1, g2, g9, g18, g19, .refl _, hst, o31, o34⟩
  ·intro x36 y38 s H hI hy39 hx40;obtain ⟨p43, pairs44, x45⟩ := x36;dsimp only at hI;change P_subdirect_apart_l35 a b_ k20 t p43 pairs44 x45 = some y38 at hy39;unfold P_subdirect_apart_l35 at hy39;obtain ⟨W, v47, fg48, v50, fg51, hl, g7, g8, g10, g0, g1, g2, g9, g18, g19, w46, hst, o49, o52⟩ := hI;replace h_0 := Rp.mono w46 h_0;refine AM.wp_seq hp0 (AM.wp_seq hp0 (AM.wp_reg hp0 ?_));refine wpo_seg hp0 3 (fun s H' => s.length = 60 ∧ gt s 0 = v_0 ∧ gt s 1 = .int .i64 a ∧ gt s 2 = .int .i64 b_ ∧ gt s 7 = v47 ∧ gt s 8 = v50 ∧ gt s 9 = .int .i64 (k20 : Int) ∧ gt s 10 = .int .i64 x45 ∧ gt s 18 = .int .i64 (t.length : Int) ∧ gt s 19 = .int .i64 (k20 : Int) ∧ gt s 24 = .bool (decide (x45 < (k20 : Int))) ∧ H = H') (by simp only [↓runs, isCall, ↓reduceIte, ↓gd_true, ↓gd_false, evs, AV.cells, Nat.reduceEqDiff, Nat.reduceLT, reduceCtorEq, Nat.reduceAdd, sy, g0, g1, g2, g7, g8, g9, g10, g18, g19, hl]) ?_;rintro s _ ⟨hl, g0, g1, g2, g7, g8, g9, g10, g18, g19, g24, rfl⟩;refine wpo_nil (then_n ?_);rcases Bool.eq_false_or_eq_true (decide (x45 < (k20 : Int))) with c53 | c53
   ·replace hy39 := ifT c53 hy39;refine AM.wp_condT (by simp only [ev_t, ev_c, g24, c53]) ?_;refine AM.wp_skip ?_;refine then_n ?_;refine AM.wp_seq hp0 ?_;refine AM.wp_block ?_;refine AM.wp_seq hp0 (AM.wp_seq hp0 (AM.wp_reg hp0 ?_));obtain ⟨x54, e55, hy39⟩ := bn hy39;obtain ⟨p56, _, f58, f59, rfl⟩ := ow_at (k := .i64) hst (.head _) o49 e55 rfl;obtain ⟨x61, e62, hy39⟩ := bn hy39;obtain ⟨p63, _, f65, f66, rfl⟩ := ow_at (k := .i64) hst (.head _) o49 e62 rfl;refine wpo_seg hp0 9 (fun s H' => s.length = 60 ∧ gt s 0 = v_0 ∧ gt s 1 = .int .i64 a ∧ gt s 2 = .int .i64 b_ ∧ gt s 7 = v47 ∧ gt s 8 = v50 ∧ gt s 9 = .int .i64 (k20 : Int) ∧ gt s 10 = .int .i64 x45 ∧ gt s 18 = .int .i64 (t.length : Int) ∧ gt s 19 = .int .i64 (k20 : Int) ∧ gt s 35 = .bool (decide (x54 = x61)) ∧ H = H') (by simp only [↓runs, isCall, ↓reduceIte, ↓gd_true, ↓gd_false, evs, AV.cells, Nat.reduceEqDiff, Nat.reduceLT, reduceCtorEq, Nat.reduceAdd, sy, f58, f59, f65, f66, g0, g1, g2, g7, g8, g9, g10, g18, g19, g24, hl]) ?_;rintro s _ ⟨hl, g0, g1, g2, g7, g8, g9, g10, g18, g19, g35, rfl⟩;refine wpo_nil (then_n ?_);rcases Bool.eq_false_or_eq_true (decide (x54 = x61)) with c68 | c68
    ·replace hy39 := ifT c68 hy39;refine AM.wp_condT (by simp only [ev_t, ev_c, g35, c68]) ?_;refine AM.wp_exit ?_;refine then_x ?_;refine blk_h rfl ?_;refine then_n ?_;refine AM.wp_reg hp0 ?_;refine wpo_seg hp0 3 (fun s H' => s.length = 60 ∧ gt s 0 = v_0 ∧ gt s 1 = .int .i64 a ∧ gt s 2 = .int .i64 b_ ∧ gt s 7 = v47 ∧ gt s 8 = v50 ∧ gt s 9 = .int .i64 (k20 : Int) ∧ gt s 10 = .int .i64 (w64 (x45 + 1)) ∧ gt s 18 = .int .i64 (t.length : Int) ∧ gt s 19 = .int .i64 (k20 : Int) ∧ H = H') (by simp only [↓runs, isCall, ↓reduceIte, ↓gd_true, ↓gd_false, evs, AV.cells, Nat.reduceEqDiff, Nat.reduceLT, reduceCtorEq, Nat.reduceAdd, sy, g0, g1, g2, g7, g8, g9, g10, g18, g19, g35, hl]) ?_;rintro s _ ⟨hl, g0, g1, g2, g7, g8, g9, g10, g18, g19, rfl⟩;refine wpo_nil (then_n ?_);obtain rfl := Option.some.inj hy39;replace hst := hst.p1;replace hst := hst.p1;exact ⟨_, rfl, ⟨W, _, _, _, _, hl, g7, g8, g10, g0, g1, g2, g9, g18, g19, w46, hst, o49, o52⟩⟩
    ·replace hy39 := ifF c68 hy39;refine AM.wp_condF (by simp only [ev_t, ev_c, g35, c68]) ?_;refine AM.wp_skip ?_;refine then_n ?_;refine AM.wp_seq hp0 (AM.wp_reg hp0 ?_);obtain ⟨v69, l70, H71, fg72, W, f74, f75, f76, w73, hst, o77⟩ := ow_lit' (n := 2) (k := 0) (z := []) (ys := []) (M := ([] : List (Int × Int))) [] rfl rfl hst (sc_nil) ( fun _ h => (List.not_mem_nil h).elim) rfl rfl rfl (by decide);replace h_0 := Rp.mono w73 h_0;replace o49 := o49.mono w73;replace o52 := o52.mono w73;obtain ⟨c78, sn79⟩ := ow_sn hst (.tail _ (.tail _ (.head _))) o52;obtain ⟨x80, e81, hy39⟩ := bn hy39;obtain ⟨v82, H83, fg84, W, f86, w85, hst, o87⟩ := ow_apps [.int .i64 0, .int .i64 0] rfl hst o77 sn79 e81;replace h_0 := Rp.mono w85 h_0;replace o49 := o49.mono w85;replace o52 := o52.mono w85;have f88 : fillA [.int .i64 0, .int .i64 0] [(0, 1, .int .i64 x45), (1, 1, .int .i64 (k20 : Int))] = some [.int .i64 x45, .int .i64 (k20 : Int)] := by simp [fillA, splice, AV.cells]
     obtain ⟨v89, l90, H91, fg92, W, f94, f95, f96, w93, hst, o97⟩ := ow_lit' (n := 2) (k := 1) (z := [.int .i64 0, .int .i64 0]) (ys := [.agg [.int .i64 x45, .int .i64 (k20 : Int)]]) (M := ([(x45, (k20 : Int))] : List (Int × Int))) [(0, 2, .agg [.int .i64 x45, .int .i64 (k20 : Int)])] rfl rfl hst (sc_cons (show Rp.rv _ (.agg [.int .i64 x45, .int .i64 (k20 : Int)]) ((x45, (k20 : Int)) : Int × Int) from (mk_ii _ _ _)) (sc_nil)) ((List.forall_mem_cons.2 ⟨(Rp.cells (show Rp.rv W (.agg [.int .i64 x45, .int .i64 (k20 : Int)]) ((x45, (k20 : Int)) : Int × Int) from (mk_ii _ _ _))), fun _ h => (List.not_mem_nil h).elim⟩)) rfl rfl rfl (by decide);replace h_0 := Rp.mono w93 h_0;replace o49 := o49.mono w93;replace o52 := o52.mono w93;replace o87 := o87.mono w93;obtain ⟨c98, sn99⟩ := ow_sn hst (.head _) o97;obtain ⟨x100, e101, hy39⟩ := bn hy39;replace hst := hst.p1;obtain ⟨v102, H103, fg104, W, f106, w105, hst, o107⟩ := ow_apps [.int .i64 0, .int .i64 0] rfl hst o87 sn99 e101;replace h_0 := Rp.mono w105 h_0;replace o49 := o49.mono w105;replace o52 := o52.mono w105;replace o97 := o97.mono w105;refine wpo_seg hp0 9 (fun s H' => s.length = 60 ∧ gt s 0 = v_0 ∧ gt s 1 = .int .i64 a ∧ gt s 2 = .int .i64 b_ ∧ gt s 7 = v47 ∧ gt s 8 = v50 ∧ gt s 9 = .int .i64 (k20 : Int) ∧ gt s 10 = .int .i64 x45 ∧ gt s 11 = v102 ∧ gt s 18 = .int .i64 (t.length : Int) ∧ gt s 19 = .int .i64 (k20 : Int) ∧ H103 = H') (by simp only [↓runs, isCall, ↓reduceIte, ↓gd_true, ↓gd_false, evs, AV.cells, Nat.reduceEqDiff, Nat.reduceLT, reduceCtorEq, Nat.reduceAdd, sy, f74, f75, f76, f86, f88, f94, f95, f96, f106, g0, g1, g2, g7, g8, g9, g10, g18, g19, g35, hl]) ?_;rintro s _ ⟨hl, g0, g1, g2, g7, g8, g9, g10, g11, g18, g19, rfl⟩;refine wpo_nil (then_n ?_);refine AM.wp_seq hp0 (AM.wp_reg hp0 ?_);refine wpo_seg hp0 2 (fun s H' => s.length = 60 ∧ gt s 0 = v_0 ∧ gt s 1 = .int .i64 a ∧ gt s 2 = .int .i64 b_ ∧ gt s 7 = v47 ∧ gt s 8 = v50 ∧ gt s 9 = .int .i64 (k20 : Int) ∧ gt s 10 = .int .i64 x45 ∧ gt s 11 = v102 ∧ gt s 18 = .int .i64 (t.length : Int) ∧ gt s 19 = .int .i64 (k20 : Int) ∧ gt s 44 = v_0 ∧ gt s 45 = v102 ∧ H103 = H') (by simp only [↓runs, isCall, ↓reduceIte, ↓gd_true, ↓gd_false, evs, AV.cells, Nat.reduceEqDiff, Nat.reduceLT, reduceCtorEq, Nat.reduceAdd, sy, g0, g1, g2, g7, g8, g9, g10, g11, g18, g19, hl]) ?_;rintro s _ ⟨hl, g0, g1, g2, g7, g8, g9, g10, g11, g18, g19, g44, g45, rfl⟩;obtain ⟨r108, e109, hy39⟩ := bn hy39;obtain ⟨W, w110, hst, h111, k112⟩ := ow_lend hst o107;refine wpo_callK hp0 rfl (ys := [v_0, v102, .int .i64 0]) (by simp only [evs, List.map_cons, List.map_nil, ev_t, ev_c, g44, g45]) (R_congr_Generated hst (Rp.mono w110 h_0) h111 e109) ?_;rintro rv113 H ⟨W, w114, fg115, hst, o116⟩;obtain ⟨W, w117, hst, o107⟩ := k112 _ _ _ w114 hst;replace o116 : OwS W _ _ _ := o116.flat;replace h_0 := Rp.mono w117 h_0;replace o49 := o49.mono w117;replace o52 := o52.mono w117;replace o97 := o97.mono w117;refine wpo_seg hp0 1 (fun s H' => s.length = 60 ∧ gt s 0 = v_0 ∧ gt s 1 = .int .i64 a ∧ gt s 2 = .int .i64 b_ ∧ gt s 7 = v47 ∧ gt s 8 = v50 ∧ gt s 9 = .int .i64 (k20 : Int) ∧ gt s 10 = .int .i64 x45 ∧ gt s 11 = v102 ∧ gt s 12 = rv113 ∧ gt s 18 = .int .i64 (t.length : Int) ∧ gt s 19 = .int .i64 (k20 : Int) ∧ H = H') (by simp only [↓runs, isCall, ↓reduceIte, ↓gd_true, ↓gd_false, evs, AV.cells, Nat.reduceEqDiff, Nat.reduceLT, reduceCtorEq, Nat.reduceAdd, sy, gt_other, g0, g1, g2, g7, g8, g9, g10, g11, g18, g19, g44, g45, hl]) ?_;rintro s _ ⟨hl, g0, g1, g2, g7, g8, g9, g10, g11, g12, g18, g19, rfl⟩;refine wpo_nil (then_n ?_);refine AM.wp_seq hp0 (AM.wp_reg hp0 ?_);obtain ⟨x118, e119, hy39⟩ := bn hy39;obtain ⟨p120, _, f122, f123, rfl⟩ := ow_at (k := .i64) hst (.tail _ (.head _)) o116 e119 rfl;obtain ⟨x125, e126, hy39⟩ := bn hy39;obtain ⟨p127, _, f129, f130, rfl⟩ := ow_at (k := .i64) hst (.tail _ (.head _)) o116 e126 rfl;refine wpo_seg hp0 9 (fun s H' => s.length = 60 ∧ gt s 0 = v_0 ∧ gt s 1 = .int .i64 a ∧ gt s 2 = .int .i64 b_ ∧ gt s 7 = v47 ∧ gt s 8 = v50 ∧ gt s 9 = .int .i64 (k20 : Int) ∧ gt s 10 = .int .i64 x45 ∧ gt s 11 = v102 ∧ gt s 12 = rv113 ∧ gt s 18 = .int .i64 (t.length : Int) ∧ gt s 19 = .int .i64 (k20 : Int) ∧ gt s 55 = .bool (!decide (x118 = x125)) ∧ H = H') (by simp only [↓runs, isCall, ↓reduceIte, ↓gd_true, ↓gd_false, evs, AV.cells, Nat.reduceEqDiff, Nat.reduceLT, reduceCtorEq, Nat.reduceAdd, sy, f122, f123, f129, f130, g0, g1, g2, g7, g8, g9, g10, g11, g12, g18, g19, hl]) ?_;rintro s _ ⟨hl, g0, g1, g2, g7, g8, g9, g10, g11, g12, g18, g19, g55, rfl⟩;refine wpo_nil (then_n ?_);rcases Bool.eq_false_or_eq_true (!decide (x118 = x125)) with c132 | c132
     ·replace hy39 := ifT c132 hy39;refine AM.wp_condT (by simp only [ev_t, ev_c, g55, c132]) ?_;refine AM.wp_reg hp0 ?_;refine wpo_seg hp0 4 (fun s H' => s.length = 60 ∧ gt s 0 = v_0 ∧ gt s 1 = .int .i64 a ∧ gt s 2 = .int .i64 b_ ∧ gt s 7 = rv113 ∧ gt s 8 = v102 ∧ gt s 9 = .int .i64 (k20 : Int) ∧ gt s 10 = .int .i64 x45 ∧ gt s 18 = .int .i64 (t.length : Int) ∧ gt s 19 = .int .i64 (k20 : Int) ∧ H = H') (by simp only [↓runs, isCall, ↓reduceIte, ↓gd_true, ↓gd_false, evs, AV.cells, Nat.reduceEqDiff, Nat.reduceLT, reduceCtorEq, Nat.reduceAdd, sy, g0, g1, g2, g7, g8, g9, g10, g11, g12, g18, g19, g55, hl]) ?_;rintro s _ ⟨hl, g0, g1, g2, g7, g8, g9, g10, g18, g19, rfl⟩;refine wpo_nil ?_;refine blk_n ?_;refine then_n ?_;refine AM.wp_reg hp0 ?_;refine wpo_seg hp0 3 (fun s H' => s.length = 60 ∧ gt s 0 = v_0 ∧ gt s 1 = .int .i64 a ∧ gt s 2 = .int .i64 b_ ∧ gt s 7 = rv113 ∧ gt s 8 = v102 ∧ gt s 9 = .int .i64 (k20 : Int) ∧ gt s 10 = .int .i64 (w64 (x45 + 1)) ∧ gt s 18 = .int .i64 (t.length : Int) ∧ gt s 19 = .int .i64 (k20 : Int) ∧ H = H') (by simp only [↓runs, isCall, ↓reduceIte, ↓gd_true, ↓gd_false, evs, AV.cells, Nat.reduceEqDiff, Nat.reduceLT, reduceCtorEq, Nat.reduceAdd, sy, g0, g1, g2, g7, g8, g9, g10, g18, g19, hl]) ?_;rintro s _ ⟨hl, g0, g1, g2, g7, g8, g9, g10, g18, g19, rfl⟩;refine wpo_nil (then_n ?_);obtain rfl := Option.some.inj hy39;replace hst := hst.p2;replace hst := hst.drop;replace hst := hst.p2;replace hst := hst.drop;replace hst := hst.p2;replace hst := hst.drop;replace hst := hst.p1;exact ⟨_, rfl, ⟨W, _, _, _, _, hl, g7, g8, g10, g0, g1, g2, g9, g18, g19, (((((w46.trans w73).trans w85).trans w93).trans w105).trans w117), hst, o116, o107⟩⟩
     ·replace hy39 := ifF c132 hy39;refine AM.wp_condF (by simp only [ev_t, ev_c, g55, c132]) ?_;refine AM.wp_skip ?_;refine blk_n ?_;refine then_n ?_;refine AM.wp_reg hp0 ?_;refine wpo_seg hp0 3 (fun s H' => s.length = 60 ∧ gt s 0 = v_0 ∧ gt s 1 = .int .i64 a ∧ gt s 2 = .int .i64 b_ ∧ gt s 7 = v47 ∧ gt s 8 = v50 ∧ gt s 9 = .int .i64 (k20 : Int) ∧ gt s 10 = .int .i64 (w64 (x45 + 1)) ∧ gt s 18 = .int .i64 (t.length : Int) ∧ gt s 19 = .int .i64 (k20 : Int) ∧ H = H') (by simp only [↓runs, isCall, ↓reduceIte, ↓gd_true, ↓gd_false, evs, AV.cells, Nat.reduceEqDiff, Nat.reduceLT, reduceCtorEq, Nat.reduceAdd, sy, g0, g1, g2, g7, g8, g9, g10, g11, g12, g18, g19, g55, hl]) ?_;rintro s _ ⟨hl, g0, g1, g2, g7, g8, g9, g10, g18, g19, rfl⟩;refine wpo_nil (then_n ?_);obtain rfl := Option.some.inj hy39;replace hst := hst.drop;replace hst := hst.drop;replace hst := hst.drop;replace hst := hst.p1;replace hst := hst.p1;exact ⟨_, rfl, ⟨W, _, _, _, _, hl, g7, g8, g10, g0, g1, g2, g9, g18, g19, (((((w46.trans w73).trans w85).trans w93).trans w105).trans w117), hst, o49, o52⟩⟩
   ·replace hy39 := ifF c53 hy39;refine AM.wp_condF (by simp only [ev_t, ev_c, g24, c53]) ?_;refine AM.wp_exit ?_;refine then_x ?_;refine then_x (rnd_c rfl ?_);obtain rfl := Option.some.inj hy39;replace hst := hst.p1;replace hst := hst.p1;exact ⟨_, rfl, ⟨W, _, _, _, _, hl, g7, g8, g0, g1, g2, g18, g19, w46, hst, o49, o52⟩⟩
  ·rintro x133 s H hz hI;subst hz;dsimp only at hy22 hI;obtain ⟨W, v135, fg136, v138, fg139, hl, g7, g8, g0, g1, g2, g18, g19, w134, hst, o137, o140⟩ := hI;replace h_0 := Rp.mono w134 h_0;refine rnd_n ?_;obtain rfl := Option.some.inj hy22;replace hst := hst.p1;replace hst := hst.p1;exact ⟨hl, g19, g18, ⟨W, _, _, _, _, hl, g7, g8, g0, g1, g2, (w28.trans w134), hst, o137, o140⟩⟩
 ·rintro s H hI _;obtain ⟨W, v142, fg143, v145, fg146, hl, g7, g8, g0, g1, g2, w141, hst, o144, o147⟩ := hI;replace h_0 := Rp.mono w141 h_0;refine then_n ?_;refine AM.wp_seq hp0 (AM.wp_reg hp0 ?_);refine wpo_seg hp0 2 (fun s H' => s.length = 60 ∧ gt s 6 = v142 ∧ H = H') (by simp only [↓runs, isCall, ↓reduceIte, ↓gd_true, ↓gd_false, evs, AV.cells, Nat.reduceEqDiff, Nat.reduceLT, reduceCtorEq, Nat.reduceAdd, sy, g0, g1, g2, g7, g8, hl]) ?_;rintro s _ ⟨hl, g6, rfl⟩;refine wpo_nil (then_n ?_);refine AM.wp_ret ?_;obtain rfl := Option.some.inj hp;replace hst := hst.p1;replace hst := hst.drop;refine body_ret (vs := [v142]) (by simp only [rvs, f_subdirect_apart, Option.map_some, g6]) ?_;exact ⟨W, ((w5.trans w12).trans w141), _, hst, o144⟩

end Go.Proofs.Ytmdpejgnkoneoaa.Pu
set_option maxRecDepth 10000
namespace Go.Proofs.Ytmdpejgnkoneoaa.Mt
open Go Go.AM Go.AM.Par Go.AM.Cg Go.AM.Lx Go.Proofs.Ytmdpejgnkoneoaa.Pu

theorem gen_from {n : Nat} {T : Nat → Nat → Nat} {sd : Int} {P Q : List (Nat × Nat)} {x y : Nat} (h : Gen n T sd P x y) (hP : ∀ q ∈ P, Gen n T sd Q q.1 q.2) : Gen n T sd Q x y :=
  fun θ hθ h0 => h θ hθ fun q hq => hP q hq θ hθ h0
structure Ap (n : Nat) (T : Nat → Nat → Nat) (a b k x : Nat) (p : List Int) (P : List (Nat × Nat)) : Prop where
  lt : ∀ q ∈ P, q.1 < n ∧ q.2 < n
  len : P.length ≤ k * 400 + x
  is : IsP n (Gen n T 0 P) p
  ap : p.getD a 0 ≠ p.getD b 0
  mx : ∀ u v, (v < k ∨ (v = k ∧ u < x)) → u < v → v < n → p.getD u 0 = p.getD v 0 ∨ Gen n T 0 (P ++ [(u, v)]) a b

theorem apart_row {t : List (List Int)} {n : Nat} {T : Nat → Nat → Nat} (h : Sg t n T) {a b k : Nat} (ha : a < n) (hb : b < n) (hk : k < n) {p : List Int} {P : List (Nat × Nat)} (hA : Ap n T a b k 0 p P) :
    ∃ p' P', P_subdirect_apart_l18 (a : Int) (b : Int) t k p (P.map pz) = some (p', P'.map pz) ∧ Ap n T a b (k + 1) 0 p' P' := by
  have h400 := h.le
  obtain ⟨o, ho, p', P', rfl, hQ⟩ := loop_inv (f := fun x => P_subdirect_apart_l35 (a : Int) (b : Int) k t x.1 x.2.1 x.2.2) (x := (p, P.map pz, (0 : Int)))
    (fun s : List Int × List (Int × Int) × Int => ∃ (x : Nat) (P : List (Nat × Nat)), s.2.2 = (x : Int) ∧ x ≤ k ∧ s.2.1 = P.map pz ∧ Ap n T a b k x s.1 P)
    (fun s => k - s.2.2.toNat) (fun o => ∃ p' P', o = .inl (p', P'.map pz, (k : Int)) ∧ Ap n T a b k k p' P') ⟨0, P, rfl, Nat.zero_le _, rfl, hA⟩ (by
      rintro ⟨p, _, _⟩ ⟨x, P, rfl, hxk, rfl, hA⟩
      dsimp only at hA ⊢
      have hlen := hA.is.len
      have hPl := hA.len
      have hw : w64 ((x : Int) + 1) = ((x + 1 : Nat) : Int) := by rw [w64_id (by omega) (by omega)]; simp
      have hms : k - (w64 ((x : Int) + 1)).toNat = k - (x + 1) := by rw [hw, Int.toNat_natCast]
      unfold P_subdirect_apart_l35
      by_cases hlt : x < k
      · rw [if_pos (by simp only [decide_eq_true_eq]; omega), gi_lt 0 (by omega), gi_lt 0 (by omega)]
        simp only [Option.bind_some]
        by_cases e : p.getD x 0 = p.getD k 0
        · rw [if_pos (by simpa only [decide_eq_true_eq] using e)]
          refine .inl ⟨_, rfl, ⟨x + 1, P, hw, by omega, rfl, hA.lt, by omega, hA.is, hA.ap, fun u v hc huv hv => ?_⟩, by dsimp only; rw [hms]; omega⟩
          by_cases hh : v = k ∧ u = x
          · rw [hh.1, hh.2]; exact .inl e
          · exact hA.mx u v (by omega) huv hv
        · rw [if_neg (by simpa only [decide_eq_true_eq] using e)]
          rw [pus_ok (by simp only [List.length_nil, List.length_map]; omega) (by omega)]
          simp only [Option.bind_some, List.nil_append]
          rw [pus_ok (by simp only [List.length_cons, List.length_nil, List.length_map]; omega) (by omega)]
          simp only [Option.bind_some]
          have hm : P.map pz ++ [((x : Int), (k : Int))] = (P ++ [(x, k)]).map pz := by simp [pz]
          have hlt2 : ∀ q ∈ P ++ [(x, k)], q.1 < n ∧ q.2 < n := fun q hq => by
            rcases List.mem_append.1 hq with h1 | h1
            · exact hA.lt q h1
            · simp only [List.mem_singleton] at h1; subst h1; exact ⟨by omega, hk⟩
          obtain ⟨r, e1, hr⟩ := Generated (sd := 0) h ⟨by omega, by omega⟩ (P0 := P ++ [(x, k)]) hlt2 (by simp only [List.length_append, List.length_cons, List.length_nil]; omega)
          rw [hm, e1]
          simp only [Option.bind_some]
          have hrl := hr.len
          rw [gi_lt 0 (by omega), gi_lt 0 (by omega)]
          simp only [Option.bind_some]
          by_cases e2 : r.getD a 0 = r.getD b 0
          · have c1 : decide (r.getD a 0 = r.getD b 0) = true := decide_eq_true e2
            simp only [c1, Bool.not_true, Bool.false_eq_true, if_false]
            refine .inl ⟨_, rfl, ⟨x + 1, P, hw, by omega, rfl, hA.lt, by omega, hA.is, hA.ap, fun u v hc huv hv => ?_⟩, by dsimp only; rw [hms]; omega⟩
            by_cases hh : v = k ∧ u = x
            · rw [hh.1, hh.2]; exact .inr ((hr.ker a b ha hb).1 e2)
            · exact hA.mx u v (by omega) huv hv
          · have c1 : decide (r.getD a 0 = r.getD b 0) = false := decide_eq_false e2
            simp only [c1, Bool.not_false, if_true]
            refine .inl ⟨_, rfl, ⟨x + 1, P ++ [(x, k)], hw, by omega, rfl, hlt2, by simp only [List.length_append, List.length_cons, List.length_nil]; omega, hr, e2, fun u v hc huv hv => ?_⟩, by dsimp only; rw [hms]; omega⟩
            by_cases hh : v = k ∧ u = x
            · rw [hh.1, hh.2]; exact .inl ((hr.ker x k (by omega) hk).2 (Gen.has (p := (x, k)) (by simp)))
            · rcases hA.mx u v (by omega) huv hv with h1 | h1
              · exact .inl ((hr.ker u v (by omega) hv).2 (gen_from ((hA.is.ker u v (by omega) hv).1 h1) fun q hq => Gen.has (List.mem_append_left _ hq)))
              · refine .inr (gen_from h1 fun q hq => Gen.has ?_)
                rcases List.mem_append.1 hq with h2 | h2
                · exact List.mem_append_left _ (List.mem_append_left _ h2)
                · exact List.mem_append_right _ h2
      · have : x = k := by omega
        subst this
        rw [if_neg (by simp only [decide_eq_true_eq]; omega)]
        exact .inr (.inl ⟨_, rfl, p, P, rfl, hA⟩))
  have hlen : P'.length ≤ (k + 1) * 400 + 0 := by
    have h1 := hQ.len
    clear hA hQ ho
    omega
  refine ⟨p', P', ?_, ⟨hQ.lt, hlen, hQ.is, hQ.ap, fun u v hc huv hv => hQ.mx u v (by omega) huv hv⟩⟩
  unfold P_subdirect_apart_l18
  rw [ho]
  rfl

theorem apart {t : List (List Int)} {n : Nat} {T : Nat → Nat → Nat} (h : Sg t n T) {a b : Nat} (ha : a < n) (hb : b < n) (hne : a ≠ b) :
    ∃ p P, P_subdirect_apart t (a : Int) (b : Int) = some p ∧ Ap n T a b n 0 p P := by
  have h400 := h.le
  unfold P_subdirect_apart
  rw [h.len, discrete' (by omega)]
  simp only [Option.bind_some]
  have hg : IsP n (Gen n T 0 []) (iota n) := (iota_isP n).mono fun x y _ _ => by
    constructor
    · intro e; rw [e]; exact Gen.cgr.refl y
    · intro hh
      exact hh (fun u v => u = v) ⟨fun _ => rfl, fun _ _ e => e.symm, fun _ _ _ e e2 => e.trans e2, fun _ s x y _ _ _ e => by rw [e], fun _ s x y _ _ _ e => by rw [e]⟩ (fun p hp => by simp at hp)
  obtain ⟨y, hy, P, hP, hQ⟩ := forS_inv (n := n) (f := fun k x => P_subdirect_apart_l18 (a : Int) (b : Int) t k x.1 x.2) (x := (iota n, []))
    (fun k x => ∃ P : List (Nat × Nat), x.2 = P.map pz ∧ Ap n T a b k 0 x.1 P) ⟨[], rfl, fun q hq => by simp at hq, Nat.zero_le _, hg, fun e => hne (iota_inj ha hb e), fun u v hc => by omega⟩ (by
      rintro k ⟨p, _⟩ hk ⟨P, rfl, hA⟩
      obtain ⟨p', P', e, hA'⟩ := apart_row h ha hb hk hA
      exact ⟨_, e, P', rfl, hA'⟩)
  rw [hy]
  exact ⟨_, P, rfl, hQ⟩

theorem quo_hom {n : Nat} {T : Nat → Nat → Nat} {p : List Int} (hC : CongL n T 0 p) (hlt : ∀ x y, x < n → y < n → T x y < n) {x y : Nat} (hx : x < n) (hy : y < n) :
    quoT T p (p.getD x 0).toNat (p.getD y 0).toNat = (p.getD (T x y) 0).toNat := by
  obtain ⟨hl, hv, hc⟩ := hC
  have key : ∀ z, z < n → fpt p (p.getD z 0).toNat < n ∧ p.getD (fpt p (p.getD z 0).toNat) 0 = p.getD z 0 := fun z hz => by
    have h1 := ncl_lt hv (k := z) (by omega)
    have h2 := fpt_spec hv (c := (p.getD z 0).toNat) (by omega)
    exact ⟨by rw [← hl]; exact h2.2.1, by rw [h2.2.2.1]; omega⟩
  obtain ⟨a1, a2⟩ := key x hx
  obtain ⟨b1, b2⟩ := key y hy
  unfold quoT
  rw [(hc _ _ (fpt p (p.getD y 0).toNat) a1 hx b1 a2).2 (by omega), (hc _ _ x b1 hy hx b2).1 (by omega)]

theorem Ap.fac {t : List (List Int)} {n : Nat} {T : Nat → Nat → Nat} (h : Sg t n T) {a b : Nat} (ha : a < n) (hb : b < n) {p : List Int} {P : List (Nat × Nat)} (hA : Ap n T a b n 0 p P) : Fac n T p := by
  have h400 := h.le
  have hv := hA.is.valid (by omega)
  have hC : CongL n T 0 p := ⟨hA.is.len, hv, fun x y s hx hy hs e => by
    have g := (hA.is.ker x y hx hy).1 e
    exact ⟨fun q => (hA.is.ker _ _ (h.lt _ _ hs hx) (h.lt _ _ hs hy)).2 (Gen.cgr.left q s x y hs hx hy g), fun q => (hA.is.ker _ _ (h.lt _ _ hx hs) (h.lt _ _ hy hs)).2 (Gen.cgr.right q s x y hs hx hy g)⟩⟩
  have hl := hC.1
  have na := ncl_lt hv (k := a) (by omega)
  have nb := ncl_lt hv (k := b) (by omega)
  have hap := hA.ap
  refine ⟨hC, by omega, fun hD => ?_⟩
  have := hD (p.getD a 0).toNat (p.getD b 0).toNat (by omega) (by omega) fun c d hc hd hcd => by
    intro θ hθ h0
    have hcg : Cgr n T 0 fun x y => θ (p.getD x 0).toNat (p.getD y 0).toNat := by
      refine ⟨fun _ => hθ.refl _, fun _ _ => hθ.symm _ _, fun _ _ _ => hθ.trans _ _ _, fun q s x y hs hx hy e => ?_, fun q s x y hs hx hy e => ?_⟩
      · have k1 := ncl_lt hv (k := s) (by omega); have k2 := ncl_lt hv (k := x) (by omega); have k3 := ncl_lt hv (k := y) (by omega)
        have := hθ.left q (p.getD s 0).toNat _ _ (by omega) (by omega) (by omega) e
        rwa [quo_hom hC h.lt hs hx, quo_hom hC h.lt hs hy] at this
      · have k1 := ncl_lt hv (k := s) (by omega); have k2 := ncl_lt hv (k := x) (by omega); have k3 := ncl_lt hv (k := y) (by omega)
        have := hθ.right q (p.getD s 0).toNat _ _ (by omega) (by omega) (by omega) e
        rwa [quo_hom hC h.lt hx hs, quo_hom hC h.lt hy hs] at this
    have fc := fpt_spec hv hc
    have fd := fpt_spec hv hd
    have hcd0 : θ c d := h0 (c, d) (by simp)
    have hold : ∀ q ∈ P, θ (p.getD q.1 0).toNat (p.getD q.2 0).toNat := fun q hq => by
      obtain ⟨q1, q2⟩ := hA.lt q hq
      rw [(hA.is.ker q.1 q.2 q1 q2).2 (Gen.has hq)]; exact hθ.refl _
    have tc : (p.getD (fpt p c) 0).toNat = c := by rw [fc.2.2.1]; simp
    have td : (p.getD (fpt p d) 0).toNat = d := by rw [fd.2.2.1]; simp
    rcases Nat.lt_trichotomy (fpt p c) (fpt p d) with h5 | h5 | h5
    · rcases hA.mx _ _ (.inl (by omega)) h5 (by omega) with h6 | h6
      · exact absurd (by have := fc.2.2.1; have := fd.2.2.1; omega) hcd
      · refine h6 _ hcg fun q hq => ?_
        rcases List.mem_append.1 hq with h7 | h7
        · exact hold q h7
        · simp only [List.mem_singleton] at h7; subst h7
          show θ (p.getD (fpt p c) 0).toNat (p.getD (fpt p d) 0).toNat
          rw [tc, td]; exact hcd0
    · exact absurd (by rw [← tc, ← td, h5]) hcd
    · rcases hA.mx _ _ (.inl (by omega)) h5 (by omega) with h6 | h6
      · exact absurd (by have := fc.2.2.1; have := fd.2.2.1; omega) hcd
      · refine h6 _ hcg fun q hq => ?_
        rcases List.mem_append.1 hq with h7 | h7
        · exact hold q h7
        · simp only [List.mem_singleton] at h7; subst h7
          show θ (p.getD (fpt p d) 0).toNat (p.getD (fpt p c) 0).toNat
          rw [tc, td]; exact hθ.symm _ _ hcd0
  omega
end Go.Proofs.Ytmdpejgnkoneoaa.Mt
