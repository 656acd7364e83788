/- Part 10 of the proof that the law SubdirectEmbeds holds: words and lemmas it rests on. No condition. -/
import Derived.Test.YtmdpejgnkoneoaaE5
import Derived.Test.YtmdpejgnkoneoaaE6
import Derived.Test.YtmdpejgnkoneoaaE9
import Derived.Test.YtmdpejgnkoneoaaE8
set_option linter.unusedSimpArgs false
set_option linter.unusedVariables false
set_option linter.unnecessarySimpa false
set_option linter.unusedSectionVars false
set_option maxRecDepth 100000
set_option maxHeartbeats 4000000
namespace Go.Proofs.Ytmdpejgnkoneoaa.Pu
open Go Go.AM Go.Proofs.Ytmdpejgnkoneoaa.Code

noncomputable def P_subdirect_Decompose_l50 (r22 : (List Int)) (t : List (List Int)) (k52 : Nat) (list58 : List (List Int)) (x59 : List (Int × Int)) : Option (Lp ((List (List Int)) × (List (Int × Int))) (Empty)) :=
 Option.bind (gi r22 (k52 : Int)) fun x66 =>
 if (mget x59 x66).isSome then
  Option.bind (P_subdirect_apart t ((mget x59 x66).getD 0) (k52 : Int)) fun r78 =>
  Option.bind (pus 24 list58 [r78]) fun x97 =>
  some (.br (x97, x59))
 else
  some (.go (list58, mput x59 x66 (k52 : Int)))
noncomputable def P_subdirect_Decompose_l7 (t : List (List Int)) (x9 : List (List Int)) : Option (Lp ((List (List Int))) (Empty)) :=
 Option.bind (P_subdirect_meet (t.length : Int) x9 (-1)) fun r22 =>
 Option.bind (P_subdirect_discrete r22) fun r32 =>
 if r32 then
  some (.br x9)
 else
  Option.bind (forR r22.length (fun k x => P_subdirect_Decompose_l50 r22 t k x.1 x.2) (x9, [])) fun z56 =>
  match z56 with
  | .inl x109 =>
   some (.go x109.1)
  | .inr b => b.elim
noncomputable def P_subdirect_Decompose_l121 (t : List (List Int)) (list129 : List (List Int)) (i130 : Int) : Option (Lp ((List (List Int)) × Int) (Empty)) :=
 if decide (i130 < (list129.length : Int)) then
  Option.bind (P_subdirect_meet (t.length : Int) list129 i130) fun r139 =>
  Option.bind (P_subdirect_discrete r139) fun r151 =>
  if r151 then
   Option.bind (sub list129 none (some i130)) fun x167 =>
   Option.bind (pus 24 [] x167) fun x174 =>
   Option.bind (sub list129 (some (w64 (i130 + 1))) none) fun x182 =>
   Option.bind (pus 24 x174 x182) fun x189 =>
   some (.go (x189, i130))
  else
   some (.go (list129, w64 (i130 + 1)))
 else
  some (.br (list129, i130))
noncomputable def P_subdirect_Decompose (t : List (List Int)) : Option ((List (List Int)) × Int) :=
 Option.bind (P_mult_Validate t) fun r1 =>
 if !decide (r1 = 0) then
  some ([], r1)
 else
  Option.bind (loopO (fun x => P_subdirect_Decompose_l7 t x) []) fun z14 =>
  match z14 with
  | .inl x116 =>
   Option.bind (loopO (fun x => P_subdirect_Decompose_l121 t x.1 x.2) (x116, 0)) fun z127 =>
   match z127 with
   | .inl x197 =>
    some (x197.1, 0)
   | .inr b => b.elim
  | .inr b => b.elim
theorem R_subdirect_Decompose {G : List Frag} {W H : AH} {v_0 : AV} {t : List (List Int)} (hst : St G W H) (h_0 : Rp.rv W v_0 t) {r : (List (List Int)) × Int} (hp : P_subdirect_Decompose t = some r) :
  wpc E0 N_subdirect_Decompose [v_0] H fun rv H' => ∃ W', Wle W W' ∧ ∃ (v0 : AV), ∃ (g0 : Frag), St (g0 :: G) W' H' ∧ rv = .tup [v0, .int .i64 r.2] ∧ OwS W' v0 g0 (r.1 : List (List Int)) := by
 refine enterN (F := f_subdirect_Decompose) rfl (Nat.le_of_ble_eq_true rfl) fun s hl hg => ?_;replace hl : s.length = 73 := hl;have g0 : gt s 0 = v_0 := hg 0 (Nat.le_of_ble_eq_true rfl);clear hg;unfold P_subdirect_Decompose at hp;show wp E0 c_subdirect_Decompose s H _;unfold c_subdirect_Decompose;refine AM.wp_seq hp0 (AM.wp_reg hp0 ?_);refine wpo_seg hp0 2 (fun s H' => s.length = 73 ∧ gt s 0 = v_0 ∧ H = H') (by simp only [↓runs, isCall, ↓reduceIte, ↓gd_true, ↓gd_false, evs, AV.cells, Nat.reduceEqDiff, Nat.reduceLT, reduceCtorEq, Nat.reduceAdd, sy, g0, hl]) ?_;rintro s _ ⟨hl, g0, rfl⟩;refine wpo_nil (then_n ?_);refine AM.wp_seq hp0 (AM.wp_seq hp0 (AM.wp_reg hp0 ?_));refine wpo_seg hp0 1 (fun s H' => s.length = 73 ∧ gt s 0 = v_0 ∧ gt s 13 = v_0 ∧ H = H') (by simp only [↓runs, isCall, ↓reduceIte, ↓gd_true, ↓gd_false, evs, AV.cells, Nat.reduceEqDiff, Nat.reduceLT, reduceCtorEq, Nat.reduceAdd, sy, g0, hl]) ?_;rintro s _ ⟨hl, g0, g13, rfl⟩;obtain ⟨r1, e2, hp⟩ := bn hp;refine wpo_callK hp0 rfl (ys := [v_0]) (by simp only [evs, List.map_cons, List.map_nil, ev_t, ev_c, g13]) (R_mult_Validate hst h_0 e2) ?_;rintro rv3 H ⟨W, w4, hst, rfl⟩;replace h_0 := Rp.mono w4 h_0;refine wpo_seg hp0 1 (fun s H' => s.length = 73 ∧ gt s 0 = v_0 ∧ gt s 4 = .int .i64 r1 ∧ H = H') (by simp only [↓runs, isCall, ↓reduceIte, ↓gd_true, ↓gd_false, evs, AV.cells, Nat.reduceEqDiff, Nat.reduceLT, reduceCtorEq, Nat.reduceAdd, sy, gt_other, g0, g13, hl]) ?_;rintro s _ ⟨hl, g0, g4, rfl⟩;refine wpo_nil (then_n ?_);refine AM.wp_seq hp0 (AM.wp_reg hp0 ?_);refine wpo_seg hp0 2 (fun s H' => s.length = 73 ∧ gt s 0 = v_0 ∧ gt s 4 = .int .i64 r1 ∧ gt s 16 = .bool (!decide (r1 = 0)) ∧ H = H') (by simp only [↓runs, isCall, ↓reduceIte, ↓gd_true, ↓gd_false, evs, AV.cells, Nat.reduceEqDiff, Nat.reduceLT, reduceCtorEq, Nat.reduceAdd, sy, g0, g4, hl]) ?_;rintro s _ ⟨hl, g0, g4, g16, rfl⟩;refine wpo_nil (then_n ?_);rcases Bool.eq_false_or_eq_true (!decide (r1 = 0)) with c5 | c5
 ·replace hp := ifT c5 hp;refine AM.wp_condT (by simp only [ev_t, ev_c, g16, c5]) ?_;refine AM.wp_seq hp0 (AM.wp_reg hp0 ?_);refine wpo_seg hp0 3 (fun s H' => s.length = 73 ∧ gt s 2 = .nils ∧ gt s 3 = .int .i64 r1 ∧ H = H') (by simp only [↓runs, isCall, ↓reduceIte, ↓gd_true, ↓gd_false, evs, AV.cells, Nat.reduceEqDiff, Nat.reduceLT, reduceCtorEq, Nat.reduceAdd, sy, g0, g4, g16, hl]) ?_;rintro s _ ⟨hl, g2, g3, rfl⟩;refine wpo_nil (then_n ?_);refine AM.wp_ret ?_;refine then_r ?_;replace hst := hst.nil;have o6 := ow_nil (α := List Int) W;obtain rfl := Option.some.inj hp;refine body_ret (vs := [.nils, .int .i64 r1]) (by simp only [rvs, f_subdirect_Decompose, Option.map_some, g2, g3]) ?_;exact ⟨W, w4, _, _, hst, rfl, o6⟩
 ·replace hp := ifF c5 hp;refine AM.wp_condF (by simp only [ev_t, ev_c, g16, c5]) ?_;refine AM.wp_skip ?_;refine then_n ?_;refine AM.wp_seq hp0 (AM.wp_reg hp0 ?_);refine wpo_seg hp0 1 (fun s H' => s.length = 73 ∧ gt s 0 = v_0 ∧ gt s 5 = .nils ∧ H = H') (by simp only [↓runs, isCall, ↓reduceIte, ↓gd_true, ↓gd_false, evs, AV.cells, Nat.reduceEqDiff, Nat.reduceLT, reduceCtorEq, Nat.reduceAdd, sy, g0, g4, g16, hl]) ?_;rintro s _ ⟨hl, g0, g5, rfl⟩;refine wpo_nil (then_n ?_);refine AM.wp_seq hp0 ?_;replace hst := hst.nil;have o8 := ow_nil (α := List Int) W;obtain ⟨z14, e15, hp⟩ := bn hp;refine loop_ref hp0 (fun x => P_subdirect_Decompose_l7 t x) (fun x s H' => ∃ (W' : AH) (w5 : AV) (q5 : Frag), s.length = 73 ∧ gt s 5 = w5 ∧ gt s 0 = v_0 ∧  Wle W W' ∧ St (q5 :: G) W' H' ∧ OwS W' w5 q5 (x : List (List Int))) (fun x s H' => ∃ (W' : AH) (w5 : AV) (q5 : Frag), s.length = 73 ∧ gt s 5 = w5 ∧ gt s 0 = v_0 ∧  Wle W W' ∧ St (q5 :: G) W' H' ∧ OwS W' w5 q5 (x : List (List Int))) e15 ?_ ?_ ?_
  ·exact ⟨W, _, _, hl, g5, g0, .refl _, hst, o8⟩
  ·intro x9 y11 s H hI hy12 hx13;change P_subdirect_Decompose_l7 t x9 = some y11 at hy12;unfold P_subdirect_Decompose_l7 at hy12;obtain ⟨W, v18, fg19, hl, g5, g0, w17, hst, o20⟩ := hI;replace h_0 := Rp.mono w17 h_0;refine AM.wp_block ?_;refine AM.wp_seq hp0 (AM.wp_reg hp0 ?_);have f21 := fz_ln h_0;refine wpo_seg hp0 3 (fun s H' => s.length = 73 ∧ gt s 0 = v_0 ∧ gt s 5 = v18 ∧ gt s 19 = .int .i64 (t.length : Int) ∧ gt s 20 = v18 ∧ H = H') (by simp only [↓runs, isCall, ↓reduceIte, ↓gd_true, ↓gd_false, evs, AV.cells, Nat.reduceEqDiff, Nat.reduceLT, reduceCtorEq, Nat.reduceAdd, sy, f21, g0, g5, hl]) ?_;rintro s _ ⟨hl, g0, g5, g19, g20, rfl⟩;obtain ⟨r22, e23, hy12⟩ := bn hy12;obtain ⟨W, w24, hst, h25, k26⟩ := ow_lend hst o20;refine wpo_callK hp0 rfl (ys := [.int .i64 (t.length : Int), v18, .int .i64 (-1)]) (by simp only [evs, List.map_cons, List.map_nil, ev_t, ev_c, g19, g20]) (R_subdirect_meet hst h25 e23) ?_;rintro rv27 H ⟨W, w28, fg29, hst, o30⟩;obtain ⟨W, w31, hst, o20⟩ := k26 _ _ _ w28 hst;replace o30 : OwS W _ _ _ := o30.flat;replace h_0 := Rp.mono w31 h_0;refine wpo_seg hp0 1 (fun s H' => s.length = 73 ∧ gt s 0 = v_0 ∧ gt s 5 = v18 ∧ gt s 6 = rv27 ∧ H = H') (by simp only [↓runs, isCall, ↓reduceIte, ↓gd_true, ↓gd_false, evs, AV.cells, Nat.reduceEqDiff, Nat.reduceLT, reduceCtorEq, Nat.reduceAdd, sy, gt_other, g0, g5, g19, g20, hl]) ?_;rintro s _ ⟨hl, g0, g5, g6, rfl⟩;refine wpo_nil (then_n ?_);refine AM.wp_seq hp0 (AM.wp_seq hp0 (AM.wp_reg hp0 ?_));refine wpo_seg hp0 1 (fun s H' => s.length = 73 ∧ gt s 0 = v_0 ∧ gt s 5 = v18 ∧ gt s 6 = rv27 ∧ gt s 22 = rv27 ∧ H = H') (by simp only [↓runs, isCall, ↓reduceIte, ↓gd_true, ↓gd_false, evs, AV.cells, Nat.reduceEqDiff, Nat.reduceLT, reduceCtorEq, Nat.reduceAdd, sy, g0, g5, g6, hl]) ?_;rintro s _ ⟨hl, g0, g5, g6, g22, rfl⟩;obtain ⟨r32, e33, hy12⟩ := bn hy12;replace hst := hst.p1;obtain ⟨W, w34, hst, h35, k36⟩ := ow_lend hst o30;refine wpo_callK hp0 rfl (ys := [rv27]) (by simp only [evs, List.map_cons, List.map_nil, ev_t, ev_c, g22]) (R_subdirect_discrete hst h35 e33) ?_;rintro rv37 H ⟨W, w38, hst, rfl⟩;obtain ⟨W, w39, hst, o30⟩ := k36 _ _ _ w38 hst;replace h_0 := Rp.mono w39 h_0;replace o20 := o20.mono w39;refine wpo_seg hp0 0 (fun s H' => s.length = 73 ∧ gt s 0 = v_0 ∧ gt s 5 = v18 ∧ gt s 6 = rv27 ∧ gt s 23 = .bool r32 ∧ H = H') (by simp only [↓runs, isCall, ↓reduceIte, ↓gd_true, ↓gd_false, evs, AV.cells, Nat.reduceEqDiff, Nat.reduceLT, reduceCtorEq, Nat.reduceAdd, sy, gt_other, g0, g5, g6, g22, hl]) ?_;rintro s _ ⟨hl, g0, g5, g6, g23, rfl⟩;refine wpo_nil (then_n ?_);rcases Bool.eq_false_or_eq_true (r32) with c40 | c40
   ·replace hy12 := ifT c40 hy12;refine AM.wp_condT (by simp only [ev_t, ev_c, g23, c40]) ?_;refine AM.wp_exit ?_;refine then_x ?_;refine blk_o (by decide) ?_;refine then_x (rnd_c rfl ?_);obtain rfl := Option.some.inj hy12;replace hst := hst.drop;exact ⟨_, rfl, ⟨W, _, _, hl, g5, g0, ((w17.trans w31).trans w39), hst, o20⟩⟩
   ·replace hy12 := ifF c40 hy12;refine AM.wp_condF (by simp only [ev_t, ev_c, g23, c40]) ?_;refine AM.wp_skip ?_;refine then_n ?_;refine AM.wp_seq hp0 (AM.wp_reg hp0 ?_);obtain ⟨v41, H42, fg43, W, f45, f46, w44, hst, o47⟩ := om_new' Int Int hst;replace h_0 := Rp.mono w44 h_0;replace o20 := o20.mono w44;replace o30 := o30.mono w44;refine wpo_seg hp0 2 (fun s H' => s.length = 73 ∧ gt s 0 = v_0 ∧ gt s 5 = v18 ∧ gt s 6 = rv27 ∧ gt s 7 = v41 ∧ H42 = H') (by simp only [↓runs, isCall, ↓reduceIte, ↓gd_true, ↓gd_false, evs, AV.cells, Nat.reduceEqDiff, Nat.reduceLT, reduceCtorEq, Nat.reduceAdd, sy, f45, f46, g0, g5, g6, g23, hl]) ?_;rintro s _ ⟨hl, g0, g5, g6, g7, rfl⟩;refine wpo_nil (then_n ?_);refine AM.wp_seq hp0 (AM.wp_reg hp0 ?_);have f48 := ow_ln o30;have b49 := ow_big o30;refine wpo_seg hp0 3 (fun s H' => s.length = 73 ∧ gt s 0 = v_0 ∧ gt s 5 = v18 ∧ gt s 7 = v41 ∧ gt s 25 = rv27 ∧ gt s 26 = .int .i64 (r22.length : Int) ∧ gt s 27 = .int .i64 0 ∧ H42 = H') (by simp only [↓runs, isCall, ↓reduceIte, ↓gd_true, ↓gd_false, evs, AV.cells, Nat.reduceEqDiff, Nat.reduceLT, reduceCtorEq, Nat.reduceAdd, sy, f48, g0, g5, g6, g7, hl]) ?_;rintro s _ ⟨hl, g0, g5, g7, g25, g26, g27, rfl⟩;refine wpo_nil (then_n ?_);obtain ⟨z56, e57, hy12⟩ := bn hy12;refine range_ref hp0 73 r22.length (fun k x => P_subdirect_Decompose_l50 r22 t k x.1 x.2) (fun _ x s H' => ∃ (W' : AH) (w5 : AV) (q5 : Frag) (qo5 : Frag), s.length = 73 ∧ gt s 5 = w5 ∧ gt s 0 = v_0 ∧ gt s 7 = v41 ∧ gt s 25 = rv27 ∧  Wle W W' ∧ St (q5 :: qo5 :: fg29 :: G) W' H' ∧ OwS W' w5 q5 (x.1 : List (List Int)) ∧ OwM W' v41 qo5 (x.2 : List (Int × Int))) (fun _ x s H' => ∃ (W' : AH) (w5 : AV) (q5 : Frag) (qo5 : Frag), s.length = 73 ∧ gt s 5 = w5 ∧ gt s 0 = v_0 ∧  Wle W W' ∧ St (q5 :: qo5 :: fg29 :: G) W' H' ∧ OwS W' w5 q5 (x.1 : List (List Int)) ∧ OwM W' v41 qo5 (x.2 : List (Int × Int))) e57 (b49) rfl ?_ ?_ hl g27 g26 ?_ ?_
    ·intro k x s H d v hd h; rcases hd with rfl | rfl | rfl <;> simpa only [gt_other, pt_length, Nat.reduceEqDiff, not_false_eq_true] using h
    ·replace hst := hst.p1;replace hst := hst.p1;replace hst := hst.p2;exact ⟨W, _, _, _, hl, g5, g0, g7, g25, .refl _, hst, o20, o47⟩
    ·intro k52 x51 y53 s H hk hI hl g27 g26 hy54 hx55;obtain ⟨list58, x59⟩ := x51;dsimp only at hI;change P_subdirect_Decompose_l50 r22 t k52 list58 x59 = some y53 at hy54;unfold P_subdirect_Decompose_l50 at hy54;obtain ⟨W, v61, fg62, fg64, hl, g5, g0, g7, g25, w60, hst, o63, o65⟩ := hI;replace h_0 := Rp.mono w60 h_0;replace o30 := o30.mono w60;refine AM.wp_seq hp0 (AM.wp_reg hp0 ?_);obtain ⟨x66, e67, hy54⟩ := bn hy54;obtain ⟨p68, _, f70, f71, rfl⟩ := ow_at (k := .i64) hst (.tail _ (.tail _ (.head _))) o30 e67 rfl;refine wpo_seg hp0 5 (fun s H' => s.length = 73 ∧ gt s 0 = v_0 ∧ gt s 5 = v61 ∧ gt s 7 = v41 ∧ gt s 8 = .int .i64 (k52 : Int) ∧ gt s 9 = .int .i64 x66 ∧ gt s 25 = rv27 ∧ gt s 26 = .int .i64 (r22.length : Int) ∧ gt s 27 = .int .i64 (k52 : Int) ∧ H = H') (by simp only [↓runs, isCall, ↓reduceIte, ↓gd_true, ↓gd_false, evs, AV.cells, Nat.reduceEqDiff, Nat.reduceLT, reduceCtorEq, Nat.reduceAdd, sy, f70, f71, g0, g5, g7, g25, g26, g27, hl]) ?_;rintro s _ ⟨hl, g0, g5, g7, g8, g9, g25, g26, g27, rfl⟩;refine wpo_nil (then_n ?_);refine AM.wp_seq hp0 (AM.wp_seq hp0 (AM.wp_reg hp0 ?_));obtain ⟨y73, f74, f75, h76⟩ := om_look (kk := .int) hst (.tail _ (.head _)) o65 (show (.int .i64 x66 : AV) = Ky.enc (x66 : Int) from rfl) rfl (show Rp.rv _ (.int .i64 0) (0 : Int) from rfl);obtain rfl : y73 = .int .i64 ((mget x59 x66).getD 0) := h76;refine wpo_seg hp0 8 (fun s H' => s.length = 73 ∧ gt s 0 = v_0 ∧ gt s 5 = v61 ∧ gt s 7 = v41 ∧ gt s 8 = .int .i64 (k52 : Int) ∧ gt s 9 = .int .i64 x66 ∧ gt s 10 = .int .i64 ((mget x59 x66).getD 0) ∧ gt s 11 = .bool ((mget x59 x66).isSome) ∧ gt s 25 = rv27 ∧ gt s 26 = .int .i64 (r22.length : Int) ∧ gt s 27 = .int .i64 (k52 : Int) ∧ H = H') (by simp only [↓runs, isCall, ↓reduceIte, ↓gd_true, ↓gd_false, evs, AV.cells, Nat.reduceEqDiff, Nat.reduceLT, reduceCtorEq, Nat.reduceAdd, sy, f74, f75, g0, g5, g7, g8, g9, g25, g26, g27, hl]) ?_;rintro s _ ⟨hl, g0, g5, g7, g8, g9, g10, g11, g25, g26, g27, rfl⟩;refine wpo_nil (then_n ?_);refine AM.wp_seq hp0 (AM.wp_reg hp0 ?_);refine wpo_seg hp0 1 (fun s H' => s.length = 73 ∧ gt s 0 = v_0 ∧ gt s 5 = v61 ∧ gt s 7 = v41 ∧ gt s 8 = .int .i64 (k52 : Int) ∧ gt s 9 = .int .i64 x66 ∧ gt s 10 = .int .i64 ((mget x59 x66).getD 0) ∧ gt s 25 = rv27 ∧ gt s 26 = .int .i64 (r22.length : Int) ∧ gt s 27 = .int .i64 (k52 : Int) ∧ gt s 38 = .bool ((mget x59 x66).isSome) ∧ H = H') (by simp only [↓runs, isCall, ↓reduceIte, ↓gd_true, ↓gd_false, evs, AV.cells, Nat.reduceEqDiff, Nat.reduceLT, reduceCtorEq, Nat.reduceAdd, sy, g0, g5, g7, g8, g9, g10, g11, g25, g26, g27, hl]) ?_;rintro s _ ⟨hl, g0, g5, g7, g8, g9, g10, g25, g26, g27, g38, rfl⟩;refine wpo_nil (then_n ?_);rcases Bool.eq_false_or_eq_true ((mget x59 x66).isSome) with c77 | c77
     ·replace hy54 := ifT c77 hy54;refine AM.wp_condT (by simp only [ev_t, ev_c, g38, c77]) ?_;refine AM.wp_seq hp0 (AM.wp_reg hp0 ?_);refine wpo_seg hp0 4 (fun s H' => s.length = 73 ∧ gt s 0 = v_0 ∧ gt s 5 = v61 ∧ gt s 39 = v61 ∧ gt s 40 = v_0 ∧ gt s 41 = .int .i64 ((mget x59 x66).getD 0) ∧ gt s 42 = .int .i64 (k52 : Int) ∧ H = H') (by simp only [↓runs, isCall, ↓reduceIte, ↓gd_true, ↓gd_false, evs, AV.cells, Nat.reduceEqDiff, Nat.reduceLT, reduceCtorEq, Nat.reduceAdd, sy, g0, g5, g7, g8, g9, g10, g25, g26, g27, g38, hl]) ?_;rintro s _ ⟨hl, g0, g5, g39, g40, g41, g42, rfl⟩;obtain ⟨r78, e79, hy54⟩ := bn hy54;refine wpo_callK hp0 rfl (ys := [v_0, .int .i64 ((mget x59 x66).getD 0), .int .i64 (k52 : Int)]) (by simp only [evs, List.map_cons, List.map_nil, ev_t, ev_c, g40, g41, g42]) (R_subdirect_apart hst h_0 e79) ?_;rintro rv80 H ⟨W, w81, fg82, hst, o83⟩;replace h_0 := Rp.mono w81 h_0;replace o30 := o30.mono w81;replace o65 := o65.mono w81;replace o63 := o63.mono w81;obtain ⟨W, w85, hst, h84⟩ := ow_frz hst o83;replace h_0 := Rp.mono w85 h_0;replace o30 := o30.mono w85;replace o65 := o65.mono w85;replace o63 := o63.mono w85;obtain ⟨v86, l87, H88, fg89, W, f91, f92, f93, w90, hst, o94⟩ := ow_lit' (n := 1) (k := 1) (z := [.nils]) (ys := [rv80]) (M := ([r78] : List (List Int))) [(0, 1, rv80)] rfl rfl hst (sc_cons (show Rp.rv _ (rv80) (r78 : List Int) from h84) (sc_nil)) ((List.forall_mem_cons.2 ⟨(Rp.cells (show Rp.rv W (rv80) (r78 : List Int) from h84)), fun _ h => (List.not_mem_nil h).elim⟩)) rfl rfl rfl (by decide);replace h_0 := Rp.mono w90 h_0;replace h84 := Rp.mono w90 h84;replace o30 := o30.mono w90;replace o65 := o65.mono w90;replace o63 := o63.mono w90;obtain ⟨c95, sn96⟩ := ow_sn hst (.head _) o94;obtain ⟨x97, e98, hy54⟩ := bn hy54;replace hst := hst.p1;obtain ⟨v99, H100, fg101, W, f103, w102, hst, o104⟩ := ow_apps [.nils] rfl hst o63 sn96 e98;replace h_0 := Rp.mono w102 h_0;replace h84 := Rp.mono w102 h84;replace o30 := o30.mono w102;replace o65 := o65.mono w102;replace o94 := o94.mono w102;refine wpo_seg hp0 3 (fun s H' => s.length = 73 ∧ gt s 0 = v_0 ∧ gt s 5 = v99 ∧ H100 = H') (by simp only [↓runs, isCall, ↓reduceIte, ↓gd_true, ↓gd_false, evs, AV.cells, Nat.reduceEqDiff, Nat.reduceLT, reduceCtorEq, Nat.reduceAdd, sy, gt_other, f91, f92, f93, f103, g0, g5, g39, g40, g41, g42, hl]) ?_;rintro s _ ⟨hl, g0, g5, rfl⟩;refine wpo_nil (then_n ?_);refine AM.wp_exit ?_;refine then_x ?_;refine rnd_b (by decide) rfl ?_;obtain rfl := Option.some.inj hy54;replace hst := hst.p1;replace hst := hst.drop;replace hst := hst.p2;replace hst := hst.p2;replace hst := hst.p2;exact ⟨_, rfl, ⟨W, _, _, _, hl, g5, g0, ((((w60.trans w81).trans w85).trans w90).trans w102), hst, o104, o65⟩⟩
     ·replace hy54 := ifF c77 hy54;refine AM.wp_condF (by simp only [ev_t, ev_c, g38, c77]) ?_;refine AM.wp_skip ?_;refine then_n ?_;refine AM.wp_reg hp0 ?_;replace hst := hst.p1;obtain ⟨H105, fg106, f107, hst, o108⟩ := om_put (kk := .int) hst o65 (show (.int .i64 x66 : AV) = Ky.enc (x66 : Int) from rfl) rfl (show Rp.rv _ (.int .i64 (k52 : Int)) ((k52 : Int) : Int) from rfl);refine wpo_seg hp0 4 (fun s H' => s.length = 73 ∧ gt s 0 = v_0 ∧ gt s 5 = v61 ∧ gt s 7 = v41 ∧ gt s 25 = rv27 ∧ gt s 26 = .int .i64 (r22.length : Int) ∧ gt s 27 = .int .i64 (k52 : Int) ∧ H105 = H') (by simp only [↓runs, isCall, ↓reduceIte, ↓gd_true, ↓gd_false, evs, AV.cells, Nat.reduceEqDiff, Nat.reduceLT, reduceCtorEq, Nat.reduceAdd, sy, f107, g0, g5, g7, g8, g9, g10, g25, g26, g27, g38, hl]) ?_;rintro s _ ⟨hl, g0, g5, g7, g25, g26, g27, rfl⟩;refine wpo_nil ?_;refine rnd_n ?_;obtain rfl := Option.some.inj hy54;replace hst := hst.p2;replace hst := hst.p1;replace hst := hst.p2;exact ⟨_, rfl, hl, g27, g26, ⟨W, _, _, _, hl, g5, g0, g7, g25, w60, hst, o63, o108⟩⟩
    ·rintro x109 s Hn hz hI;replace hI : (fun s H' => ∃ (W' : AH) (w5 : AV) (q5 : Frag) (qo5 : Frag), s.length = 73 ∧ gt s 5 = w5 ∧ gt s 0 = v_0 ∧  Wle W W' ∧ St (q5 :: qo5 :: fg29 :: G) W' H' ∧ OwS W' w5 q5 (x109.1 : List (List Int)) ∧ OwM W' v41 qo5 (x109.2 : List (Int × Int))) s Hn := by
      rcases hI with ⟨hI, -⟩ | ⟨_, hI⟩
      ·obtain ⟨W2, v5, q5, qq5, hl, g5, g0, g7, g25, w2, hst2, o5, oo5⟩ := hI;exact ⟨W2, _, _, _, hl, g5, g0, w2, hst2, o5, oo5⟩
      ·exact hI
     obtain ⟨H, rfl⟩ : ∃ K, K = Hn := ⟨_, rfl⟩;subst hz;dsimp only at hy12 hI;obtain ⟨W, v111, fg112, fg114, hl, g5, g0, w110, hst, o113, o115⟩ := hI;replace h_0 := Rp.mono w110 h_0;replace o30 := o30.mono w110;refine blk_n ?_;refine then_n ?_;obtain rfl := Option.some.inj hy12;replace hst := hst.p1;replace hst := hst.drop;replace hst := hst.p1;replace hst := hst.drop;exact ⟨_, rfl, ⟨W, _, _, hl, g5, g0, ((((w17.trans w31).trans w39).trans w44).trans w110), hst, o113⟩⟩
  ·rintro x116 s H hz hI;subst hz;dsimp only at hp hI;obtain ⟨W, v118, fg119, hl, g5, g0, w117, hst, o120⟩ := hI;replace h_0 := Rp.mono w117 h_0;refine then_n ?_;refine AM.wp_seq hp0 (AM.wp_seq hp0 (AM.wp_reg hp0 ?_));refine wpo_seg hp0 1 (fun s H' => s.length = 73 ∧ gt s 0 = v_0 ∧ gt s 5 = v118 ∧ gt s 12 = .int .i64 0 ∧ H = H') (by simp only [↓runs, isCall, ↓reduceIte, ↓gd_true, ↓gd_false, evs, AV.cells, Nat.reduceEqDiff, Nat.reduceLT, reduceCtorEq, Nat.reduceAdd, sy, g0, g5, hl]) ?_;rintro s _ ⟨hl, g0, g5, g12, rfl⟩;refine wpo_nil (then_n ?_);obtain ⟨z127, e128, hp⟩ := bn hp;refine loop_ref hp0 (fun x => P_subdirect_Decompose_l121 t x.1 x.2) (fun x s H' => ∃ (W' : AH) (w5 : AV) (q5 : Frag), s.length = 73 ∧ gt s 5 = w5 ∧ gt s 12 = .int .i64 x.2 ∧ gt s 0 = v_0 ∧  Wle W W' ∧ St (q5 :: G) W' H' ∧ OwS W' w5 q5 (x.1 : List (List Int))) (fun x s H' => ∃ (W' : AH) (w5 : AV) (q5 : Frag), s.length = 73 ∧ gt s 5 = w5 ∧  Wle W W' ∧ St (q5 :: G) W' H' ∧ OwS W' w5 q5 (x.1 : List (List Int))) e128 ?_ ?_ ?_
   ·exact ⟨W, _, _, hl, g5, g12, g0, .refl _, hst, o120⟩
   ·intro x122 y124 s H hI hy125 hx126;obtain ⟨list129, i130⟩ := x122;dsimp only at hI;change P_subdirect_Decompose_l121 t list129 i130 = some y124 at hy125;unfold P_subdirect_Decompose_l121 at hy125;obtain ⟨W, v132, fg133, hl, g5, g12, g0, w131, hst, o134⟩ := hI;replace h_0 := Rp.mono w131 h_0;refine AM.wp_seq hp0 (AM.wp_seq hp0 (AM.wp_reg hp0 ?_));have f135 := ow_ln o134;have b136 := ow_big o134;refine wpo_seg hp0 4 (fun s H' => s.length = 73 ∧ gt s 0 = v_0 ∧ gt s 5 = v132 ∧ gt s 12 = .int .i64 i130 ∧ gt s 53 = .bool (decide (i130 < (list129.length : Int))) ∧ H = H') (by simp only [↓runs, isCall, ↓reduceIte, ↓gd_true, ↓gd_false, evs, AV.cells, Nat.reduceEqDiff, Nat.reduceLT, reduceCtorEq, Nat.reduceAdd, sy, f135, g0, g5, g12, hl]) ?_;rintro s _ ⟨hl, g0, g5, g12, g53, rfl⟩;refine wpo_nil (then_n ?_);rcases Bool.eq_false_or_eq_true (decide (i130 < (list129.length : Int))) with c137 | c137
    ·replace hy125 := ifT c137 hy125;refine AM.wp_condT (by simp only [ev_t, ev_c, g53, c137]) ?_;refine AM.wp_skip ?_;refine then_n ?_;refine AM.wp_block ?_;refine AM.wp_seq hp0 (AM.wp_reg hp0 ?_);have f138 := fz_ln h_0;refine wpo_seg hp0 4 (fun s H' => s.length = 73 ∧ gt s 0 = v_0 ∧ gt s 5 = v132 ∧ gt s 12 = .int .i64 i130 ∧ gt s 55 = .int .i64 (t.length : Int) ∧ gt s 56 = v132 ∧ gt s 57 = .int .i64 i130 ∧ H = H') (by simp only [↓runs, isCall, ↓reduceIte, ↓gd_true, ↓gd_false, evs, AV.cells, Nat.reduceEqDiff, Nat.reduceLT, reduceCtorEq, Nat.reduceAdd, sy, f138, g0, g5, g12, g53, hl]) ?_;rintro s _ ⟨hl, g0, g5, g12, g55, g56, g57, rfl⟩;obtain ⟨r139, e140, hy125⟩ := bn hy125;obtain ⟨W, w141, hst, h142, k143⟩ := ow_lend hst o134;refine wpo_callK hp0 rfl (ys := [.int .i64 (t.length : Int), v132, .int .i64 i130]) (by simp only [evs, List.map_cons, List.map_nil, ev_t, ev_c, g55, g56, g57]) (R_subdirect_meet hst h142 e140) ?_;rintro rv144 H ⟨W, w145, fg146, hst, o147⟩;obtain ⟨W, w148, hst, o134⟩ := k143 _ _ _ w145 hst;replace o147 : OwS W _ _ _ := o147.flat;replace h_0 := Rp.mono w148 h_0;refine wpo_seg hp0 0 (fun s H' => s.length = 73 ∧ gt s 0 = v_0 ∧ gt s 5 = v132 ∧ gt s 12 = .int .i64 i130 ∧ gt s 58 = rv144 ∧ H = H') (by simp only [↓runs, isCall, ↓reduceIte, ↓gd_true, ↓gd_false, evs, AV.cells, Nat.reduceEqDiff, Nat.reduceLT, reduceCtorEq, Nat.reduceAdd, sy, gt_other, g0, g5, g12, g55, g56, g57, hl]) ?_;rintro s _ ⟨hl, g0, g5, g12, g58, rfl⟩;replace hst := hst.p1;obtain ⟨W, w150, hst, h149⟩ := ow_frz hst o147;replace h_0 := Rp.mono w150 h_0;replace o134 := o134.mono w150;obtain ⟨r151, e152, hy125⟩ := bn hy125;refine wpo_callK hp0 rfl (ys := [rv144]) (by simp only [evs, List.map_cons, List.map_nil, ev_t, ev_c, g58]) (R_subdirect_discrete hst h149 e152) ?_;rintro rv153 H ⟨W, w154, hst, rfl⟩;replace h_0 := Rp.mono w154 h_0;replace h149 := Rp.mono w154 h149;replace o134 := o134.mono w154;refine wpo_seg hp0 0 (fun s H' => s.length = 73 ∧ gt s 0 = v_0 ∧ gt s 5 = v132 ∧ gt s 12 = .int .i64 i130 ∧ gt s 59 = .bool r151 ∧ H = H') (by simp only [↓runs, isCall, ↓reduceIte, ↓gd_true, ↓gd_false, evs, AV.cells, Nat.reduceEqDiff, Nat.reduceLT, reduceCtorEq, Nat.reduceAdd, sy, gt_other, g0, g5, g12, g58, hl]) ?_;rintro s _ ⟨hl, g0, g5, g12, g59, rfl⟩;refine wpo_nil (then_n ?_);rcases Bool.eq_false_or_eq_true (r151) with c155 | c155
     ·replace hy125 := ifT c155 hy125;refine AM.wp_condT (by simp only [ev_t, ev_c, g59, c155]) ?_;refine AM.wp_reg hp0 ?_;obtain ⟨v156, l157, H158, fg159, W, f161, f162, f163, w160, hst, o164⟩ := ow_lit' (n := 1) (k := 0) (z := []) (ys := []) (M := ([] : List (List Int))) [] rfl rfl hst (sc_nil) ( fun _ h => (List.not_mem_nil h).elim) rfl rfl rfl (by decide);replace h_0 := Rp.mono w160 h_0;replace h149 := Rp.mono w160 h149;replace o134 := o134.mono w160;replace hst := hst.p1;obtain ⟨W, w166, hst, h165⟩ := ow_frz hst o134;replace h_0 := Rp.mono w166 h_0;replace h149 := Rp.mono w166 h149;replace o164 := o164.mono w166;obtain ⟨x167, e168, hy125⟩ := bn hy125;obtain ⟨v169, f170, h171⟩ := fz_sub (n := 1) (kl := .i64) (kh := .i64) (lo := none) (hi := (some i130)) rfl h165 e168 (by simp);simp only [Option.map_some, Option.map_none] at f170;obtain ⟨c172, sn173⟩ := fz_sn hst h171;obtain ⟨x174, e175, hy125⟩ := bn hy125;obtain ⟨v176, H177, fg178, W, f180, w179, hst, o181⟩ := ow_apps [.nils] rfl hst o164 sn173 e175;replace h_0 := Rp.mono w179 h_0;replace h149 := Rp.mono w179 h149;replace h165 := Rp.mono w179 h165;replace h171 := Rp.mono w179 h171;obtain ⟨x182, e183, hy125⟩ := bn hy125;obtain ⟨v184, f185, h186⟩ := fz_sub (n := 1) (kl := .i64) (kh := .i64) (lo := (some (w64 (i130 + 1)))) (hi := none) rfl h165 e183 (by simp);simp only [Option.map_some, Option.map_none] at f185;obtain ⟨c187, sn188⟩ := fz_sn hst h186;obtain ⟨x189, e190, hy125⟩ := bn hy125;obtain ⟨v191, H192, fg193, W, f195, w194, hst, o196⟩ := ow_apps [.nils] rfl hst o181 sn188 e190;replace h_0 := Rp.mono w194 h_0;replace h149 := Rp.mono w194 h149;replace h165 := Rp.mono w194 h165;replace h171 := Rp.mono w194 h171;replace h186 := Rp.mono w194 h186;refine wpo_seg hp0 11 (fun s H' => s.length = 73 ∧ gt s 0 = v_0 ∧ gt s 5 = v191 ∧ gt s 12 = .int .i64 i130 ∧ H192 = H') (by simp only [↓runs, isCall, ↓reduceIte, ↓gd_true, ↓gd_false, evs, AV.cells, Nat.reduceEqDiff, Nat.reduceLT, reduceCtorEq, Nat.reduceAdd, sy, f161, f162, f163, f170, f180, f185, f195, g0, g5, g12, g59, hl]) ?_;rintro s _ ⟨hl, g0, g5, g12, rfl⟩;refine wpo_nil ?_;refine blk_n ?_;refine then_n ?_;obtain rfl := Option.some.inj hy125;exact ⟨_, rfl, ⟨W, _, _, hl, g5, g12, g0, (((((((w131.trans w148).trans w150).trans w154).trans w160).trans w166).trans w179).trans w194), hst, o196⟩⟩
     ·replace hy125 := ifF c155 hy125;refine AM.wp_condF (by simp only [ev_t, ev_c, g59, c155]) ?_;refine AM.wp_reg hp0 ?_;refine wpo_seg hp0 3 (fun s H' => s.length = 73 ∧ gt s 0 = v_0 ∧ gt s 5 = v132 ∧ gt s 12 = .int .i64 (w64 (i130 + 1)) ∧ H = H') (by simp only [↓runs, isCall, ↓reduceIte, ↓gd_true, ↓gd_false, evs, AV.cells, Nat.reduceEqDiff, Nat.reduceLT, reduceCtorEq, Nat.reduceAdd, sy, g0, g5, g12, g59, hl]) ?_;rintro s _ ⟨hl, g0, g5, g12, rfl⟩;refine wpo_nil ?_;refine blk_n ?_;refine then_n ?_;obtain rfl := Option.some.inj hy125;exact ⟨_, rfl, ⟨W, _, _, hl, g5, g12, g0, (((w131.trans w148).trans w150).trans w154), hst, o134⟩⟩
    ·replace hy125 := ifF c137 hy125;refine AM.wp_condF (by simp only [ev_t, ev_c, g53, c137]) ?_;refine AM.wp_exit ?_;refine then_x ?_;refine then_x (rnd_c rfl ?_);obtain rfl := Option.some.inj hy125;exact ⟨_, rfl, ⟨W, _, _, hl, g5, w131, hst, o134⟩⟩
   ·rintro x197 s H hz hI;subst hz;dsimp only at hp hI;obtain ⟨W, v199, fg200, hl, g5, w198, hst, o201⟩ := hI;replace h_0 := Rp.mono w198 h_0;refine then_n ?_;refine AM.wp_seq hp0 (AM.wp_reg hp0 ?_);refine wpo_seg hp0 3 (fun s H' => s.length = 73 ∧ gt s 2 = v199 ∧ gt s 3 = .int .i64 0 ∧ H = H') (by simp only [↓runs, isCall, ↓reduceIte, ↓gd_true, ↓gd_false, evs, AV.cells, Nat.reduceEqDiff, Nat.reduceLT, reduceCtorEq, Nat.reduceAdd, sy, g5, hl]) ?_;rintro s _ ⟨hl, g2, g3, rfl⟩;refine wpo_nil (then_n ?_);refine AM.wp_ret ?_;obtain rfl := Option.some.inj hp;refine body_ret (vs := [v199, .int .i64 0]) (by simp only [rvs, f_subdirect_Decompose, Option.map_some, g2, g3]) ?_;exact ⟨W, ((w4.trans w117).trans w198), _, _, hst, rfl, o201⟩

end Go.Proofs.Ytmdpejgnkoneoaa.Pu
set_option maxRecDepth 10000
namespace Go.Proofs.Ytmdpejgnkoneoaa.Mt
open Go Go.AM Go.AM.Par Go.AM.Cg Go.AM.Lx Go.Proofs.Ytmdpejgnkoneoaa.Pu

theorem app_l {l : List (List Int)} {p : List Int} {j : Nat} (h : j < l.length) : (l ++ [p]).getD j [] = l.getD j [] := by
  rw [List.getD_eq_getElem?_getD, List.getElem?_append_left h, ← List.getD_eq_getElem?_getD]
theorem app_r (l : List (List Int)) (p : List Int) : (l ++ [p]).getD l.length [] = p := by simp [List.getD_eq_getElem?_getD]
theorem app_len (l : List (List Int)) (p : List Int) : (l ++ [p]).length = l.length + 1 := by simp
theorem inf_app {l : List (List Int)} {p : List Int} {x y : Nat} (h : InfTo (l ++ [p]) (-1) (l ++ [p]).length x y) : InfTo l (-1) l.length x y ∧ p.getD x 0 = p.getD y 0 := by
  rw [app_len] at h
  constructor
  · intro j hj hb
    have := h j (by omega) hb
    rwa [app_l hj] at this
  · have := h l.length (by omega) (by omega)
    rwa [app_r] at this

open Classical in
noncomputable def gap (n : Nat) (l : List (List Int)) : Nat := ((List.range (n * n)).filter fun w => decide (InfTo l (-1) l.length (w / n) (w % n))).length
theorem gap_le (n : Nat) (l : List (List Int)) : gap n l ≤ n * n := Nat.le_trans (List.length_filter_le _ _) (by simp)
open Classical in
theorem gap_app {n : Nat} {l : List (List Int)} {p : List Int} {i k : Nat} (hi : i < n) (hk : k < n) (h : InfTo l (-1) l.length i k) (hp : p.getD i 0 ≠ p.getD k 0) : gap n (l ++ [p]) < gap n l := by
  unfold gap
  have hw1 : (n * i + k) / n = i := by rw [Nat.mul_add_div (by omega), Nat.div_eq_of_lt hk]; omega
  have hw2 : (n * i + k) % n = k := by rw [Nat.mul_add_mod, Nat.mod_eq_of_lt hk]
  refine filter_lt (fun w _ hw => ?_) ⟨n * i + k, ?_, ?_, ?_⟩
  · simp only [decide_eq_true_eq] at hw ⊢
    exact (inf_app hw).1
  · rw [List.mem_range]
    have h1 : n * (i + 1) ≤ n * n := Nat.mul_le_mul_left n (by omega)
    rw [Nat.mul_add] at h1
    omega
  · simp only [decide_eq_true_eq]; rw [hw1, hw2]; exact h
  · simp only [decide_eq_false_iff_not]; rw [hw1, hw2]; exact fun hh => hp (inf_app hh).2

theorem mget_nil {κ ν : Type} [BEq κ] (k : κ) : mget ([] : List (κ × ν)) k = none := rfl

theorem dec_find {t : List (List Int)} {n : Nat} {T : Nat → Nat → Nat} (h : Sg t n T) {l : List (List Int)} (hl : l.length ≤ 160000) {r : List Int} (hr : IsP n (InfTo l (-1) l.length) r) (hd : ¬ Disc n (InfTo l (-1) l.length)) :
    ∃ p i k M, forR r.length (fun k x => P_subdirect_Decompose_l50 r t k x.1 x.2) (l, []) = some (.inl (l ++ [p], M)) ∧ i < n ∧ k < n ∧ InfTo l (-1) l.length i k ∧ p.getD i 0 ≠ p.getD k 0 ∧ Fac n T p := by
  rw [hr.len]
  obtain ⟨o, ho, p, i, k, M, rfl, hQ⟩ := forR_inv (n := n) (f := fun k x => P_subdirect_Decompose_l50 r t k x.1 x.2) (x := (l, []))
    (fun k s => s.1 = l ∧ (∀ v i, mget s.2 v = some i → ∃ j : Nat, i = (j : Int) ∧ j < k ∧ r.getD j 0 = v) ∧ (∀ v, mget s.2 v = none → ∀ j, j < k → r.getD j 0 ≠ v) ∧ ∀ i j, i < j → j < k → r.getD i 0 ≠ r.getD j 0)
    (fun o => ∃ p i k M, o = .inl (l ++ [p], M) ∧ i < n ∧ k < n ∧ InfTo l (-1) l.length i k ∧ p.getD i 0 ≠ p.getD k 0 ∧ Fac n T p)
    ⟨rfl, fun v i e => by simp [mget_nil] at e, fun v _ j hj => by omega, fun i j _ hj => by omega⟩ (by
      rintro k ⟨l2, M⟩ hk ⟨h0, h1, h2, h3⟩
      dsimp only at h0 h1 h2 h3 ⊢
      subst h0
      have hrl := hr.len
      unfold P_subdirect_Decompose_l50
      rw [gi_lt 0 (by omega)]
      simp only [Option.bind_some]
      cases e : mget M (r.getD k 0) with
      | some i' =>
        obtain ⟨i, rfl, hi, hv⟩ := h1 _ _ e
        simp only [Option.isSome_some, if_true, Option.getD_some]
        obtain ⟨p, P, e2, hA⟩ := apart h (a := i) (b := k) (by omega) hk (by omega)
        rw [e2]
        simp only [Option.bind_some]
        rw [pus_ok (by simp only [List.length_cons, List.length_nil]; omega) (by omega)]
        exact .inr (.inl ⟨_, rfl, p, i, k, M, rfl, by omega, hk, (hr.ker i k (by omega) hk).1 hv, hA.ap, hA.fac h (by omega) hk⟩)
      | none =>
        simp only [Option.isSome_none, Bool.false_eq_true, if_false]
        refine .inl ⟨_, rfl, rfl, fun v i e2 => ?_, fun v e2 j hj => ?_, fun i j hij hj => ?_⟩
        · dsimp only at e2
          rw [mget_mput] at e2
          split at e2
          · rename_i hb
            cases e2
            exact ⟨k, rfl, by omega, by simpa using hb⟩
          · obtain ⟨j, a, b, c⟩ := h1 v i e2
            exact ⟨j, a, by omega, c⟩
        · dsimp only at e2
          rw [mget_mput] at e2
          split at e2
          · cases e2
          · rename_i hb
            rcases Nat.lt_or_ge j k with h5 | h5
            · exact h2 v e2 j h5
            · have : j = k := by omega
              subst this
              intro e3
              exact hb (by rw [e3]; simp)
        · rcases Nat.lt_or_ge j k with h5 | h5
          · exact h3 i j hij h5
          · have : j = k := by omega
            subst this
            exact h2 _ e i hij)
    (by
      rintro ⟨l2, M⟩ ⟨h0, h1, h2, h3⟩
      refine absurd (fun x y hx hy e => ?_) hd
      have e2 := (hr.ker x y hx hy).2 e
      rcases Nat.lt_trichotomy x y with h5 | h5 | h5
      · exact absurd e2 (h3 x y h5 hy)
      · exact h5
      · exact absurd e2.symm (h3 y x h5 hx))
  exact ⟨p, i, k, M, ho, hQ⟩

theorem sub_take {α : Type} {L : List α} {i : Nat} (h : i ≤ L.length) : sub L none (some (i : Int)) = some (L.take i) := by
  have e : bd (some (i : Int)) L.length L.length = some i := by
    unfold bd; dsimp only; rw [if_pos ⟨by omega, by omega⟩]; simp
  unfold sub
  rw [e]
  simp [bd]
theorem sub_drop {α : Type} {L : List α} {i : Nat} (h : i ≤ L.length) : sub L (some (i : Int)) none = some (L.drop i) := by
  have e : bd none L.length L.length = some L.length := rfl
  have e2 : bd (some (i : Int)) 0 L.length = some i := by
    unfold bd; dsimp only; rw [if_pos ⟨by omega, by omega⟩]; simp
  unfold sub
  rw [e]
  simp only [Option.bind_some]
  rw [e2]
  simp
def cut (l : List (List Int)) (i : Nat) : List (List Int) := l.take i ++ l.drop (i + 1)
theorem cut_len {l : List (List Int)} {i : Nat} (h : i < l.length) : (cut l i).length = l.length - 1 := by simp [cut]; omega
theorem cut_at {l : List (List Int)} {i : Nat} (h : i < l.length) (j : Nat) : (cut l i).getD j [] = if j < i then l.getD j [] else l.getD (j + 1) [] := by
  unfold cut
  rw [List.getD_eq_getElem?_getD, List.getD_eq_getElem?_getD, List.getD_eq_getElem?_getD]
  by_cases hj : j < i
  · rw [if_pos hj, List.getElem?_append_left (by simp; omega), List.getElem?_take_of_lt hj]
  · have hm : (l.take i).length = i := by simp; omega
    rw [if_neg hj, List.getElem?_append_right (by omega), hm, List.getElem?_drop]
    congr 2; omega
theorem cut_inf {l : List (List Int)} {i x y : Nat} (h : i < l.length) (hh : InfTo (cut l i) (-1) (cut l i).length x y) : InfTo l (i : Int) l.length x y := by
  rw [cut_len h] at hh
  intro j hj hne
  rcases Nat.lt_or_ge j i with h5 | h5
  · have := hh j (by omega) (by omega)
    rwa [cut_at h, if_pos h5] at this
  · have := hh (j - 1) (by omega) (by omega)
    rw [cut_at h, if_neg (by omega)] at this
    have e : j - 1 + 1 = j := by omega
    rwa [e] at this
theorem inf_cut {l : List (List Int)} {i k x y : Nat} (h : i < l.length) (hk : k < i) (hh : InfTo l (k : Int) l.length x y) : InfTo (cut l i) (k : Int) (cut l i).length x y := by
  rw [cut_len h]
  intro j hj hne
  rw [cut_at h]
  split
  · exact hh j (by omega) hne
  · exact hh (j + 1) (by omega) (by omega)
theorem fac_cut {n : Nat} {T : Nat → Nat → Nat} {l : List (List Int)} {i : Nat} (h : i < l.length) (hF : ∀ k, k < l.length → Fac n T (l.getD k [])) : ∀ k, k < (cut l i).length → Fac n T ((cut l i).getD k []) := by
  rw [cut_len h]
  intro k hk
  rw [cut_at h]
  split
  · exact hF k (by omega)
  · exact hF (k + 1) (by omega)

open Classical in
theorem decompose {t : List (List Int)} {n : Nat} {T : Nat → Nat → Nat} (h : Sg t n T) : ∃ l, P_subdirect_Decompose t = some (l, 0) ∧ ChkP n T l ∧ l.length ≤ 160000 := by
  have h400 := h.le
  have hnn : n * n ≤ 160000 := Nat.mul_le_mul (n₂ := 400) (m₂ := 400) h400 h400
  unfold P_subdirect_Decompose
  rw [validate, h.valid]
  simp only [Option.bind_some, Option.bind_none, decide_true, decide_false, Bool.not_true, Bool.not_false, Bool.true_and, Bool.and_true, Bool.false_eq_true, if_true, if_false, not_true_eq_false, not_false_eq_true, ite_true, ite_false, Bool.not_eq_true, decide_eq_true_eq, decide_eq_false_iff_not, Bool.not_eq_true', Bool.not_eq_false', Option.getD_some, Option.getD_none, Option.isSome_some, Option.isSome_none, Option.isNone_some, Option.isNone_none, eq_self, forall_const, true_implies, false_implies, implies_true]
  obtain ⟨o, ho, l, rfl, hF, hD, hlen⟩ := loop_inv (f := fun x => P_subdirect_Decompose_l7 t x) (x := [])
    (fun l => (∀ k, k < l.length → Fac n T (l.getD k [])) ∧ l.length + gap n l ≤ n * n) (fun l => gap n l)
    (fun o => ∃ l, o = .inl l ∧ (∀ k, k < l.length → Fac n T (l.getD k [])) ∧ Disc n (InfTo l (-1) l.length) ∧ l.length ≤ 160000)
    ⟨fun k hk => by simp at hk, by have := gap_le n []; simpa using this⟩ (by
      rintro l ⟨hF, hg⟩
      have hl : ∀ k, k < l.length → (l.getD k []).length = n ∧ validP (l.getD k []) = true := fun k hk => ⟨(hF k hk).1.1, (hF k hk).1.2.1⟩
      obtain ⟨r, e, hr⟩ := smeet (n := n) (by omega) hl (-1)
      unfold P_subdirect_Decompose_l7
      rw [h.len, e]
      simp only [Option.bind_some]
      rw [discrete hr (by omega)]
      simp only [Option.bind_some]
      by_cases hd : Disc n (InfTo l (-1) l.length)
      · rw [decide_eq_true hd]
        exact .inr (.inl ⟨l, rfl, l, rfl, hF, hd, by omega⟩)
      · rw [decide_eq_false hd]
        simp only [Bool.false_eq_true, if_false]
        obtain ⟨p, i, k, M, e2, hi, hk, hik, hp, hFp⟩ := dec_find h (by omega) hr hd
        rw [e2]
        have hlt := gap_app hi hk hik hp
        refine .inl ⟨l ++ [p], rfl, ⟨fun k hk => ?_, by rw [app_len]; omega⟩, hlt⟩
        rw [app_len] at hk
        rcases Nat.lt_or_ge k l.length with h5 | h5
        · rw [app_l h5]; exact hF k h5
        · have : k = l.length := by omega
          subst this
          rw [app_r]; exact hFp)
  rw [ho]
  simp only [Option.bind_some]
  obtain ⟨o, ho, l', i', rfl, hC, hlen'⟩ := loop_inv (f := fun x => P_subdirect_Decompose_l121 t x.1 x.2) (x := (l, (0 : Int)))
    (fun s : List (List Int) × Int => ∃ i : Nat, s.2 = (i : Int) ∧ i ≤ s.1.length ∧ s.1.length ≤ 160000 ∧ (∀ k, k < s.1.length → Fac n T (s.1.getD k [])) ∧ Disc n (InfTo s.1 (-1) s.1.length) ∧ ∀ k : Nat, k < i → ¬ Disc n (InfTo s.1 (k : Int) s.1.length))
    (fun s => s.1.length - s.2.toNat) (fun o => ∃ l i, o = .inl (l, i) ∧ ChkP n T l ∧ l.length ≤ 160000)
    ⟨0, rfl, Nat.zero_le _, hlen, hF, hD, fun k hk => by omega⟩ (by
      rintro ⟨l, _⟩ ⟨i, rfl, hil, hlen, hF, hD, hS⟩
      dsimp only at hil hlen hF hD hS ⊢
      have hl : ∀ k, k < l.length → (l.getD k []).length = n ∧ validP (l.getD k []) = true := fun k hk => ⟨(hF k hk).1.1, (hF k hk).1.2.1⟩
      have hw : w64 ((i : Int) + 1) = ((i + 1 : Nat) : Int) := by rw [w64_id (by omega) (by omega)]; simp
      unfold P_subdirect_Decompose_l121
      by_cases hi : i < l.length
      · rw [if_pos (by simp only [decide_eq_true_eq]; omega)]
        obtain ⟨r, e, hr⟩ := smeet (n := n) (by omega) hl (i : Int)
        rw [h.len, e]
        simp only [Option.bind_some]
        rw [discrete hr (by omega)]
        simp only [Option.bind_some]
        by_cases hd : Disc n (InfTo l (i : Int) l.length)
        · rw [decide_eq_true hd]
          simp only [if_true]
          rw [sub_take (by omega)]
          simp only [Option.bind_some]
          rw [pus_ok (by simp only [List.length_nil, List.length_take]; omega) (by omega), hw]
          simp only [Option.bind_some, List.nil_append]
          rw [sub_drop (by omega)]
          simp only [Option.bind_some]
          rw [pus_ok (by simp only [List.length_drop, List.length_take]; omega) (by omega)]
          simp only [Option.bind_some]
          have hcl := cut_len hi
          refine .inl ⟨(cut l i, (i : Int)), rfl, ⟨i, rfl, by dsimp only; omega, by dsimp only; omega, fac_cut hi hF, fun x y hx hy hxy => hd x y hx hy (cut_inf hi hxy), fun k hk hdk => hS k hk fun x y hx hy hxy => hdk x y hx hy (inf_cut hi hk hxy)⟩, by dsimp only; rw [hcl, Int.toNat_natCast]; omega⟩
        · rw [decide_eq_false hd]
          simp only [Bool.false_eq_true, if_false]
          refine .inl ⟨_, rfl, ⟨i + 1, hw, by dsimp only; omega, hlen, hF, hD, fun k hk => ?_⟩, by dsimp only; rw [hw, Int.toNat_natCast, Int.toNat_natCast]; omega⟩
          by_cases hki : k = i
          · subst hki; exact hd
          · exact hS k (by omega)
      · rw [if_neg (by simp only [decide_eq_true_eq]; omega)]
        exact .inr (.inl ⟨_, rfl, l, _, rfl, ⟨hF, hD, fun k hk => hS k (by omega)⟩, hlen⟩))
  rw [ho]
  exact ⟨l', rfl, hC, hlen'⟩
end Go.Proofs.Ytmdpejgnkoneoaa.Mt
set_option maxRecDepth 100000
set_option maxHeartbeats 4000000
namespace Go.Proofs.Ytmdpejgnkoneoaa.Pu
open Go Go.AM Go.Proofs.Ytmdpejgnkoneoaa.Code

noncomputable def P_semigroupref03_SameRows_l5 (a : List (List Int)) (b_ : List (List Int)) (k7 : Nat) : Option (Lp (Unit) (Bool)) :=
 Option.bind (gi a (k7 : Int)) fun x14 =>
 Option.bind (gi b_ (k7 : Int)) fun x21 =>
 Option.bind (P_semigroupref03_Same x14 x21) fun r28 =>
 if !r28 then
  some (.ex false)
 else
  some (.go ())
noncomputable def P_semigroupref03_SameRows (a : List (List Int)) (b_ : List (List Int)) : Option (Bool) :=
 if !decide ((a.length : Int) = (b_.length : Int)) then
  some false
 else
  Option.bind (forR a.length (fun k x => P_semigroupref03_SameRows_l5 a b_ k) ()) fun z11 =>
  match z11 with
  | .inl x33 =>
   some true
  | .inr b => some b
theorem R_semigroupref03_SameRows {G : List Frag} {W H : AH} {v_0 v_1 : AV} {a : List (List Int)} {b_ : List (List Int)} (hst : St G W H) (h_0 : Rp.rv W v_0 a) (h_1 : Rp.rv W v_1 b_) {r : Bool} (hp : P_semigroupref03_SameRows a b_ = some r) :
  wpc E0 N_semigroupref03_SameRows [v_0, v_1] H fun rv H' => ∃ W', Wle W W' ∧ St G W' H' ∧ rv = .bool r := by
 refine enterN (F := f_semigroupref03_SameRows) rfl (Nat.le_of_ble_eq_true rfl) fun s hl hg => ?_;replace hl : s.length = 27 := hl;have g0 : gt s 0 = v_0 := hg 0 (Nat.le_of_ble_eq_true rfl);have g1 : gt s 1 = v_1 := hg 1 (Nat.le_of_ble_eq_true rfl);clear hg;unfold P_semigroupref03_SameRows at hp;show wp E0 c_semigroupref03_SameRows s H _;unfold c_semigroupref03_SameRows;refine AM.wp_seq hp0 (AM.wp_reg hp0 ?_);refine wpo_seg hp0 1 (fun s H' => s.length = 27 ∧ gt s 0 = v_0 ∧ gt s 1 = v_1 ∧ H = H') (by simp only [↓runs, isCall, ↓reduceIte, ↓gd_true, ↓gd_false, evs, AV.cells, Nat.reduceEqDiff, Nat.reduceLT, reduceCtorEq, Nat.reduceAdd, sy, g0, g1, hl]) ?_;rintro s _ ⟨hl, g0, g1, rfl⟩;refine wpo_nil (then_n ?_);refine AM.wp_seq hp0 (AM.wp_seq hp0 (AM.wp_reg hp0 ?_));have f1 := fz_ln h_0;have f2 := fz_ln h_1;refine wpo_seg hp0 5 (fun s H' => s.length = 27 ∧ gt s 0 = v_0 ∧ gt s 1 = v_1 ∧ gt s 10 = .bool (!decide ((a.length : Int) = (b_.length : Int))) ∧ H = H') (by simp only [↓runs, isCall, ↓reduceIte, ↓gd_true, ↓gd_false, evs, AV.cells, Nat.reduceEqDiff, Nat.reduceLT, reduceCtorEq, Nat.reduceAdd, sy, f1, f2, g0, g1, hl]) ?_;rintro s _ ⟨hl, g0, g1, g10, rfl⟩;refine wpo_nil (then_n ?_);rcases Bool.eq_false_or_eq_true (!decide ((a.length : Int) = (b_.length : Int))) with c3 | c3
 ·replace hp := ifT c3 hp;refine AM.wp_condT (by simp only [ev_t, ev_c, g10, c3]) ?_;refine AM.wp_seq hp0 (AM.wp_reg hp0 ?_);refine wpo_seg hp0 1 (fun s H' => s.length = 27 ∧ gt s 4 = .bool false ∧ H = H') (by simp only [↓runs, isCall, ↓reduceIte, ↓gd_true, ↓gd_false, evs, AV.cells, Nat.reduceEqDiff, Nat.reduceLT, reduceCtorEq, Nat.reduceAdd, sy, g0, g1, g10, hl]) ?_;rintro s _ ⟨hl, g4, rfl⟩;refine wpo_nil (then_n ?_);refine AM.wp_ret ?_;refine then_r ?_;obtain rfl := Option.some.inj hp;refine body_ret (vs := [.bool false]) (by simp only [rvs, f_semigroupref03_SameRows, Option.map_some, g4]) ?_;exact ⟨W, .refl _, hst, rfl⟩
 ·replace hp := ifF c3 hp;refine AM.wp_condF (by simp only [ev_t, ev_c, g10, c3]) ?_;refine AM.wp_skip ?_;refine then_n ?_;refine AM.wp_seq hp0 (AM.wp_seq hp0 (AM.wp_reg hp0 ?_));have f4 := fz_ln h_0;refine wpo_seg hp0 3 (fun s H' => s.length = 27 ∧ gt s 0 = v_0 ∧ gt s 1 = v_1 ∧ gt s 12 = .int .i64 (a.length : Int) ∧ gt s 13 = .int .i64 0 ∧ H = H') (by simp only [↓runs, isCall, ↓reduceIte, ↓gd_true, ↓gd_false, evs, AV.cells, Nat.reduceEqDiff, Nat.reduceLT, reduceCtorEq, Nat.reduceAdd, sy, f4, g0, g1, g10, hl]) ?_;rintro s _ ⟨hl, g0, g1, g12, g13, rfl⟩;refine wpo_nil (then_n ?_);obtain ⟨z11, e12, hp⟩ := bn hp;refine range_ref hp0 27 a.length (fun k x => P_semigroupref03_SameRows_l5 a b_ k) (fun _ x s H' => ∃ (W' : AH), s.length = 27 ∧ gt s 0 = v_0 ∧ gt s 1 = v_1 ∧  Wle W W' ∧ St G W' H') (fun _ x s H' => ∃ (W' : AH), s.length = 27 ∧  Wle W W' ∧ St G W' H') e12 (fz_big h_0) rfl ?_ ?_ hl g13 g12 ?_ ?_
  ·intro k x s H d v hd h; rcases hd with rfl | rfl | rfl <;> simpa only [gt_other, pt_length, Nat.reduceEqDiff, not_false_eq_true] using h
  ·exact ⟨W, hl, g0, g1, .refl _, hst⟩
  ·intro k7 x6 y8 s H hk hI hl g13 g12 hy9 hx10;change P_semigroupref03_SameRows_l5 a b_ k7 = some y8 at hy9;unfold P_semigroupref03_SameRows_l5 at hy9;obtain ⟨W, hl, g0, g1, w13, hst⟩ := hI;replace h_0 := Rp.mono w13 h_0;replace h_1 := Rp.mono w13 h_1;refine AM.wp_seq hp0 (AM.wp_reg hp0 ?_);refine wpo_seg hp0 2 (fun s H' => s.length = 27 ∧ gt s 0 = v_0 ∧ gt s 1 = v_1 ∧ gt s 5 = .int .i64 (k7 : Int) ∧ gt s 12 = .int .i64 (a.length : Int) ∧ gt s 13 = .int .i64 (k7 : Int) ∧ H = H') (by simp only [↓runs, isCall, ↓reduceIte, ↓gd_true, ↓gd_false, evs, AV.cells, Nat.reduceEqDiff, Nat.reduceLT, reduceCtorEq, Nat.reduceAdd, sy, g0, g1, g12, g13, hl]) ?_;rintro s _ ⟨hl, g0, g1, g5, g12, g13, rfl⟩;refine wpo_nil (then_n ?_);refine AM.wp_seq hp0 (AM.wp_reg hp0 ?_);obtain ⟨x14, e15, hy9⟩ := bn hy9;obtain ⟨p16, y17, f18, f19, h20⟩ := fz_at (k := .i64) hst h_0 e15 rfl;obtain ⟨x21, e22, hy9⟩ := bn hy9;obtain ⟨p23, y24, f25, f26, h27⟩ := fz_at (k := .i64) hst h_1 e22 rfl;refine wpo_seg hp0 8 (fun s H' => s.length = 27 ∧ gt s 0 = v_0 ∧ gt s 1 = v_1 ∧ gt s 12 = .int .i64 (a.length : Int) ∧ gt s 13 = .int .i64 (k7 : Int) ∧ gt s 19 = y17 ∧ gt s 23 = y24 ∧ H = H') (by simp only [↓runs, isCall, ↓reduceIte, ↓gd_true, ↓gd_false, evs, AV.cells, Nat.reduceEqDiff, Nat.reduceLT, reduceCtorEq, Nat.reduceAdd, sy, f18, f19, f25, f26, g0, g1, g5, g12, g13, hl]) ?_;rintro s _ ⟨hl, g0, g1, g12, g13, g19, g23, rfl⟩;obtain ⟨r28, e29, hy9⟩ := bn hy9;refine wpo_callK hp0 rfl (ys := [y17, y24]) (by simp only [evs, List.map_cons, List.map_nil, ev_t, ev_c, g19, g23]) (R_semigroupref03_Same hst h20 h27 e29) ?_;rintro rv30 H ⟨W, w31, hst, rfl⟩;replace h_0 := Rp.mono w31 h_0;replace h_1 := Rp.mono w31 h_1;replace h20 := Rp.mono w31 h20;replace h27 := Rp.mono w31 h27;refine wpo_seg hp0 1 (fun s H' => s.length = 27 ∧ gt s 0 = v_0 ∧ gt s 1 = v_1 ∧ gt s 12 = .int .i64 (a.length : Int) ∧ gt s 13 = .int .i64 (k7 : Int) ∧ gt s 25 = .bool (!r28) ∧ H = H') (by simp only [↓runs, isCall, ↓reduceIte, ↓gd_true, ↓gd_false, evs, AV.cells, Nat.reduceEqDiff, Nat.reduceLT, reduceCtorEq, Nat.reduceAdd, sy, gt_other, g0, g1, g12, g13, g19, g23, hl]) ?_;rintro s _ ⟨hl, g0, g1, g12, g13, g25, rfl⟩;refine wpo_nil (then_n ?_);rcases Bool.eq_false_or_eq_true (!r28) with c32 | c32
   ·replace hy9 := ifT c32 hy9;refine AM.wp_condT (by simp only [ev_t, ev_c, g25, c32]) ?_;refine AM.wp_seq hp0 (AM.wp_reg hp0 ?_);refine wpo_seg hp0 1 (fun s H' => s.length = 27 ∧ gt s 4 = .bool false ∧ H = H') (by simp only [↓runs, isCall, ↓reduceIte, ↓gd_true, ↓gd_false, evs, AV.cells, Nat.reduceEqDiff, Nat.reduceLT, reduceCtorEq, Nat.reduceAdd, sy, g0, g1, g12, g13, g25, hl]) ?_;rintro s _ ⟨hl, g4, rfl⟩;refine wpo_nil (then_n ?_);refine AM.wp_ret ?_;refine rnd_r ?_;refine then_r ?_;obtain rfl := Option.some.inj hy9;have hx := hx10 _ rfl;subst hx;dsimp only at hp;obtain rfl := Option.some.inj hp;refine body_ret (vs := [.bool false]) (by simp only [rvs, f_semigroupref03_SameRows, Option.map_some, g4]) ?_;exact ⟨W, (w13.trans w31), hst, rfl⟩
   ·replace hy9 := ifF c32 hy9;refine AM.wp_condF (by simp only [ev_t, ev_c, g25, c32]) ?_;refine AM.wp_skip ?_;refine rnd_n ?_;obtain rfl := Option.some.inj hy9;exact ⟨_, rfl, hl, g13, g12, ⟨W, hl, g0, g1, (w13.trans w31), hst⟩⟩
  ·rintro x33 s Hn hz hI;replace hI : (fun s H' => ∃ (W' : AH), s.length = 27 ∧  Wle W W' ∧ St G W' H') s Hn := by
    rcases hI with ⟨hI, -⟩ | ⟨_, hI⟩
    ·obtain ⟨W2, hl, g0, g1, w2, hst2⟩ := hI;exact ⟨W2, hl, w2, hst2⟩
    ·exact hI
   obtain ⟨H, rfl⟩ : ∃ K, K = Hn := ⟨_, rfl⟩;subst hz;dsimp only at hp hI;obtain ⟨W, hl, w34, hst⟩ := hI;replace h_0 := Rp.mono w34 h_0;replace h_1 := Rp.mono w34 h_1;refine then_n ?_;refine AM.wp_seq hp0 (AM.wp_reg hp0 ?_);refine wpo_seg hp0 1 (fun s H' => s.length = 27 ∧ gt s 4 = .bool true ∧ H = H') (by simp only [↓runs, isCall, ↓reduceIte, ↓gd_true, ↓gd_false, evs, AV.cells, Nat.reduceEqDiff, Nat.reduceLT, reduceCtorEq, Nat.reduceAdd, sy, hl]) ?_;rintro s _ ⟨hl, g4, rfl⟩;refine wpo_nil (then_n ?_);refine AM.wp_ret ?_;obtain rfl := Option.some.inj hp;refine body_ret (vs := [.bool true]) (by simp only [rvs, f_semigroupref03_SameRows, Option.map_some, g4]) ?_;exact ⟨W, w34, hst, rfl⟩

end Go.Proofs.Ytmdpejgnkoneoaa.Pu
set_option maxRecDepth 100000
set_option maxHeartbeats 4000000
namespace Go.Proofs.Ytmdpejgnkoneoaa.Pu
open Go Go.AM Go.Proofs.Ytmdpejgnkoneoaa.Code

noncomputable def P_semigroupref22_Embed_l24 (k13 : Nat) (list : List (List Int)) (k26 : Nat) (x25 : List (List Int)) : Option ((List (List Int))) :=
 Option.bind (gi list (k26 : Int)) fun x36 =>
 Option.bind (gi x25 (k13 : Int)) fun x43 =>
 Option.bind (gi x36 (k13 : Int)) fun x53 =>
 Option.bind (pus 8 x43 [x53]) fun x72 =>
 some (List.set x25 ((k13 : Int)).toNat x72)
noncomputable def P_semigroupref22_Embed_l11 (list : List (List Int)) (k13 : Nat) (x12 : List (List Int)) : Option ((List (List Int))) :=
 Option.bind (forS list.length (fun k x => P_semigroupref22_Embed_l24 k13 list k x) x12) fun z30 =>
 some z30
noncomputable def P_semigroupref22_Embed (t : List (List Int)) (list : List (List Int)) : Option ((List (List Int))) :=
 Option.bind (mkz (α := List Int) 24 (t.length : Int) (t.length : Int) []) fun x2 =>
 Option.bind (forS t.length (fun k x => P_semigroupref22_Embed_l11 list k x) x2) fun z17 =>
 some z17
theorem R_semigroupref22_Embed {G : List Frag} {W H : AH} {v_0 v_1 : AV} {t : List (List Int)} {list : List (List Int)} (hst : St G W H) (h_0 : Rp.rv W v_0 t) (h_1 : Rp.rv W v_1 list) {r : (List (List Int))} (hp : P_semigroupref22_Embed t list = some r) :
  wpc E0 N_semigroupref22_Embed [v_0, v_1] H fun rv H' => ∃ W', Wle W W' ∧ St G W' H' ∧ Rp.rv W' rv (r : List (List Int)) := by
 refine enterN (F := f_semigroupref22_Embed) rfl (Nat.le_of_ble_eq_true rfl) fun s hl hg => ?_;replace hl : s.length = 39 := hl;have g0 : gt s 0 = v_0 := hg 0 (Nat.le_of_ble_eq_true rfl);have g1 : gt s 1 = v_1 := hg 1 (Nat.le_of_ble_eq_true rfl);clear hg;unfold P_semigroupref22_Embed at hp;show wp E0 c_semigroupref22_Embed s H _;unfold c_semigroupref22_Embed;refine AM.wp_seq hp0 (AM.wp_reg hp0 ?_);refine wpo_seg hp0 1 (fun s H' => s.length = 39 ∧ gt s 0 = v_0 ∧ gt s 1 = v_1 ∧ H = H') (by simp only [↓runs, isCall, ↓reduceIte, ↓gd_true, ↓gd_false, evs, AV.cells, Nat.reduceEqDiff, Nat.reduceLT, reduceCtorEq, Nat.reduceAdd, sy, g0, g1, hl]) ?_;rintro s _ ⟨hl, g0, g1, rfl⟩;refine wpo_nil (then_n ?_);refine AM.wp_seq hp0 (AM.wp_reg hp0 ?_);have f1 := fz_ln h_0;obtain ⟨x2, e3, hp⟩ := bn hp;obtain ⟨v4, H5, fg6, W, f8, w7, hst, o9⟩ := od_mk (kn := .i64) (kc := .i64) Int hst e3;replace h_0 := Rp.mono w7 h_0;replace h_1 := Rp.mono w7 h_1;refine wpo_seg hp0 4 (fun s H' => s.length = 39 ∧ gt s 0 = v_0 ∧ gt s 1 = v_1 ∧ gt s 5 = v4 ∧ H5 = H') (by simp only [↓runs, isCall, ↓reduceIte, ↓gd_true, ↓gd_false, evs, AV.cells, Nat.reduceEqDiff, Nat.reduceLT, reduceCtorEq, Nat.reduceAdd, sy, f1, f8, g0, g1, hl]) ?_;rintro s _ ⟨hl, g0, g1, g5, rfl⟩;refine wpo_nil (then_n ?_);refine AM.wp_seq hp0 (AM.wp_seq hp0 (AM.wp_reg hp0 ?_));have f10 := fz_ln h_0;refine wpo_seg hp0 3 (fun s H' => s.length = 39 ∧ gt s 1 = v_1 ∧ gt s 5 = v4 ∧ gt s 13 = .int .i64 (t.length : Int) ∧ gt s 14 = .int .i64 0 ∧ H5 = H') (by simp only [↓runs, isCall, ↓reduceIte, ↓gd_true, ↓gd_false, evs, AV.cells, Nat.reduceEqDiff, Nat.reduceLT, reduceCtorEq, Nat.reduceAdd, sy, f10, g0, g1, g5, hl]) ?_;rintro s _ ⟨hl, g1, g5, g13, g14, rfl⟩;refine wpo_nil (then_n ?_);obtain ⟨z17, e18, hp⟩ := bn hp;refine rangeS_ref hp0 39 t.length (fun k x => P_semigroupref22_Embed_l11 list k x) (fun _ x s H' => ∃ (W' : AH) (qo1 : Frag), s.length = 39 ∧ gt s 1 = v_1 ∧ gt s 5 = v4 ∧  Wle W W' ∧ St (qo1 :: G) W' H' ∧ OwD W' v4 qo1 (x : List (List Int))) e18 (fz_big h_0) rfl ?_ ?_ hl g14 g13 ?_ ?_
 ·intro k x s H d v hd h; rcases hd with rfl | rfl | rfl <;> simpa only [gt_other, pt_length, Nat.reduceEqDiff, not_false_eq_true] using h
 ·exact ⟨W, _, hl, g1, g5, .refl _, hst, o9⟩
 ·intro k13 x12 y14 s H hk hI hl g14 g13 hy15;change P_semigroupref22_Embed_l11 list k13 x12 = some y14 at hy15;unfold P_semigroupref22_Embed_l11 at hy15;obtain ⟨W, fg21, hl, g1, g5, w20, hst, o22⟩ := hI;replace h_1 := Rp.mono w20 h_1;refine AM.wp_seq hp0 (AM.wp_reg hp0 ?_);refine wpo_seg hp0 2 (fun s H' => s.length = 39 ∧ gt s 1 = v_1 ∧ gt s 5 = v4 ∧ gt s 6 = .int .i64 (k13 : Int) ∧ gt s 13 = .int .i64 (t.length : Int) ∧ gt s 14 = .int .i64 (k13 : Int) ∧ H = H') (by simp only [↓runs, isCall, ↓reduceIte, ↓gd_true, ↓gd_false, evs, AV.cells, Nat.reduceEqDiff, Nat.reduceLT, reduceCtorEq, Nat.reduceAdd, sy, g1, g5, g13, g14, hl]) ?_;rintro s _ ⟨hl, g1, g5, g6, g13, g14, rfl⟩;refine wpo_nil (then_n ?_);refine AM.wp_seq hp0 (AM.wp_reg hp0 ?_);have f23 := fz_ln h_1;refine wpo_seg hp0 3 (fun s H' => s.length = 39 ∧ gt s 1 = v_1 ∧ gt s 5 = v4 ∧ gt s 6 = .int .i64 (k13 : Int) ∧ gt s 13 = .int .i64 (t.length : Int) ∧ gt s 14 = .int .i64 (k13 : Int) ∧ gt s 17 = v_1 ∧ gt s 18 = .int .i64 (list.length : Int) ∧ gt s 19 = .int .i64 0 ∧ H = H') (by simp only [↓runs, isCall, ↓reduceIte, ↓gd_true, ↓gd_false, evs, AV.cells, Nat.reduceEqDiff, Nat.reduceLT, reduceCtorEq, Nat.reduceAdd, sy, f23, g1, g5, g6, g13, g14, hl]) ?_;rintro s _ ⟨hl, g1, g5, g6, g13, g14, g17, g18, g19, rfl⟩;refine wpo_nil (then_n ?_);obtain ⟨z30, e31, hy15⟩ := bn hy15;refine rangeS_ref hp0 39 list.length (fun k x => P_semigroupref22_Embed_l24 k13 list k x) (fun _ x s H' => ∃ (W' : AH) (qo1 : Frag), s.length = 39 ∧ gt s 1 = v_1 ∧ gt s 5 = v4 ∧ gt s 6 = .int .i64 (k13 : Int) ∧ gt s 13 = .int .i64 (t.length : Int) ∧ gt s 14 = .int .i64 (k13 : Int) ∧ gt s 17 = v_1 ∧  Wle W W' ∧ St (qo1 :: G) W' H' ∧ OwD W' v4 qo1 (x : List (List Int))) e31 (fz_big h_1) rfl ?_ ?_ hl g19 g18 ?_ ?_
  ·intro k x s H d v hd h; rcases hd with rfl | rfl | rfl <;> simpa only [gt_other, pt_length, Nat.reduceEqDiff, not_false_eq_true] using h
  ·exact ⟨W, _, hl, g1, g5, g6, g13, g14, g17, .refl _, hst, o22⟩
  ·intro k26 x25 y27 s H hk hI hl g19 g18 hy28;change P_semigroupref22_Embed_l24 k13 list k26 x25 = some y27 at hy28;unfold P_semigroupref22_Embed_l24 at hy28;obtain ⟨W, fg34, hl, g1, g5, g6, g13, g14, g17, w33, hst, o35⟩ := hI;replace h_1 := Rp.mono w33 h_1;refine AM.wp_seq hp0 (AM.wp_reg hp0 ?_);obtain ⟨x36, e37, hy28⟩ := bn hy28;obtain ⟨p38, y39, f40, f41, h42⟩ := fz_at (k := .i64) hst h_1 e37 rfl;refine wpo_seg hp0 3 (fun s H' => s.length = 39 ∧ gt s 1 = v_1 ∧ gt s 5 = v4 ∧ gt s 6 = .int .i64 (k13 : Int) ∧ gt s 8 = y39 ∧ gt s 13 = .int .i64 (t.length : Int) ∧ gt s 14 = .int .i64 (k13 : Int) ∧ gt s 17 = v_1 ∧ gt s 18 = .int .i64 (list.length : Int) ∧ gt s 19 = .int .i64 (k26 : Int) ∧ H = H') (by simp only [↓runs, isCall, ↓reduceIte, ↓gd_true, ↓gd_false, evs, AV.cells, Nat.reduceEqDiff, Nat.reduceLT, reduceCtorEq, Nat.reduceAdd, sy, f40, f41, g1, g5, g6, g13, g14, g17, g18, g19, hl]) ?_;rintro s _ ⟨hl, g1, g5, g6, g8, g13, g14, g17, g18, g19, rfl⟩;refine wpo_nil (then_n ?_);refine AM.wp_reg hp0 ?_;obtain ⟨x43, e44, hy28⟩ := bn hy28;obtain ⟨p45, v46, fg47, fg48, f49, f50, hst, o51, o52⟩ := od_open (k := .i64) hst o35 e44;obtain ⟨x53, e54, hy28⟩ := bn hy28;obtain ⟨p55, _, f57, f58, rfl⟩ := fz_at (k := .i64) hst h42 e54 rfl;obtain ⟨v60, l61, H62, fg63, W, f66, f67, f68, w65, hst, o69⟩ := ow_lit' (n := 1) (k := 1) (z := [.int .i64 0]) (ys := [.int .i64 x53]) (M := ([x53] : List (Int))) [(0, 1, .int .i64 x53)] rfl rfl hst (sc_cons (show Rp.rv _ (.int .i64 x53) (x53 : Int) from rfl) (sc_nil)) ((List.forall_mem_cons.2 ⟨rfl, fun _ h => (List.not_mem_nil h).elim⟩)) rfl rfl rfl (by decide);replace h_1 := Rp.mono w65 h_1;replace h42 := Rp.mono w65 h42;replace o52 := o52.mono w65;replace o51 := o51.mono w65;obtain ⟨c70, sn71⟩ := ow_sn hst (.head _) o69;obtain ⟨x72, e73, hy28⟩ := bn hy28;replace hst := hst.p1;obtain ⟨v74, H75, fg76, W, f78, w77, hst, o79⟩ := ow_apps [.int .i64 0] rfl hst o51 sn71 e73;replace h_1 := Rp.mono w77 h_1;replace h42 := Rp.mono w77 h42;replace o52 := o52.mono w77;replace o69 := o69.mono w77;replace hst := hst.p2;replace hst := hst.p1;obtain ⟨p80, H81, fg82, f83, f84, hst, o85⟩ := od_put (k := .i64) hst o79 o52 (gi_nn e44);obtain rfl := Option.some.inj (f83.symm.trans f49);refine wpo_seg hp0 14 (fun s H' => s.length = 39 ∧ gt s 1 = v_1 ∧ gt s 5 = v4 ∧ gt s 6 = .int .i64 (k13 : Int) ∧ gt s 13 = .int .i64 (t.length : Int) ∧ gt s 14 = .int .i64 (k13 : Int) ∧ gt s 17 = v_1 ∧ gt s 18 = .int .i64 (list.length : Int) ∧ gt s 19 = .int .i64 (k26 : Int) ∧ H81 = H') (by simp (maxSteps := 1000000) only [↓runs, isCall, ↓reduceIte, ↓gd_true, ↓gd_false, evs, AV.cells, Nat.reduceEqDiff, Nat.reduceLT, reduceCtorEq, Nat.reduceAdd, sy, f49, f50, f57, f58, f66, f67, f68, f78, f83, f84, g1, g5, g6, g8, g13, g14, g17, g18, g19, hl]) ?_;rintro s _ ⟨hl, g1, g5, g6, g13, g14, g17, g18, g19, rfl⟩;refine wpo_nil ?_;refine rnd_n ?_;obtain rfl := Option.some.inj hy28;replace hst := hst.p1;replace hst := hst.drop;exact ⟨hl, g19, g18, ⟨W, _, hl, g1, g5, g6, g13, g14, g17, ((w33.trans w65).trans w77), hst, o85⟩⟩
  ·rintro s H hI _;obtain ⟨W, fg87, hl, g1, g5, g6, g13, g14, g17, w86, hst, o88⟩ := hI;replace h_1 := Rp.mono w86 h_1;refine rnd_n ?_;obtain rfl := Option.some.inj hy15;exact ⟨hl, g14, g13, ⟨W, _, hl, g1, g5, (w20.trans w86), hst, o88⟩⟩
 ·rintro s H hI _;obtain ⟨W, fg90, hl, g1, g5, w89, hst, o91⟩ := hI;replace h_1 := Rp.mono w89 h_1;refine then_n ?_;refine AM.wp_seq hp0 (AM.wp_reg hp0 ?_);refine wpo_seg hp0 2 (fun s H' => s.length = 39 ∧ gt s 4 = v4 ∧ H = H') (by simp only [↓runs, isCall, ↓reduceIte, ↓gd_true, ↓gd_false, evs, AV.cells, Nat.reduceEqDiff, Nat.reduceLT, reduceCtorEq, Nat.reduceAdd, sy, g1, g5, hl]) ?_;rintro s _ ⟨hl, g4, rfl⟩;refine wpo_nil (then_n ?_);refine AM.wp_ret ?_;obtain ⟨W, w93, hst, h92⟩ := od_frz hst o91;obtain rfl := Option.some.inj hp;refine body_ret (vs := [v4]) (by simp only [rvs, f_semigroupref22_Embed, Option.map_some, g4]) ?_;exact ⟨W, ((w7.trans w89).trans w93), hst, h92⟩

end Go.Proofs.Ytmdpejgnkoneoaa.Pu
set_option maxRecDepth 100000
set_option maxHeartbeats 4000000
namespace Go.Proofs.Ytmdpejgnkoneoaa.Pu
open Go Go.AM Go.Proofs.Ytmdpejgnkoneoaa.Code

noncomputable def P_congr_IsCongruence (t : List (List Int)) (p_ : List Int) (side : Int) : Option (Bool) :=
 Option.bind (
  Option.bind (P_mult_Validate t) fun r3 =>
  if decide (r3 = 0) then
   if decide (0 ≤ side) then
    if decide (side ≤ 2) then
     Option.bind (P_congr_is t p_ side) fun r10 =>
     some r10
    else
     some false
   else
    some false
  else
   some false) fun z1 =>
 some z1
theorem R_congr_IsCongruence {G : List Frag} {W H : AH} {v_0 v_1 : AV} {t : List (List Int)} {p_ : List Int} {side : Int} (hst : St G W H) (h_0 : Rp.rv W v_0 t) (h_1 : Rp.rv W v_1 p_) {r : Bool} (hp : P_congr_IsCongruence t p_ side = some r) :
  wpc E0 N_congr_IsCongruence [v_0, v_1, .int .i64 side] H fun rv H' => ∃ W', Wle W W' ∧ St G W' H' ∧ rv = .bool r := by
 refine enterN (F := f_congr_IsCongruence) rfl (Nat.le_of_ble_eq_true rfl) fun s hl hg => ?_;replace hl : s.length = 24 := hl;have g0 : gt s 0 = v_0 := hg 0 (Nat.le_of_ble_eq_true rfl);have g1 : gt s 1 = v_1 := hg 1 (Nat.le_of_ble_eq_true rfl);have g2 : gt s 2 = .int .i64 side := hg 2 (Nat.le_of_ble_eq_true rfl);clear hg;unfold P_congr_IsCongruence at hp;show wp E0 c_congr_IsCongruence s H _;unfold c_congr_IsCongruence;refine AM.wp_seq hp0 (AM.wp_reg hp0 ?_);refine wpo_seg hp0 1 (fun s H' => s.length = 24 ∧ gt s 0 = v_0 ∧ gt s 1 = v_1 ∧ gt s 2 = .int .i64 side ∧ H = H') (by simp only [↓runs, isCall, ↓reduceIte, ↓gd_true, ↓gd_false, evs, AV.cells, Nat.reduceEqDiff, Nat.reduceLT, reduceCtorEq, Nat.reduceAdd, sy, g0, g1, g2, hl]) ?_;rintro s _ ⟨hl, g0, g1, g2, rfl⟩;refine wpo_nil (then_n ?_);refine AM.wp_seq hp0 ?_;obtain ⟨z1, hj2, hp⟩ := bn hp;refine AM.wp_regK hp0 (fun s H' => ∃ (W' : AH), s.length = 24 ∧ gt s 6 = .bool z1 ∧  Wle W W' ∧ St G W' H') ?_ ?_
 ·refine wpo_seg hp0 1 (fun s H' => s.length = 24 ∧ gt s 0 = v_0 ∧ gt s 1 = v_1 ∧ gt s 2 = .int .i64 side ∧ gt s 7 = v_0 ∧ H = H') (by simp only [↓runs, isCall, ↓reduceIte, ↓gd_true, ↓gd_false, evs, AV.cells, Nat.reduceEqDiff, Nat.reduceLT, reduceCtorEq, Nat.reduceAdd, sy, g0, g1, g2, hl]) ?_;rintro s _ ⟨hl, g0, g1, g2, g7, rfl⟩;obtain ⟨r3, e4, hj2⟩ := bn hj2;refine wpo_callK hp0 rfl (ys := [v_0]) (by simp only [evs, List.map_cons, List.map_nil, ev_t, ev_c, g7]) (R_mult_Validate hst h_0 e4) ?_;rintro rv5 H ⟨W, w6, hst, rfl⟩;replace h_0 := Rp.mono w6 h_0;replace h_1 := Rp.mono w6 h_1;rcases Bool.eq_false_or_eq_true (decide (r3 = 0)) with c7 | c7
  ·replace hj2 := ifT c7 hj2;rcases Bool.eq_false_or_eq_true (decide (0 ≤ side)) with c8 | c8
   ·replace hj2 := ifT c8 hj2;rcases Bool.eq_false_or_eq_true (decide (side ≤ 2)) with c9 | c9
    ·replace hj2 := ifT c9 hj2;refine wpo_seg hp0 13 (fun s H' => s.length = 24 ∧ gt s 18 = .bool true ∧ gt s 19 = v_0 ∧ gt s 20 = v_1 ∧ gt s 21 = .int .i64 side ∧ H = H') (by simp (maxSteps := 1000000) only [↓runs, isCall, ↓reduceIte, ↓gd_true, ↓gd_false, evs, AV.cells, Nat.reduceEqDiff, Nat.reduceLT, reduceCtorEq, Nat.reduceAdd, sy, gt_other, c7, c8, c9, g0, g1, g2, g7, hl]) ?_;rintro s _ ⟨hl, g18, g19, g20, g21, rfl⟩;obtain ⟨r10, e11, hj2⟩ := bn hj2;refine wpo_callK hp0 (by simp only [wanted, g18, beq_self_eq_true]) (ys := [v_0, v_1, .int .i64 side]) (by simp only [evs, List.map_cons, List.map_nil, ev_t, ev_c, g19, g20, g21]) (R_congr_is hst h_0 h_1 e11) ?_;rintro rv12 H ⟨W, w13, hst, rfl⟩;replace h_0 := Rp.mono w13 h_0;replace h_1 := Rp.mono w13 h_1;refine wpo_seg hp0 2 (fun s H' => s.length = 24 ∧ gt s 6 = .bool r10 ∧ H = H') (by simp only [↓runs, isCall, ↓reduceIte, ↓gd_true, ↓gd_false, evs, AV.cells, Nat.reduceEqDiff, Nat.reduceLT, reduceCtorEq, Nat.reduceAdd, sy, gt_other, g18, g19, g20, g21, hl]) ?_;rintro s _ ⟨hl, g6, rfl⟩;refine wpo_nil ?_;obtain rfl := Option.some.inj hj2;exact ⟨W, hl, g6, (w6.trans w13), hst⟩
    ·replace hj2 := ifF c9 hj2;refine wpo_seg hp0 16 (fun s H' => s.length = 24 ∧ gt s 6 = .bool false ∧ H = H') (by simp (maxSteps := 1000000) only [↓runs, isCall, ↓reduceIte, ↓gd_true, ↓gd_false, evs, AV.cells, Nat.reduceEqDiff, Nat.reduceLT, reduceCtorEq, Nat.reduceAdd, sy, gt_other, c7, c8, c9, g0, g1, g2, g7, hl]) ?_;rintro s _ ⟨hl, g6, rfl⟩;refine wpo_nil ?_;obtain rfl := Option.some.inj hj2;exact ⟨W, hl, g6, w6, hst⟩
   ·replace hj2 := ifF c8 hj2;refine wpo_seg hp0 16 (fun s H' => s.length = 24 ∧ gt s 6 = .bool false ∧ H = H') (by simp (maxSteps := 1000000) only [↓runs, isCall, ↓reduceIte, ↓gd_true, ↓gd_false, evs, AV.cells, Nat.reduceEqDiff, Nat.reduceLT, reduceCtorEq, Nat.reduceAdd, sy, gt_other, c7, c8, g0, g1, g2, g7, hl]) ?_;rintro s _ ⟨hl, g6, rfl⟩;refine wpo_nil ?_;obtain rfl := Option.some.inj hj2;exact ⟨W, hl, g6, w6, hst⟩
  ·replace hj2 := ifF c7 hj2;refine wpo_seg hp0 16 (fun s H' => s.length = 24 ∧ gt s 6 = .bool false ∧ H = H') (by simp (maxSteps := 1000000) only [↓runs, isCall, ↓reduceIte, ↓gd_true, ↓gd_false, evs, AV.cells, Nat.reduceEqDiff, Nat.reduceLT, reduceCtorEq, Nat.reduceAdd, sy, gt_other, c7, g0, g1, g2, g7, hl]) ?_;rintro s _ ⟨hl, g6, rfl⟩;refine wpo_nil ?_;obtain rfl := Option.some.inj hj2;exact ⟨W, hl, g6, w6, hst⟩
 ·rintro s H ⟨W, hl, g6, w14, hst⟩;refine then_n ?_;refine AM.wp_ret ?_;obtain rfl := Option.some.inj hp;refine body_ret (vs := [.bool z1]) (by simp only [rvs, f_congr_IsCongruence, Option.map_some, g6]) ?_;exact ⟨W, w14, hst, rfl⟩

end Go.Proofs.Ytmdpejgnkoneoaa.Pu
set_option maxRecDepth 100000
set_option maxHeartbeats 4000000
namespace Go.Proofs.Ytmdpejgnkoneoaa.Pu
open Go Go.AM Go.Proofs.Ytmdpejgnkoneoaa.Code

noncomputable def P_subdirect_Embed_l7 (list : List (List Int)) (t : List (List Int)) (k9 : Nat) : Option (Lp (Unit) ((List (List Int)))) :=
 Option.bind (gi list (k9 : Int)) fun x16 =>
 Option.bind (P_congr_IsCongruence t x16 0) fun r23 =>
 if !r23 then
  some (.ex [])
 else
  some (.go ())
noncomputable def P_subdirect_Embed_l54 (k43 : Nat) (list : List (List Int)) (k56 : Nat) (x55 : List (List Int)) : Option ((List (List Int))) :=
 Option.bind (gi list (k56 : Int)) fun x66 =>
 Option.bind (gi x55 (k43 : Int)) fun x73 =>
 Option.bind (gi x66 (k43 : Int)) fun x83 =>
 Option.bind (pus 8 x73 [x83]) fun x101 =>
 some (List.set x55 ((k43 : Int)).toNat x101)
noncomputable def P_subdirect_Embed_l41 (list : List (List Int)) (k43 : Nat) (x42 : List (List Int)) : Option ((List (List Int))) :=
 Option.bind (forS list.length (fun k x => P_subdirect_Embed_l54 k43 list k x) x42) fun z60 =>
 some z60
noncomputable def P_subdirect_Embed (t : List (List Int)) (list : List (List Int)) : Option ((List (List Int))) :=
 Option.bind (P_mult_Validate t) fun r1 =>
 if !decide (r1 = 0) then
  some []
 else
  Option.bind (forR list.length (fun k x => P_subdirect_Embed_l7 list t k) ()) fun z13 =>
  match z13 with
  | .inl x28 =>
   Option.bind (mkz (α := List Int) 24 (t.length : Int) (t.length : Int) []) fun x31 =>
   Option.bind (forS x31.length (fun k x => P_subdirect_Embed_l41 list k x) x31) fun z47 =>
   some z47
  | .inr b => some b
theorem R_subdirect_Embed {G : List Frag} {W H : AH} {v_0 v_1 : AV} {t : List (List Int)} {list : List (List Int)} (hst : St G W H) (h_0 : Rp.rv W v_0 t) (h_1 : Rp.rv W v_1 list) {r : (List (List Int))} (hp : P_subdirect_Embed t list = some r) :
  wpc E0 N_subdirect_Embed [v_0, v_1] H fun rv H' => ∃ W', Wle W W' ∧ St G W' H' ∧ Rp.rv W' rv (r : List (List Int)) := by
 refine enterN (F := f_subdirect_Embed) rfl (Nat.le_of_ble_eq_true rfl) fun s hl hg => ?_;replace hl : s.length = 55 := hl;have g0 : gt s 0 = v_0 := hg 0 (Nat.le_of_ble_eq_true rfl);have g1 : gt s 1 = v_1 := hg 1 (Nat.le_of_ble_eq_true rfl);clear hg;unfold P_subdirect_Embed at hp;show wp E0 c_subdirect_Embed s H _;unfold c_subdirect_Embed;refine AM.wp_seq hp0 (AM.wp_reg hp0 ?_);refine wpo_seg hp0 1 (fun s H' => s.length = 55 ∧ gt s 0 = v_0 ∧ gt s 1 = v_1 ∧ H = H') (by simp only [↓runs, isCall, ↓reduceIte, ↓gd_true, ↓gd_false, evs, AV.cells, Nat.reduceEqDiff, Nat.reduceLT, reduceCtorEq, Nat.reduceAdd, sy, g0, g1, hl]) ?_;rintro s _ ⟨hl, g0, g1, rfl⟩;refine wpo_nil (then_n ?_);refine AM.wp_seq hp0 (AM.wp_seq hp0 (AM.wp_reg hp0 ?_));refine wpo_seg hp0 1 (fun s H' => s.length = 55 ∧ gt s 0 = v_0 ∧ gt s 1 = v_1 ∧ gt s 11 = v_0 ∧ H = H') (by simp only [↓runs, isCall, ↓reduceIte, ↓gd_true, ↓gd_false, evs, AV.cells, Nat.reduceEqDiff, Nat.reduceLT, reduceCtorEq, Nat.reduceAdd, sy, g0, g1, hl]) ?_;rintro s _ ⟨hl, g0, g1, g11, rfl⟩;obtain ⟨r1, e2, hp⟩ := bn hp;refine wpo_callK hp0 rfl (ys := [v_0]) (by simp only [evs, List.map_cons, List.map_nil, ev_t, ev_c, g11]) (R_mult_Validate hst h_0 e2) ?_;rintro rv3 H ⟨W, w4, hst, rfl⟩;replace h_0 := Rp.mono w4 h_0;replace h_1 := Rp.mono w4 h_1;refine wpo_seg hp0 1 (fun s H' => s.length = 55 ∧ gt s 0 = v_0 ∧ gt s 1 = v_1 ∧ gt s 13 = .bool (!decide (r1 = 0)) ∧ H = H') (by simp only [↓runs, isCall, ↓reduceIte, ↓gd_true, ↓gd_false, evs, AV.cells, Nat.reduceEqDiff, Nat.reduceLT, reduceCtorEq, Nat.reduceAdd, sy, gt_other, g0, g1, g11, hl]) ?_;rintro s _ ⟨hl, g0, g1, g13, rfl⟩;refine wpo_nil (then_n ?_);rcases Bool.eq_false_or_eq_true (!decide (r1 = 0)) with c5 | c5
 ·replace hp := ifT c5 hp;refine AM.wp_condT (by simp only [ev_t, ev_c, g13, c5]) ?_;refine AM.wp_seq hp0 (AM.wp_reg hp0 ?_);refine wpo_seg hp0 1 (fun s H' => s.length = 55 ∧ gt s 4 = .nils ∧ H = H') (by simp only [↓runs, isCall, ↓reduceIte, ↓gd_true, ↓gd_false, evs, AV.cells, Nat.reduceEqDiff, Nat.reduceLT, reduceCtorEq, Nat.reduceAdd, sy, g0, g1, g13, hl]) ?_;rintro s _ ⟨hl, g4, rfl⟩;refine wpo_nil (then_n ?_);refine AM.wp_ret ?_;refine then_r ?_;obtain rfl := Option.some.inj hp;refine body_ret (vs := [.nils]) (by simp only [rvs, f_subdirect_Embed, Option.map_some, g4]) ?_;exact ⟨W, w4, hst, (fz_nil _)⟩
 ·replace hp := ifF c5 hp;refine AM.wp_condF (by simp only [ev_t, ev_c, g13, c5]) ?_;refine AM.wp_skip ?_;refine then_n ?_;refine AM.wp_seq hp0 (AM.wp_seq hp0 (AM.wp_reg hp0 ?_));have f6 := fz_ln h_1;refine wpo_seg hp0 3 (fun s H' => s.length = 55 ∧ gt s 0 = v_0 ∧ gt s 1 = v_1 ∧ gt s 14 = v_1 ∧ gt s 15 = .int .i64 (list.length : Int) ∧ gt s 16 = .int .i64 0 ∧ H = H') (by simp only [↓runs, isCall, ↓reduceIte, ↓gd_true, ↓gd_false, evs, AV.cells, Nat.reduceEqDiff, Nat.reduceLT, reduceCtorEq, Nat.reduceAdd, sy, f6, g0, g1, g13, hl]) ?_;rintro s _ ⟨hl, g0, g1, g14, g15, g16, rfl⟩;refine wpo_nil (then_n ?_);obtain ⟨z13, e14, hp⟩ := bn hp;refine range_ref hp0 55 list.length (fun k x => P_subdirect_Embed_l7 list t k) (fun _ x s H' => ∃ (W' : AH), s.length = 55 ∧ gt s 0 = v_0 ∧ gt s 1 = v_1 ∧ gt s 14 = v_1 ∧  Wle W W' ∧ St G W' H') (fun _ x s H' => ∃ (W' : AH), s.length = 55 ∧ gt s 0 = v_0 ∧ gt s 1 = v_1 ∧  Wle W W' ∧ St G W' H') e14 (fz_big h_1) rfl ?_ ?_ hl g16 g15 ?_ ?_
  ·intro k x s H d v hd h; rcases hd with rfl | rfl | rfl <;> simpa only [gt_other, pt_length, Nat.reduceEqDiff, not_false_eq_true] using h
  ·exact ⟨W, hl, g0, g1, g14, .refl _, hst⟩
  ·intro k9 x8 y10 s H hk hI hl g16 g15 hy11 hx12;change P_subdirect_Embed_l7 list t k9 = some y10 at hy11;unfold P_subdirect_Embed_l7 at hy11;obtain ⟨W, hl, g0, g1, g14, w15, hst⟩ := hI;replace h_0 := Rp.mono w15 h_0;replace h_1 := Rp.mono w15 h_1;refine AM.wp_seq hp0 (AM.wp_reg hp0 ?_);obtain ⟨x16, e17, hy11⟩ := bn hy11;obtain ⟨p18, y19, f20, f21, h22⟩ := fz_at (k := .i64) hst h_1 e17 rfl;refine wpo_seg hp0 3 (fun s H' => s.length = 55 ∧ gt s 0 = v_0 ∧ gt s 1 = v_1 ∧ gt s 6 = y19 ∧ gt s 14 = v_1 ∧ gt s 15 = .int .i64 (list.length : Int) ∧ gt s 16 = .int .i64 (k9 : Int) ∧ H = H') (by simp only [↓runs, isCall, ↓reduceIte, ↓gd_true, ↓gd_false, evs, AV.cells, Nat.reduceEqDiff, Nat.reduceLT, reduceCtorEq, Nat.reduceAdd, sy, f20, f21, g0, g1, g14, g15, g16, hl]) ?_;rintro s _ ⟨hl, g0, g1, g6, g14, g15, g16, rfl⟩;refine wpo_nil (then_n ?_);refine AM.wp_seq hp0 (AM.wp_reg hp0 ?_);refine wpo_seg hp0 2 (fun s H' => s.length = 55 ∧ gt s 0 = v_0 ∧ gt s 1 = v_1 ∧ gt s 14 = v_1 ∧ gt s 15 = .int .i64 (list.length : Int) ∧ gt s 16 = .int .i64 (k9 : Int) ∧ gt s 20 = v_0 ∧ gt s 21 = y19 ∧ H = H') (by simp only [↓runs, isCall, ↓reduceIte, ↓gd_true, ↓gd_false, evs, AV.cells, Nat.reduceEqDiff, Nat.reduceLT, reduceCtorEq, Nat.reduceAdd, sy, g0, g1, g6, g14, g15, g16, hl]) ?_;rintro s _ ⟨hl, g0, g1, g14, g15, g16, g20, g21, rfl⟩;obtain ⟨r23, e24, hy11⟩ := bn hy11;refine wpo_callK hp0 rfl (ys := [v_0, y19, .int .i64 0]) (by simp only [evs, List.map_cons, List.map_nil, ev_t, ev_c, g20, g21]) (R_congr_IsCongruence hst h_0 h22 e24) ?_;rintro rv25 H ⟨W, w26, hst, rfl⟩;replace h_0 := Rp.mono w26 h_0;replace h_1 := Rp.mono w26 h_1;replace h22 := Rp.mono w26 h22;refine wpo_seg hp0 1 (fun s H' => s.length = 55 ∧ gt s 0 = v_0 ∧ gt s 1 = v_1 ∧ gt s 14 = v_1 ∧ gt s 15 = .int .i64 (list.length : Int) ∧ gt s 16 = .int .i64 (k9 : Int) ∧ gt s 23 = .bool (!r23) ∧ H = H') (by simp only [↓runs, isCall, ↓reduceIte, ↓gd_true, ↓gd_false, evs, AV.cells, Nat.reduceEqDiff, Nat.reduceLT, reduceCtorEq, Nat.reduceAdd, sy, gt_other, g0, g1, g14, g15, g16, g20, g21, hl]) ?_;rintro s _ ⟨hl, g0, g1, g14, g15, g16, g23, rfl⟩;refine wpo_nil (then_n ?_);rcases Bool.eq_false_or_eq_true (!r23) with c27 | c27
   ·replace hy11 := ifT c27 hy11;refine AM.wp_condT (by simp only [ev_t, ev_c, g23, c27]) ?_;refine AM.wp_seq hp0 (AM.wp_reg hp0 ?_);refine wpo_seg hp0 1 (fun s H' => s.length = 55 ∧ gt s 4 = .nils ∧ H = H') (by simp only [↓runs, isCall, ↓reduceIte, ↓gd_true, ↓gd_false, evs, AV.cells, Nat.reduceEqDiff, Nat.reduceLT, reduceCtorEq, Nat.reduceAdd, sy, g0, g1, g14, g15, g16, g23, hl]) ?_;rintro s _ ⟨hl, g4, rfl⟩;refine wpo_nil (then_n ?_);refine AM.wp_ret ?_;refine rnd_r ?_;refine then_r ?_;obtain rfl := Option.some.inj hy11;have hx := hx12 _ rfl;subst hx;dsimp only at hp;obtain rfl := Option.some.inj hp;refine body_ret (vs := [.nils]) (by simp only [rvs, f_subdirect_Embed, Option.map_some, g4]) ?_;exact ⟨W, ((w4.trans w15).trans w26), hst, (fz_nil _)⟩
   ·replace hy11 := ifF c27 hy11;refine AM.wp_condF (by simp only [ev_t, ev_c, g23, c27]) ?_;refine AM.wp_skip ?_;refine rnd_n ?_;obtain rfl := Option.some.inj hy11;exact ⟨_, rfl, hl, g16, g15, ⟨W, hl, g0, g1, g14, (w15.trans w26), hst⟩⟩
  ·rintro x28 s Hn hz hI;replace hI : (fun s H' => ∃ (W' : AH), s.length = 55 ∧ gt s 0 = v_0 ∧ gt s 1 = v_1 ∧  Wle W W' ∧ St G W' H') s Hn := by
    rcases hI with ⟨hI, -⟩ | ⟨_, hI⟩
    ·obtain ⟨W2, hl, g0, g1, g14, w2, hst2⟩ := hI;exact ⟨W2, hl, g0, g1, w2, hst2⟩
    ·exact hI
   obtain ⟨H, rfl⟩ : ∃ K, K = Hn := ⟨_, rfl⟩;subst hz;dsimp only at hp hI;obtain ⟨W, hl, g0, g1, w29, hst⟩ := hI;replace h_0 := Rp.mono w29 h_0;replace h_1 := Rp.mono w29 h_1;refine then_n ?_;refine AM.wp_seq hp0 (AM.wp_reg hp0 ?_);have f30 := fz_ln h_0;obtain ⟨x31, e32, hp⟩ := bn hp;obtain ⟨v33, H34, fg35, W, f37, w36, hst, o38⟩ := od_mk (kn := .i64) (kc := .i64) Int hst e32;replace h_0 := Rp.mono w36 h_0;replace h_1 := Rp.mono w36 h_1;refine wpo_seg hp0 4 (fun s H' => s.length = 55 ∧ gt s 1 = v_1 ∧ gt s 7 = v33 ∧ H34 = H') (by simp only [↓runs, isCall, ↓reduceIte, ↓gd_true, ↓gd_false, evs, AV.cells, Nat.reduceEqDiff, Nat.reduceLT, reduceCtorEq, Nat.reduceAdd, sy, f30, f37, g0, g1, hl]) ?_;rintro s _ ⟨hl, g1, g7, rfl⟩;refine wpo_nil (then_n ?_);refine AM.wp_seq hp0 (AM.wp_seq hp0 (AM.wp_reg hp0 ?_));have f39 := od_ln o38;have b40 := od_big o38;refine wpo_seg hp0 3 (fun s H' => s.length = 55 ∧ gt s 1 = v_1 ∧ gt s 7 = v33 ∧ gt s 29 = .int .i64 (x31.length : Int) ∧ gt s 30 = .int .i64 0 ∧ H34 = H') (by simp only [↓runs, isCall, ↓reduceIte, ↓gd_true, ↓gd_false, evs, AV.cells, Nat.reduceEqDiff, Nat.reduceLT, reduceCtorEq, Nat.reduceAdd, sy, f39, g1, g7, hl]) ?_;rintro s _ ⟨hl, g1, g7, g29, g30, rfl⟩;refine wpo_nil (then_n ?_);obtain ⟨z47, e48, hp⟩ := bn hp;refine rangeS_ref hp0 55 x31.length (fun k x => P_subdirect_Embed_l41 list k x) (fun _ x s H' => ∃ (W' : AH) (qo1 : Frag), s.length = 55 ∧ gt s 1 = v_1 ∧ gt s 7 = v33 ∧  Wle W W' ∧ St (qo1 :: G) W' H' ∧ OwD W' v33 qo1 (x : List (List Int))) e48 (b40) rfl ?_ ?_ hl g30 g29 ?_ ?_
   ·intro k x s H d v hd h; rcases hd with rfl | rfl | rfl <;> simpa only [gt_other, pt_length, Nat.reduceEqDiff, not_false_eq_true] using h
   ·exact ⟨W, _, hl, g1, g7, .refl _, hst, o38⟩
   ·intro k43 x42 y44 s H hk hI hl g30 g29 hy45;change P_subdirect_Embed_l41 list k43 x42 = some y44 at hy45;unfold P_subdirect_Embed_l41 at hy45;obtain ⟨W, fg51, hl, g1, g7, w50, hst, o52⟩ := hI;replace h_1 := Rp.mono w50 h_1;refine AM.wp_seq hp0 (AM.wp_reg hp0 ?_);refine wpo_seg hp0 2 (fun s H' => s.length = 55 ∧ gt s 1 = v_1 ∧ gt s 7 = v33 ∧ gt s 8 = .int .i64 (k43 : Int) ∧ gt s 29 = .int .i64 (x31.length : Int) ∧ gt s 30 = .int .i64 (k43 : Int) ∧ H = H') (by simp only [↓runs, isCall, ↓reduceIte, ↓gd_true, ↓gd_false, evs, AV.cells, Nat.reduceEqDiff, Nat.reduceLT, reduceCtorEq, Nat.reduceAdd, sy, g1, g7, g29, g30, hl]) ?_;rintro s _ ⟨hl, g1, g7, g8, g29, g30, rfl⟩;refine wpo_nil (then_n ?_);refine AM.wp_seq hp0 (AM.wp_reg hp0 ?_);have f53 := fz_ln h_1;refine wpo_seg hp0 3 (fun s H' => s.length = 55 ∧ gt s 1 = v_1 ∧ gt s 7 = v33 ∧ gt s 8 = .int .i64 (k43 : Int) ∧ gt s 29 = .int .i64 (x31.length : Int) ∧ gt s 30 = .int .i64 (k43 : Int) ∧ gt s 33 = v_1 ∧ gt s 34 = .int .i64 (list.length : Int) ∧ gt s 35 = .int .i64 0 ∧ H = H') (by simp only [↓runs, isCall, ↓reduceIte, ↓gd_true, ↓gd_false, evs, AV.cells, Nat.reduceEqDiff, Nat.reduceLT, reduceCtorEq, Nat.reduceAdd, sy, f53, g1, g7, g8, g29, g30, hl]) ?_;rintro s _ ⟨hl, g1, g7, g8, g29, g30, g33, g34, g35, rfl⟩;refine wpo_nil (then_n ?_);obtain ⟨z60, e61, hy45⟩ := bn hy45;refine rangeS_ref hp0 55 list.length (fun k x => P_subdirect_Embed_l54 k43 list k x) (fun _ x s H' => ∃ (W' : AH) (qo1 : Frag), s.length = 55 ∧ gt s 1 = v_1 ∧ gt s 7 = v33 ∧ gt s 8 = .int .i64 (k43 : Int) ∧ gt s 29 = .int .i64 (x31.length : Int) ∧ gt s 30 = .int .i64 (k43 : Int) ∧ gt s 33 = v_1 ∧  Wle W W' ∧ St (qo1 :: G) W' H' ∧ OwD W' v33 qo1 (x : List (List Int))) e61 (fz_big h_1) rfl ?_ ?_ hl g35 g34 ?_ ?_
    ·intro k x s H d v hd h; rcases hd with rfl | rfl | rfl <;> simpa only [gt_other, pt_length, Nat.reduceEqDiff, not_false_eq_true] using h
    ·exact ⟨W, _, hl, g1, g7, g8, g29, g30, g33, .refl _, hst, o52⟩
    ·intro k56 x55 y57 s H hk hI hl g35 g34 hy58;change P_subdirect_Embed_l54 k43 list k56 x55 = some y57 at hy58;unfold P_subdirect_Embed_l54 at hy58;obtain ⟨W, fg64, hl, g1, g7, g8, g29, g30, g33, w63, hst, o65⟩ := hI;replace h_1 := Rp.mono w63 h_1;refine AM.wp_seq hp0 (AM.wp_reg hp0 ?_);obtain ⟨x66, e67, hy58⟩ := bn hy58;obtain ⟨p68, y69, f70, f71, h72⟩ := fz_at (k := .i64) hst h_1 e67 rfl;refine wpo_seg hp0 3 (fun s H' => s.length = 55 ∧ gt s 1 = v_1 ∧ gt s 7 = v33 ∧ gt s 8 = .int .i64 (k43 : Int) ∧ gt s 10 = y69 ∧ gt s 29 = .int .i64 (x31.length : Int) ∧ gt s 30 = .int .i64 (k43 : Int) ∧ gt s 33 = v_1 ∧ gt s 34 = .int .i64 (list.length : Int) ∧ gt s 35 = .int .i64 (k56 : Int) ∧ H = H') (by simp only [↓runs, isCall, ↓reduceIte, ↓gd_true, ↓gd_false, evs, AV.cells, Nat.reduceEqDiff, Nat.reduceLT, reduceCtorEq, Nat.reduceAdd, sy, f70, f71, g1, g7, g8, g29, g30, g33, g34, g35, hl]) ?_;rintro s _ ⟨hl, g1, g7, g8, g10, g29, g30, g33, g34, g35, rfl⟩;refine wpo_nil (then_n ?_);refine AM.wp_reg hp0 ?_;obtain ⟨x73, e74, hy58⟩ := bn hy58;obtain ⟨p75, v76, fg77, fg78, f79, f80, hst, o81, o82⟩ := od_open (k := .i64) hst o65 e74;obtain ⟨x83, e84, hy58⟩ := bn hy58;obtain ⟨p85, _, f87, f88, rfl⟩ := fz_at (k := .i64) hst h72 e84 rfl;obtain ⟨v90, l91, H92, fg93, W, f95, f96, f97, w94, hst, o98⟩ := ow_lit' (n := 1) (k := 1) (z := [.int .i64 0]) (ys := [.int .i64 x83]) (M := ([x83] : List (Int))) [(0, 1, .int .i64 x83)] rfl rfl hst (sc_cons (show Rp.rv _ (.int .i64 x83) (x83 : Int) from rfl) (sc_nil)) ((List.forall_mem_cons.2 ⟨rfl, fun _ h => (List.not_mem_nil h).elim⟩)) rfl rfl rfl (by decide);replace h_1 := Rp.mono w94 h_1;replace h72 := Rp.mono w94 h72;replace o82 := o82.mono w94;replace o81 := o81.mono w94;obtain ⟨c99, sn100⟩ := ow_sn hst (.head _) o98;obtain ⟨x101, e102, hy58⟩ := bn hy58;replace hst := hst.p1;obtain ⟨v103, H104, fg105, W, f107, w106, hst, o108⟩ := ow_apps [.int .i64 0] rfl hst o81 sn100 e102;replace h_1 := Rp.mono w106 h_1;replace h72 := Rp.mono w106 h72;replace o82 := o82.mono w106;replace o98 := o98.mono w106;replace hst := hst.p2;replace hst := hst.p1;obtain ⟨p109, H110, fg111, f112, f113, hst, o114⟩ := od_put (k := .i64) hst o108 o82 (gi_nn e74);obtain rfl := Option.some.inj (f112.symm.trans f79);refine wpo_seg hp0 14 (fun s H' => s.length = 55 ∧ gt s 1 = v_1 ∧ gt s 7 = v33 ∧ gt s 8 = .int .i64 (k43 : Int) ∧ gt s 29 = .int .i64 (x31.length : Int) ∧ gt s 30 = .int .i64 (k43 : Int) ∧ gt s 33 = v_1 ∧ gt s 34 = .int .i64 (list.length : Int) ∧ gt s 35 = .int .i64 (k56 : Int) ∧ H110 = H') (by simp (maxSteps := 1000000) only [↓runs, isCall, ↓reduceIte, ↓gd_true, ↓gd_false, evs, AV.cells, Nat.reduceEqDiff, Nat.reduceLT, reduceCtorEq, Nat.reduceAdd, sy, f79, f80, f87, f88, f95, f96, f97, f107, f112, f113, g1, g7, g8, g10, g29, g30, g33, g34, g35, hl]) ?_;rintro s _ ⟨hl, g1, g7, g8, g29, g30, g33, g34, g35, rfl⟩;refine wpo_nil ?_;refine rnd_n ?_;obtain rfl := Option.some.inj hy58;replace hst := hst.p1;replace hst := hst.drop;exact ⟨hl, g35, g34, ⟨W, _, hl, g1, g7, g8, g29, g30, g33, ((w63.trans w94).trans w106), hst, o114⟩⟩
    ·rintro s H hI _;obtain ⟨W, fg116, hl, g1, g7, g8, g29, g30, g33, w115, hst, o117⟩ := hI;replace h_1 := Rp.mono w115 h_1;refine rnd_n ?_;obtain rfl := Option.some.inj hy45;exact ⟨hl, g30, g29, ⟨W, _, hl, g1, g7, (w50.trans w115), hst, o117⟩⟩
   ·rintro s H hI _;obtain ⟨W, fg119, hl, g1, g7, w118, hst, o120⟩ := hI;replace h_1 := Rp.mono w118 h_1;refine then_n ?_;refine AM.wp_seq hp0 (AM.wp_reg hp0 ?_);refine wpo_seg hp0 2 (fun s H' => s.length = 55 ∧ gt s 4 = v33 ∧ H = H') (by simp only [↓runs, isCall, ↓reduceIte, ↓gd_true, ↓gd_false, evs, AV.cells, Nat.reduceEqDiff, Nat.reduceLT, reduceCtorEq, Nat.reduceAdd, sy, g1, g7, hl]) ?_;rintro s _ ⟨hl, g4, rfl⟩;refine wpo_nil (then_n ?_);refine AM.wp_ret ?_;obtain ⟨W, w122, hst, h121⟩ := od_frz hst o120;obtain rfl := Option.some.inj hp;refine body_ret (vs := [v33]) (by simp only [rvs, f_subdirect_Embed, Option.map_some, g4]) ?_;exact ⟨W, ((((w4.trans w29).trans w36).trans w118).trans w122), hst, h121⟩

end Go.Proofs.Ytmdpejgnkoneoaa.Pu
