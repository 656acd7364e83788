/- Part 13 of the proof that the law SubdirectDecomposes holds: words and lemmas it rests on. No condition. -/
import Derived.Test.YtmdpejgnkoneoaaD5
import Derived.Test.YtmdpejgnkoneoaaD7
import Derived.Test.YtmdpejgnkoneoaaD12
import Derived.Test.YtmdpejgnkoneoaaD6
import Derived.Test.YtmdpejgnkoneoaaD11
set_option linter.unusedSimpArgs false
set_option linter.unusedVariables false
set_option linter.unnecessarySimpa false
set_option linter.unusedSectionVars false
set_option maxRecDepth 100000
set_option maxHeartbeats 4000000
namespace Go.Proofs.Ytmdpejgnkoneoaa.Pu
open Go Go.AM Go.Proofs.Ytmdpejgnkoneoaa.Code

noncomputable def P_subdirect_Decompose_l50 (r22 : (List Int)) (t : List (List Int)) (k52 : Nat) (list58 : List (List Int)) (x59 : List (Int × Int)) : Option (Lp ((List (List Int)) × (List (Int × Int))) (Empty)) :=
 Option.bind (gi r22 (k52 : Int)) fun x66 =>
 if (mget x59 x66).isSome then
  Option.bind (P_subdirect_apart t ((mget x59 x66).getD 0) (k52 : Int)) fun r78 =>
  Option.bind (pus 24 list58 [r78]) fun x97 =>
  some (.br (x97, x59))
 else
  some (.go (list58, mput x59 x66 (k52 : Int)))
noncomputable def P_subdirect_Decompose_l7 (t : List (List Int)) (x9 : List (List Int)) : Option (Lp ((List (List Int))) (Empty)) :=
 Option.bind (P_subdirect_meet (t.length : Int) x9 (-1)) fun r22 =>
 Option.bind (P_subdirect_discrete r22) fun r32 =>
 if r32 then
  some (.br x9)
 else
  Option.bind (forR r22.length (fun k x => P_subdirect_Decompose_l50 r22 t k x.1 x.2) (x9, [])) fun z56 =>
  match z56 with
  | .inl x109 =>
   some (.go x109.1)
  | .inr b => b.elim
noncomputable def P_subdirect_Decompose_l121 (t : List (List Int)) (list129 : List (List Int)) (i130 : Int) : Option (Lp ((List (List Int)) × Int) (Empty)) :=
 if decide (i130 < (list129.length : Int)) then
  Option.bind (P_subdirect_meet (t.length : Int) list129 i130) fun r139 =>
  Option.bind (P_subdirect_discrete r139) fun r151 =>
  if r151 then
   Option.bind (sub list129 none (some i130)) fun x167 =>
   Option.bind (pus 24 [] x167) fun x174 =>
   Option.bind (sub list129 (some (w64 (i130 + 1))) none) fun x182 =>
   Option.bind (pus 24 x174 x182) fun x189 =>
   some (.go (x189, i130))
  else
   some (.go (list129, w64 (i130 + 1)))
 else
  some (.br (list129, i130))
noncomputable def P_subdirect_Decompose (t : List (List Int)) : Option ((List (List Int)) × Int) :=
 Option.bind (P_mult_Validate t) fun r1 =>
 if !decide (r1 = 0) then
  some ([], r1)
 else
  Option.bind (loopO (fun x => P_subdirect_Decompose_l7 t x) []) fun z14 =>
  match z14 with
  | .inl x116 =>
   Option.bind (loopO (fun x => P_subdirect_Decompose_l121 t x.1 x.2) (x116, 0)) fun z127 =>
   match z127 with
   | .inl x197 =>
    some (x197.1, 0)
   | .inr b => b.elim
  | .inr b => b.elim
theorem R_subdirect_Decompose {G : List Frag} {W H : AH} {v_0 : AV} {t : List (List Int)} (hst : St G W H) (h_0 : Rp.rv W v_0 t) {r : (List (List Int)) × Int} (hp : P_subdirect_Decompose t = some r) :
  wpc E0 N_subdirect_Decompose [v_0] H fun rv H' => ∃ W', Wle W W' ∧ ∃ (v0 : AV), ∃ (g0 : Frag), St (g0 :: G) W' H' ∧ rv = .tup [v0, .int .i64 r.2] ∧ OwS W' v0 g0 (r.1 : List (List Int)) := by
 refine enterN (F := f_subdirect_Decompose) rfl (Nat.le_of_ble_eq_true rfl) fun s hl hg => ?_
 replace hl : s.length = 73 := hl
 have g0 : gt s 0 = v_0 := hg 0 (Nat.le_of_ble_eq_true rfl)
 clear hg
 unfold P_subdirect_Decompose at hp
 show wp E0 c_subdirect_Decompose s H _
 unfold c_subdirect_Decompose
 refine AM.wp_seq hp0 (AM.wp_reg hp0 ?_)
 refine wpo_seg hp0 2 (fun s H' => s.length = 73 ∧ gt s 0 = v_0 ∧ H = H') (by simp only [↓runs, isCall, ↓reduceIte, ↓gd_true, ↓gd_false, evs, AV.cells, Nat.reduceEqDiff, Nat.reduceLT, reduceCtorEq, Nat.reduceAdd, sy, g0, hl]) ?_
 rintro s _ ⟨hl, g0, rfl⟩
 refine wpo_nil (then_n ?_)
 refine AM.wp_seq hp0 (AM.wp_seq hp0 (AM.wp_reg hp0 ?_))
 refine wpo_seg hp0 1 (fun s H' => s.length = 73 ∧ gt s 0 = v_0 ∧ gt s 13 = v_0 ∧ H = H') (by simp only [↓runs, isCall, ↓reduceIte, ↓gd_true, ↓gd_false, evs, AV.cells, Nat.reduceEqDiff, Nat.reduceLT, reduceCtorEq, Nat.reduceAdd, sy, g0, hl]) ?_
 rintro s _ ⟨hl, g0, g13, rfl⟩
 obtain ⟨r1, e2, hp⟩ := bn hp
 refine wpo_callK hp0 rfl (ys := [v_0]) (by simp only [evs, List.map_cons, List.map_nil, ev_t, ev_c, g13]) (R_mult_Validate hst h_0 e2) ?_
 rintro rv3 H ⟨W, w4, hst, rfl⟩
 replace h_0 := Rp.mono w4 h_0
 refine wpo_seg hp0 1 (fun s H' => s.length = 73 ∧ gt s 0 = v_0 ∧ gt s 4 = .int .i64 r1 ∧ H = H') (by simp only [↓runs, isCall, ↓reduceIte, ↓gd_true, ↓gd_false, evs, AV.cells, Nat.reduceEqDiff, Nat.reduceLT, reduceCtorEq, Nat.reduceAdd, sy, gt_other, g0, g13, hl]) ?_
 rintro s _ ⟨hl, g0, g4, rfl⟩
 refine wpo_nil (then_n ?_)
 refine AM.wp_seq hp0 (AM.wp_reg hp0 ?_)
 refine wpo_seg hp0 2 (fun s H' => s.length = 73 ∧ gt s 0 = v_0 ∧ gt s 4 = .int .i64 r1 ∧ gt s 16 = .bool (!decide (r1 = 0)) ∧ H = H') (by simp only [↓runs, isCall, ↓reduceIte, ↓gd_true, ↓gd_false, evs, AV.cells, Nat.reduceEqDiff, Nat.reduceLT, reduceCtorEq, Nat.reduceAdd, sy, g0, g4, hl]) ?_
 rintro s _ ⟨hl, g0, g4, g16, rfl⟩
 refine wpo_nil (then_n ?_)
 rcases Bool.eq_false_or_eq_true (!decide (r1 = 0)) with c5 | c5
 ·replace hp := ifT c5 hp
  refine AM.wp_condT (by simp only [ev_t, ev_c, g16, c5]) ?_
  refine AM.wp_seq hp0 (AM.wp_reg hp0 ?_)
  refine wpo_seg hp0 3 (fun s H' => s.length = 73 ∧ gt s 2 = .nils ∧ gt s 3 = .int .i64 r1 ∧ H = H') (by simp only [↓runs, isCall, ↓reduceIte, ↓gd_true, ↓gd_false, evs, AV.cells, Nat.reduceEqDiff, Nat.reduceLT, reduceCtorEq, Nat.reduceAdd, sy, g0, g4, g16, hl]) ?_
  rintro s _ ⟨hl, g2, g3, rfl⟩
  refine wpo_nil (then_n ?_)
  refine AM.wp_ret ?_
  refine then_r ?_
  replace hst := hst.nil
  have o6 := ow_nil (α := List Int) W
  obtain rfl := Option.some.inj hp
  refine body_ret (vs := [.nils, .int .i64 r1]) (by simp only [rvs, f_subdirect_Decompose, Option.map_some, g2, g3]) ?_
  exact ⟨W, w4, _, _, hst, rfl, o6⟩
 ·replace hp := ifF c5 hp
  refine AM.wp_condF (by simp only [ev_t, ev_c, g16, c5]) ?_
  refine AM.wp_skip ?_
  refine then_n ?_
  refine AM.wp_seq hp0 (AM.wp_reg hp0 ?_)
  refine wpo_seg hp0 1 (fun s H' => s.length = 73 ∧ gt s 0 = v_0 ∧ gt s 5 = .nils ∧ H = H') (by simp only [↓runs, isCall, ↓reduceIte, ↓gd_true, ↓gd_false, evs, AV.cells, Nat.reduceEqDiff, Nat.reduceLT, reduceCtorEq, Nat.reduceAdd, sy, g0, g4, g16, hl]) ?_
  rintro s _ ⟨hl, g0, g5, rfl⟩
  refine wpo_nil (then_n ?_)
  refine AM.wp_seq hp0 ?_
  replace hst := hst.nil
  have o8 := ow_nil (α := List Int) W
  obtain ⟨z14, e15, hp⟩ := bn hp
  refine loop_ref hp0 (fun x => P_subdirect_Decompose_l7 t x) (fun x s H' => ∃ (W' : AH) (w5 : AV) (q5 : Frag), s.length = 73 ∧ gt s 5 = w5 ∧ gt s 0 = v_0 ∧  Wle W W' ∧ St (q5 :: G) W' H' ∧ OwS W' w5 q5 (x : List (List Int))) (fun x s H' => ∃ (W' : AH) (w5 : AV) (q5 : Frag), s.length = 73 ∧ gt s 5 = w5 ∧ gt s 0 = v_0 ∧  Wle W W' ∧ St (q5 :: G) W' H' ∧ OwS W' w5 q5 (x : List (List Int))) e15 ?_ ?_ ?_
  ·exact ⟨W, _, _, hl, g5, g0, .refl _, hst, o8⟩
  ·intro x9 y11 s H hI hy12 hx13
   change P_subdirect_Decompose_l7 t x9 = some y11 at hy12
   unfold P_subdirect_Decompose_l7 at hy12
   obtain ⟨W, v18, fg19, hl, g5, g0, w17, hst, o20⟩ := hI
   replace h_0 := Rp.mono w17 h_0
   refine AM.wp_block ?_
   refine AM.wp_seq hp0 (AM.wp_reg hp0 ?_)
   have f21 := fz_ln h_0
   refine wpo_seg hp0 3 (fun s H' => s.length = 73 ∧ gt s 0 = v_0 ∧ gt s 5 = v18 ∧ gt s 19 = .int .i64 (t.length : Int) ∧ gt s 20 = v18 ∧ H = H') (by simp only [↓runs, isCall, ↓reduceIte, ↓gd_true, ↓gd_false, evs, AV.cells, Nat.reduceEqDiff, Nat.reduceLT, reduceCtorEq, Nat.reduceAdd, sy, f21, g0, g5, hl]) ?_
   rintro s _ ⟨hl, g0, g5, g19, g20, rfl⟩
   obtain ⟨r22, e23, hy12⟩ := bn hy12
   obtain ⟨W, w24, hst, h25, k26⟩ := ow_lend hst o20
   refine wpo_callK hp0 rfl (ys := [.int .i64 (t.length : Int), v18, .int .i64 (-1)]) (by simp only [evs, List.map_cons, List.map_nil, ev_t, ev_c, g19, g20]) (R_subdirect_meet hst h25 e23) ?_
   rintro rv27 H ⟨W, w28, fg29, hst, o30⟩
   obtain ⟨W, w31, hst, o20⟩ := k26 _ _ _ w28 hst
   replace o30 : OwS W _ _ _ := o30.flat
   replace h_0 := Rp.mono w31 h_0
   refine wpo_seg hp0 1 (fun s H' => s.length = 73 ∧ gt s 0 = v_0 ∧ gt s 5 = v18 ∧ gt s 6 = rv27 ∧ H = H') (by simp only [↓runs, isCall, ↓reduceIte, ↓gd_true, ↓gd_false, evs, AV.cells, Nat.reduceEqDiff, Nat.reduceLT, reduceCtorEq, Nat.reduceAdd, sy, gt_other, g0, g5, g19, g20, hl]) ?_
   rintro s _ ⟨hl, g0, g5, g6, rfl⟩
   refine wpo_nil (then_n ?_)
   refine AM.wp_seq hp0 (AM.wp_seq hp0 (AM.wp_reg hp0 ?_))
   refine wpo_seg hp0 1 (fun s H' => s.length = 73 ∧ gt s 0 = v_0 ∧ gt s 5 = v18 ∧ gt s 6 = rv27 ∧ gt s 22 = rv27 ∧ H = H') (by simp only [↓runs, isCall, ↓reduceIte, ↓gd_true, ↓gd_false, evs, AV.cells, Nat.reduceEqDiff, Nat.reduceLT, reduceCtorEq, Nat.reduceAdd, sy, g0, g5, g6, hl]) ?_
   rintro s _ ⟨hl, g0, g5, g6, g22, rfl⟩
   obtain ⟨r32, e33, hy12⟩ := bn hy12
   replace hst := hst.p1
   obtain ⟨W, w34, hst, h35, k36⟩ := ow_lend hst o30
   refine wpo_callK hp0 rfl (ys := [rv27]) (by simp only [evs, List.map_cons, List.map_nil, ev_t, ev_c, g22]) (R_subdirect_discrete hst h35 e33) ?_
   rintro rv37 H ⟨W, w38, hst, rfl⟩
   obtain ⟨W, w39, hst, o30⟩ := k36 _ _ _ w38 hst
   replace h_0 := Rp.mono w39 h_0
   replace o20 := o20.mono w39
   refine wpo_seg hp0 0 (fun s H' => s.length = 73 ∧ gt s 0 = v_0 ∧ gt s 5 = v18 ∧ gt s 6 = rv27 ∧ gt s 23 = .bool r32 ∧ H = H') (by simp only [↓runs, isCall, ↓reduceIte, ↓gd_true, ↓gd_false, evs, AV.cells, Nat.reduceEqDiff, Nat.reduceLT, reduceCtorEq, Nat.reduceAdd, sy, gt_other, g0, g5, g6, g22, hl]) ?_
   rintro s _ ⟨hl, g0, g5, g6, g23, rfl⟩
   refine wpo_nil (then_n ?_)
   rcases Bool.eq_false_or_eq_true (r32) with c40 | c40
   ·replace hy12 := ifT c40 hy12
    refine AM.wp_condT (by simp only [ev_t, ev_c, g23, c40]) ?_
    refine AM.wp_exit ?_
    refine then_x ?_
    refine blk_o (by decide) ?_
    refine then_x (rnd_c rfl ?_)
    obtain rfl := Option.some.inj hy12
    replace hst := hst.drop
    exact ⟨_, rfl, ⟨W, _, _, hl, g5, g0, ((w17.trans w31).trans w39), hst, o20⟩⟩
   ·replace hy12 := ifF c40 hy12
    refine AM.wp_condF (by simp only [ev_t, ev_c, g23, c40]) ?_
    refine AM.wp_skip ?_
    refine then_n ?_
    refine AM.wp_seq hp0 (AM.wp_reg hp0 ?_)
    obtain ⟨v41, H42, fg43, W, f45, f46, w44, hst, o47⟩ := om_new' Int Int hst
    replace h_0 := Rp.mono w44 h_0
    replace o20 := o20.mono w44
    replace o30 := o30.mono w44
    refine wpo_seg hp0 2 (fun s H' => s.length = 73 ∧ gt s 0 = v_0 ∧ gt s 5 = v18 ∧ gt s 6 = rv27 ∧ gt s 7 = v41 ∧ H42 = H') (by simp only [↓runs, isCall, ↓reduceIte, ↓gd_true, ↓gd_false, evs, AV.cells, Nat.reduceEqDiff, Nat.reduceLT, reduceCtorEq, Nat.reduceAdd, sy, f45, f46, g0, g5, g6, g23, hl]) ?_
    rintro s _ ⟨hl, g0, g5, g6, g7, rfl⟩
    refine wpo_nil (then_n ?_)
    refine AM.wp_seq hp0 (AM.wp_reg hp0 ?_)
    have f48 := ow_ln o30
    have b49 := ow_big o30
    refine wpo_seg hp0 3 (fun s H' => s.length = 73 ∧ gt s 0 = v_0 ∧ gt s 5 = v18 ∧ gt s 7 = v41 ∧ gt s 25 = rv27 ∧ gt s 26 = .int .i64 (r22.length : Int) ∧ gt s 27 = .int .i64 0 ∧ H42 = H') (by simp only [↓runs, isCall, ↓reduceIte, ↓gd_true, ↓gd_false, evs, AV.cells, Nat.reduceEqDiff, Nat.reduceLT, reduceCtorEq, Nat.reduceAdd, sy, f48, g0, g5, g6, g7, hl]) ?_
    rintro s _ ⟨hl, g0, g5, g7, g25, g26, g27, rfl⟩
    refine wpo_nil (then_n ?_)
    obtain ⟨z56, e57, hy12⟩ := bn hy12
    refine range_ref hp0 73 r22.length (fun k x => P_subdirect_Decompose_l50 r22 t k x.1 x.2) (fun _ x s H' => ∃ (W' : AH) (w5 : AV) (q5 : Frag) (qo5 : Frag), s.length = 73 ∧ gt s 5 = w5 ∧ gt s 0 = v_0 ∧ gt s 7 = v41 ∧ gt s 25 = rv27 ∧  Wle W W' ∧ St (q5 :: qo5 :: fg29 :: G) W' H' ∧ OwS W' w5 q5 (x.1 : List (List Int)) ∧ OwM W' v41 qo5 (x.2 : List (Int × Int))) (fun _ x s H' => ∃ (W' : AH) (w5 : AV) (q5 : Frag) (qo5 : Frag), s.length = 73 ∧ gt s 5 = w5 ∧ gt s 0 = v_0 ∧  Wle W W' ∧ St (q5 :: qo5 :: fg29 :: G) W' H' ∧ OwS W' w5 q5 (x.1 : List (List Int)) ∧ OwM W' v41 qo5 (x.2 : List (Int × Int))) e57 (b49) rfl ?_ ?_ hl g27 g26 ?_ ?_
    ·intro k x s H d v hd h; rcases hd with rfl | rfl | rfl <;> simpa only [gt_other, pt_length, Nat.reduceEqDiff, not_false_eq_true] using h
    ·replace hst := hst.p1
     replace hst := hst.p1
     replace hst := hst.p2
     exact ⟨W, _, _, _, hl, g5, g0, g7, g25, .refl _, hst, o20, o47⟩
    ·intro k52 x51 y53 s H hk hI hl g27 g26 hy54 hx55
     obtain ⟨list58, x59⟩ := x51
     dsimp only at hI
     change P_subdirect_Decompose_l50 r22 t k52 list58 x59 = some y53 at hy54
     unfold P_subdirect_Decompose_l50 at hy54
     obtain ⟨W, v61, fg62, fg64, hl, g5, g0, g7, g25, w60, hst, o63, o65⟩ := hI
     replace h_0 := Rp.mono w60 h_0
     replace o30 := o30.mono w60
     refine AM.wp_seq hp0 (AM.wp_reg hp0 ?_)
     obtain ⟨x66, e67, hy54⟩ := bn hy54
     obtain ⟨p68, _, f70, f71, rfl⟩ := ow_at (k := .i64) hst (.tail _ (.tail _ (.head _))) o30 e67 rfl
     refine wpo_seg hp0 5 (fun s H' => s.length = 73 ∧ gt s 0 = v_0 ∧ gt s 5 = v61 ∧ gt s 7 = v41 ∧ gt s 8 = .int .i64 (k52 : Int) ∧ gt s 9 = .int .i64 x66 ∧ gt s 25 = rv27 ∧ gt s 26 = .int .i64 (r22.length : Int) ∧ gt s 27 = .int .i64 (k52 : Int) ∧ H = H') (by simp only [↓runs, isCall, ↓reduceIte, ↓gd_true, ↓gd_false, evs, AV.cells, Nat.reduceEqDiff, Nat.reduceLT, reduceCtorEq, Nat.reduceAdd, sy, f70, f71, g0, g5, g7, g25, g26, g27, hl]) ?_
     rintro s _ ⟨hl, g0, g5, g7, g8, g9, g25, g26, g27, rfl⟩
     refine wpo_nil (then_n ?_)
     refine AM.wp_seq hp0 (AM.wp_seq hp0 (AM.wp_reg hp0 ?_))
     obtain ⟨y73, f74, f75, h76⟩ := om_look (kk := .int) hst (.tail _ (.head _)) o65 (show (.int .i64 x66 : AV) = Ky.enc (x66 : Int) from rfl) rfl (show Rp.rv _ (.int .i64 0) (0 : Int) from rfl)
     obtain rfl : y73 = .int .i64 ((mget x59 x66).getD 0) := h76
     refine wpo_seg hp0 8 (fun s H' => s.length = 73 ∧ gt s 0 = v_0 ∧ gt s 5 = v61 ∧ gt s 7 = v41 ∧ gt s 8 = .int .i64 (k52 : Int) ∧ gt s 9 = .int .i64 x66 ∧ gt s 10 = .int .i64 ((mget x59 x66).getD 0) ∧ gt s 11 = .bool ((mget x59 x66).isSome) ∧ gt s 25 = rv27 ∧ gt s 26 = .int .i64 (r22.length : Int) ∧ gt s 27 = .int .i64 (k52 : Int) ∧ H = H') (by simp only [↓runs, isCall, ↓reduceIte, ↓gd_true, ↓gd_false, evs, AV.cells, Nat.reduceEqDiff, Nat.reduceLT, reduceCtorEq, Nat.reduceAdd, sy, f74, f75, g0, g5, g7, g8, g9, g25, g26, g27, hl]) ?_
     rintro s _ ⟨hl, g0, g5, g7, g8, g9, g10, g11, g25, g26, g27, rfl⟩
     refine wpo_nil (then_n ?_)
     refine AM.wp_seq hp0 (AM.wp_reg hp0 ?_)
     refine wpo_seg hp0 1 (fun s H' => s.length = 73 ∧ gt s 0 = v_0 ∧ gt s 5 = v61 ∧ gt s 7 = v41 ∧ gt s 8 = .int .i64 (k52 : Int) ∧ gt s 9 = .int .i64 x66 ∧ gt s 10 = .int .i64 ((mget x59 x66).getD 0) ∧ gt s 25 = rv27 ∧ gt s 26 = .int .i64 (r22.length : Int) ∧ gt s 27 = .int .i64 (k52 : Int) ∧ gt s 38 = .bool ((mget x59 x66).isSome) ∧ H = H') (by simp only [↓runs, isCall, ↓reduceIte, ↓gd_true, ↓gd_false, evs, AV.cells, Nat.reduceEqDiff, Nat.reduceLT, reduceCtorEq, Nat.reduceAdd, sy, g0, g5, g7, g8, g9, g10, g11, g25, g26, g27, hl]) ?_
     rintro s _ ⟨hl, g0, g5, g7, g8, g9, g10, g25, g26, g27, g38, rfl⟩
     refine wpo_nil (then_n ?_)
     rcases Bool.eq_false_or_eq_true ((mget x59 x66).isSome) with c77 | c77
     ·replace hy54 := ifT c77 hy54
      refine AM.wp_condT (by simp only [ev_t, ev_c, g38, c77]) ?_
      refine AM.wp_seq hp0 (AM.wp_reg hp0 ?_)
      refine wpo_seg hp0 4 (fun s H' => s.length = 73 ∧ gt s 0 = v_0 ∧ gt s 5 = v61 ∧ gt s 39 = v61 ∧ gt s 40 = v_0 ∧ gt s 41 = .int .i64 ((mget x59 x66).getD 0) ∧ gt s 42 = .int .i64 (k52 : Int) ∧ H = H') (by simp only [↓runs, isCall, ↓reduceIte, ↓gd_true, ↓gd_false, evs, AV.cells, Nat.reduceEqDiff, Nat.reduceLT, reduceCtorEq, Nat.reduceAdd, sy, g0, g5, g7, g8, g9, g10, g25, g26, g27, g38, hl]) ?_
      rintro s _ ⟨hl, g0, g5, g39, g40, g41, g42, rfl⟩
      obtain ⟨r78, e79, hy54⟩ := bn hy54
      refine wpo_callK hp0 rfl (ys := [v_0, .int .i64 ((mget x59 x66).getD 0), .int .i64 (k52 : Int)]) (by simp only [evs, List.map_cons, List.map_nil, ev_t, ev_c, g40, g41, g42]) (R_subdirect_apart hst h_0 e79) ?_
      rintro rv80 H ⟨W, w81, fg82, hst, o83⟩
      replace h_0 := Rp.mono w81 h_0
      replace o30 := o30.mono w81
      replace o65 := o65.mono w81
      replace o63 := o63.mono w81
      obtain ⟨W, w85, hst, h84⟩ := ow_frz hst o83
      replace h_0 := Rp.mono w85 h_0
      replace o30 := o30.mono w85
      replace o65 := o65.mono w85
      replace o63 := o63.mono w85
      obtain ⟨v86, l87, H88, fg89, W, f91, f92, f93, w90, hst, o94⟩ := ow_lit' (n := 1) (k := 1) (z := [.nils]) (ys := [rv80]) (M := ([r78] : List (List Int))) [(0, 1, rv80)] rfl rfl hst (sc_cons (show Rp.rv _ (rv80) (r78 : List Int) from h84) (sc_nil)) ((List.forall_mem_cons.2 ⟨(Rp.cells (show Rp.rv W (rv80) (r78 : List Int) from h84)), fun _ h => (List.not_mem_nil h).elim⟩)) rfl rfl rfl (by decide)
      replace h_0 := Rp.mono w90 h_0
      replace h84 := Rp.mono w90 h84
      replace o30 := o30.mono w90
      replace o65 := o65.mono w90
      replace o63 := o63.mono w90
      obtain ⟨c95, sn96⟩ := ow_sn hst (.head _) o94
      obtain ⟨x97, e98, hy54⟩ := bn hy54
      replace hst := hst.p1
      obtain ⟨v99, H100, fg101, W, f103, w102, hst, o104⟩ := ow_apps [.nils] rfl hst o63 sn96 e98
      replace h_0 := Rp.mono w102 h_0
      replace h84 := Rp.mono w102 h84
      replace o30 := o30.mono w102
      replace o65 := o65.mono w102
      replace o94 := o94.mono w102
      refine wpo_seg hp0 3 (fun s H' => s.length = 73 ∧ gt s 0 = v_0 ∧ gt s 5 = v99 ∧ H100 = H') (by simp only [↓runs, isCall, ↓reduceIte, ↓gd_true, ↓gd_false, evs, AV.cells, Nat.reduceEqDiff, Nat.reduceLT, reduceCtorEq, Nat.reduceAdd, sy, gt_other, f91, f92, f93, f103, g0, g5, g39, g40, g41, g42, hl]) ?_
      rintro s _ ⟨hl, g0, g5, rfl⟩
      refine wpo_nil (then_n ?_)
      refine AM.wp_exit ?_
      refine then_x ?_
      refine rnd_b (by decide) rfl ?_
      obtain rfl := Option.some.inj hy54
      replace hst := hst.p1
      replace hst := hst.drop
      replace hst := hst.p2
      replace hst := hst.p2
      replace hst := hst.p2
      exact ⟨_, rfl, ⟨W, _, _, _, hl, g5, g0, ((((w60.trans w81).trans w85).trans w90).trans w102), hst, o104, o65⟩⟩
     ·replace hy54 := ifF c77 hy54
      refine AM.wp_condF (by simp only [ev_t, ev_c, g38, c77]) ?_
      refine AM.wp_skip ?_
      refine then_n ?_
      refine AM.wp_reg hp0 ?_
      replace hst := hst.p1
      obtain ⟨H105, fg106, f107, hst, o108⟩ := om_put (kk := .int) hst o65 (show (.int .i64 x66 : AV) = Ky.enc (x66 : Int) from rfl) rfl (show Rp.rv _ (.int .i64 (k52 : Int)) ((k52 : Int) : Int) from rfl)
      refine wpo_seg hp0 4 (fun s H' => s.length = 73 ∧ gt s 0 = v_0 ∧ gt s 5 = v61 ∧ gt s 7 = v41 ∧ gt s 25 = rv27 ∧ gt s 26 = .int .i64 (r22.length : Int) ∧ gt s 27 = .int .i64 (k52 : Int) ∧ H105 = H') (by simp only [↓runs, isCall, ↓reduceIte, ↓gd_true, ↓gd_false, evs, AV.cells, Nat.reduceEqDiff, Nat.reduceLT, reduceCtorEq, Nat.reduceAdd, sy, f107, g0, g5, g7, g8, g9, g10, g25, g26, g27, g38, hl]) ?_
      rintro s _ ⟨hl, g0, g5, g7, g25, g26, g27, rfl⟩
      refine wpo_nil ?_
      refine rnd_n ?_
      obtain rfl := Option.some.inj hy54
      replace hst := hst.p2
      replace hst := hst.p1
      replace hst := hst.p2
      exact ⟨_, rfl, hl, g27, g26, ⟨W, _, _, _, hl, g5, g0, g7, g25, w60, hst, o63, o108⟩⟩
    ·rintro x109 s Hn hz hI
     replace hI : (fun s H' => ∃ (W' : AH) (w5 : AV) (q5 : Frag) (qo5 : Frag), s.length = 73 ∧ gt s 5 = w5 ∧ gt s 0 = v_0 ∧  Wle W W' ∧ St (q5 :: qo5 :: fg29 :: G) W' H' ∧ OwS W' w5 q5 (x109.1 : List (List Int)) ∧ OwM W' v41 qo5 (x109.2 : List (Int × Int))) s Hn := by
      rcases hI with ⟨hI, -⟩ | ⟨_, hI⟩
      ·obtain ⟨W2, v5, q5, qq5, hl, g5, g0, g7, g25, w2, hst2, o5, oo5⟩ := hI
       exact ⟨W2, _, _, _, hl, g5, g0, w2, hst2, o5, oo5⟩
      ·exact hI
     obtain ⟨H, rfl⟩ : ∃ K, K = Hn := ⟨_, rfl⟩
     subst hz
     dsimp only at hy12 hI
     obtain ⟨W, v111, fg112, fg114, hl, g5, g0, w110, hst, o113, o115⟩ := hI
     replace h_0 := Rp.mono w110 h_0
     replace o30 := o30.mono w110
     refine blk_n ?_
     refine then_n ?_
     obtain rfl := Option.some.inj hy12
     replace hst := hst.p1
     replace hst := hst.drop
     replace hst := hst.p1
     replace hst := hst.drop
     exact ⟨_, rfl, ⟨W, _, _, hl, g5, g0, ((((w17.trans w31).trans w39).trans w44).trans w110), hst, o113⟩⟩
  ·rintro x116 s H hz hI
   subst hz
   dsimp only at hp hI
   obtain ⟨W, v118, fg119, hl, g5, g0, w117, hst, o120⟩ := hI
   replace h_0 := Rp.mono w117 h_0
   refine then_n ?_
   refine AM.wp_seq hp0 (AM.wp_seq hp0 (AM.wp_reg hp0 ?_))
   refine wpo_seg hp0 1 (fun s H' => s.length = 73 ∧ gt s 0 = v_0 ∧ gt s 5 = v118 ∧ gt s 12 = .int .i64 0 ∧ H = H') (by simp only [↓runs, isCall, ↓reduceIte, ↓gd_true, ↓gd_false, evs, AV.cells, Nat.reduceEqDiff, Nat.reduceLT, reduceCtorEq, Nat.reduceAdd, sy, g0, g5, hl]) ?_
   rintro s _ ⟨hl, g0, g5, g12, rfl⟩
   refine wpo_nil (then_n ?_)
   obtain ⟨z127, e128, hp⟩ := bn hp
   refine loop_ref hp0 (fun x => P_subdirect_Decompose_l121 t x.1 x.2) (fun x s H' => ∃ (W' : AH) (w5 : AV) (q5 : Frag), s.length = 73 ∧ gt s 5 = w5 ∧ gt s 12 = .int .i64 x.2 ∧ gt s 0 = v_0 ∧  Wle W W' ∧ St (q5 :: G) W' H' ∧ OwS W' w5 q5 (x.1 : List (List Int))) (fun x s H' => ∃ (W' : AH) (w5 : AV) (q5 : Frag), s.length = 73 ∧ gt s 5 = w5 ∧  Wle W W' ∧ St (q5 :: G) W' H' ∧ OwS W' w5 q5 (x.1 : List (List Int))) e128 ?_ ?_ ?_
   ·exact ⟨W, _, _, hl, g5, g12, g0, .refl _, hst, o120⟩
   ·intro x122 y124 s H hI hy125 hx126
    obtain ⟨list129, i130⟩ := x122
    dsimp only at hI
    change P_subdirect_Decompose_l121 t list129 i130 = some y124 at hy125
    unfold P_subdirect_Decompose_l121 at hy125
    obtain ⟨W, v132, fg133, hl, g5, g12, g0, w131, hst, o134⟩ := hI
    replace h_0 := Rp.mono w131 h_0
    refine AM.wp_seq hp0 (AM.wp_seq hp0 (AM.wp_reg hp0 ?_))
    have f135 := ow_ln o134
    have b136 := ow_big o134
    refine wpo_seg hp0 4 (fun s H' => s.length = 73 ∧ gt s 0 = v_0 ∧ gt s 5 = v132 ∧ gt s 12 = .int .i64 i130 ∧ gt s 53 = .bool (decide (i130 < (list129.length : Int))) ∧ H = H') (by simp only [↓runs, isCall, ↓reduceIte, ↓gd_true, ↓gd_false, evs, AV.cells, Nat.reduceEqDiff, Nat.reduceLT, reduceCtorEq, Nat.reduceAdd, sy, f135, g0, g5, g12, hl]) ?_
    rintro s _ ⟨hl, g0, g5, g12, g53, rfl⟩
    refine wpo_nil (then_n ?_)
    rcases Bool.eq_false_or_eq_true (decide (i130 < (list129.length : Int))) with c137 | c137
    ·replace hy125 := ifT c137 hy125
     refine AM.wp_condT (by simp only [ev_t, ev_c, g53, c137]) ?_
     refine AM.wp_skip ?_
     refine then_n ?_
     refine AM.wp_block ?_
     refine AM.wp_seq hp0 (AM.wp_reg hp0 ?_)
     have f138 := fz_ln h_0
     refine wpo_seg hp0 4 (fun s H' => s.length = 73 ∧ gt s 0 = v_0 ∧ gt s 5 = v132 ∧ gt s 12 = .int .i64 i130 ∧ gt s 55 = .int .i64 (t.length : Int) ∧ gt s 56 = v132 ∧ gt s 57 = .int .i64 i130 ∧ H = H') (by simp only [↓runs, isCall, ↓reduceIte, ↓gd_true, ↓gd_false, evs, AV.cells, Nat.reduceEqDiff, Nat.reduceLT, reduceCtorEq, Nat.reduceAdd, sy, f138, g0, g5, g12, g53, hl]) ?_
     rintro s _ ⟨hl, g0, g5, g12, g55, g56, g57, rfl⟩
     obtain ⟨r139, e140, hy125⟩ := bn hy125
     obtain ⟨W, w141, hst, h142, k143⟩ := ow_lend hst o134
     refine wpo_callK hp0 rfl (ys := [.int .i64 (t.length : Int), v132, .int .i64 i130]) (by simp only [evs, List.map_cons, List.map_nil, ev_t, ev_c, g55, g56, g57]) (R_subdirect_meet hst h142 e140) ?_
     rintro rv144 H ⟨W, w145, fg146, hst, o147⟩
     obtain ⟨W, w148, hst, o134⟩ := k143 _ _ _ w145 hst
     replace o147 : OwS W _ _ _ := o147.flat
     replace h_0 := Rp.mono w148 h_0
     refine wpo_seg hp0 0 (fun s H' => s.length = 73 ∧ gt s 0 = v_0 ∧ gt s 5 = v132 ∧ gt s 12 = .int .i64 i130 ∧ gt s 58 = rv144 ∧ H = H') (by simp only [↓runs, isCall, ↓reduceIte, ↓gd_true, ↓gd_false, evs, AV.cells, Nat.reduceEqDiff, Nat.reduceLT, reduceCtorEq, Nat.reduceAdd, sy, gt_other, g0, g5, g12, g55, g56, g57, hl]) ?_
     rintro s _ ⟨hl, g0, g5, g12, g58, rfl⟩
     replace hst := hst.p1
     obtain ⟨W, w150, hst, h149⟩ := ow_frz hst o147
     replace h_0 := Rp.mono w150 h_0
     replace o134 := o134.mono w150
     obtain ⟨r151, e152, hy125⟩ := bn hy125
     refine wpo_callK hp0 rfl (ys := [rv144]) (by simp only [evs, List.map_cons, List.map_nil, ev_t, ev_c, g58]) (R_subdirect_discrete hst h149 e152) ?_
     rintro rv153 H ⟨W, w154, hst, rfl⟩
     replace h_0 := Rp.mono w154 h_0
     replace h149 := Rp.mono w154 h149
     replace o134 := o134.mono w154
     refine wpo_seg hp0 0 (fun s H' => s.length = 73 ∧ gt s 0 = v_0 ∧ gt s 5 = v132 ∧ gt s 12 = .int .i64 i130 ∧ gt s 59 = .bool r151 ∧ H = H') (by simp only [↓runs, isCall, ↓reduceIte, ↓gd_true, ↓gd_false, evs, AV.cells, Nat.reduceEqDiff, Nat.reduceLT, reduceCtorEq, Nat.reduceAdd, sy, gt_other, g0, g5, g12, g58, hl]) ?_
     rintro s _ ⟨hl, g0, g5, g12, g59, rfl⟩
     refine wpo_nil (then_n ?_)
     rcases Bool.eq_false_or_eq_true (r151) with c155 | c155
     ·replace hy125 := ifT c155 hy125
      refine AM.wp_condT (by simp only [ev_t, ev_c, g59, c155]) ?_
      refine AM.wp_reg hp0 ?_
      obtain ⟨v156, l157, H158, fg159, W, f161, f162, f163, w160, hst, o164⟩ := ow_lit' (n := 1) (k := 0) (z := []) (ys := []) (M := ([] : List (List Int))) [] rfl rfl hst (sc_nil) ( fun _ h => (List.not_mem_nil h).elim) rfl rfl rfl (by decide)
      replace h_0 := Rp.mono w160 h_0
      replace h149 := Rp.mono w160 h149
      replace o134 := o134.mono w160
      replace hst := hst.p1
      obtain ⟨W, w166, hst, h165⟩ := ow_frz hst o134
      replace h_0 := Rp.mono w166 h_0
      replace h149 := Rp.mono w166 h149
      replace o164 := o164.mono w166
      obtain ⟨x167, e168, hy125⟩ := bn hy125
      obtain ⟨v169, f170, h171⟩ := fz_sub (n := 1) (kl := .i64) (kh := .i64) (lo := none) (hi := (some i130)) rfl h165 e168 (by simp)
      simp only [Option.map_some, Option.map_none] at f170
      obtain ⟨c172, sn173⟩ := fz_sn hst h171
      obtain ⟨x174, e175, hy125⟩ := bn hy125
      obtain ⟨v176, H177, fg178, W, f180, w179, hst, o181⟩ := ow_apps [.nils] rfl hst o164 sn173 e175
      replace h_0 := Rp.mono w179 h_0
      replace h149 := Rp.mono w179 h149
      replace h165 := Rp.mono w179 h165
      replace h171 := Rp.mono w179 h171
      obtain ⟨x182, e183, hy125⟩ := bn hy125
      obtain ⟨v184, f185, h186⟩ := fz_sub (n := 1) (kl := .i64) (kh := .i64) (lo := (some (w64 (i130 + 1)))) (hi := none) rfl h165 e183 (by simp)
      simp only [Option.map_some, Option.map_none] at f185
      obtain ⟨c187, sn188⟩ := fz_sn hst h186
      obtain ⟨x189, e190, hy125⟩ := bn hy125
      obtain ⟨v191, H192, fg193, W, f195, w194, hst, o196⟩ := ow_apps [.nils] rfl hst o181 sn188 e190
      replace h_0 := Rp.mono w194 h_0
      replace h149 := Rp.mono w194 h149
      replace h165 := Rp.mono w194 h165
      replace h171 := Rp.mono w194 h171
      replace h186 := Rp.mono w194 h186
      refine wpo_seg hp0 11 (fun s H' => s.length = 73 ∧ gt s 0 = v_0 ∧ gt s 5 = v191 ∧ gt s 12 = .int .i64 i130 ∧ H192 = H') (by simp only [↓runs, isCall, ↓reduceIte, ↓gd_true, ↓gd_false, evs, AV.cells, Nat.reduceEqDiff, Nat.reduceLT, reduceCtorEq, Nat.reduceAdd, sy, f161, f162, f163, f170, f180, f185, f195, g0, g5, g12, g59, hl]) ?_
      rintro s _ ⟨hl, g0, g5, g12, rfl⟩
      refine wpo_nil ?_
      refine blk_n ?_
      refine then_n ?_
      obtain rfl := Option.some.inj hy125
      exact ⟨_, rfl, ⟨W, _, _, hl, g5, g12, g0, (((((((w131.trans w148).trans w150).trans w154).trans w160).trans w166).trans w179).trans w194), hst, o196⟩⟩
     ·replace hy125 := ifF c155 hy125
      refine AM.wp_condF (by simp only [ev_t, ev_c, g59, c155]) ?_
      refine AM.wp_reg hp0 ?_
      refine wpo_seg hp0 3 (fun s H' => s.length = 73 ∧ gt s 0 = v_0 ∧ gt s 5 = v132 ∧ gt s 12 = .int .i64 (w64 (i130 + 1)) ∧ H = H') (by simp only [↓runs, isCall, ↓reduceIte, ↓gd_true, ↓gd_false, evs, AV.cells, Nat.reduceEqDiff, Nat.reduceLT, reduceCtorEq, Nat.reduceAdd, sy, g0, g5, g12, g59, hl]) ?_
      rintro s _ ⟨hl, g0, g5, g12, rfl⟩
      refine wpo_nil ?_
      refine blk_n ?_
      refine then_n ?_
      obtain rfl := Option.some.inj hy125
      exact ⟨_, rfl, ⟨W, _, _, hl, g5, g12, g0, (((w131.trans w148).trans w150).trans w154), hst, o134⟩⟩
    ·replace hy125 := ifF c137 hy125
     refine AM.wp_condF (by simp only [ev_t, ev_c, g53, c137]) ?_
     refine AM.wp_exit ?_
     refine then_x ?_
     refine then_x (rnd_c rfl ?_)
     obtain rfl := Option.some.inj hy125
     exact ⟨_, rfl, ⟨W, _, _, hl, g5, w131, hst, o134⟩⟩
   ·rintro x197 s H hz hI
    subst hz
    dsimp only at hp hI
    obtain ⟨W, v199, fg200, hl, g5, w198, hst, o201⟩ := hI
    replace h_0 := Rp.mono w198 h_0
    refine then_n ?_
    refine AM.wp_seq hp0 (AM.wp_reg hp0 ?_)
    refine wpo_seg hp0 3 (fun s H' => s.length = 73 ∧ gt s 2 = v199 ∧ gt s 3 = .int .i64 0 ∧ H = H') (by simp only [↓runs, isCall, ↓reduceIte, ↓gd_true, ↓gd_false, evs, AV.cells, Nat.reduceEqDiff, Nat.reduceLT, reduceCtorEq, Nat.reduceAdd, sy, g5, hl]) ?_
    rintro s _ ⟨hl, g2, g3, rfl⟩
    refine wpo_nil (then_n ?_)
    refine AM.wp_ret ?_
    obtain rfl := Option.some.inj hp
    refine body_ret (vs := [v199, .int .i64 0]) (by simp only [rvs, f_subdirect_Decompose, Option.map_some, g2, g3]) ?_
    exact ⟨W, ((w4.trans w117).trans w198), _, _, hst, rfl, o201⟩

end Go.Proofs.Ytmdpejgnkoneoaa.Pu
set_option maxRecDepth 10000
namespace Go.Proofs.Ytmdpejgnkoneoaa.Mt
open Go Go.AM Go.AM.Par Go.AM.Cg Go.AM.Lx Go.Proofs.Ytmdpejgnkoneoaa.Pu

theorem app_l {l : List (List Int)} {p : List Int} {j : Nat} (h : j < l.length) : (l ++ [p]).getD j [] = l.getD j [] := by
  rw [List.getD_eq_getElem?_getD, List.getElem?_append_left h, ← List.getD_eq_getElem?_getD]
theorem app_r (l : List (List Int)) (p : List Int) : (l ++ [p]).getD l.length [] = p := by simp [List.getD_eq_getElem?_getD]
theorem app_len (l : List (List Int)) (p : List Int) : (l ++ [p]).length = l.length + 1 := by simp
theorem inf_app {l : List (List Int)} {p : List Int} {x y : Nat} (h : InfTo (l ++ [p]) (-1) (l ++ [p]).length x y) : InfTo l (-1) l.length x y ∧ p.getD x 0 = p.getD y 0 := by
  rw [app_len] at h
  constructor
  · intro j hj hb
    have := h j (by omega) hb
    rwa [app_l hj] at this
  · have := h l.length (by omega) (by omega)
    rwa [app_r] at this

open Classical in
noncomputable def gap (n : Nat) (l : List (List Int)) : Nat := ((List.range (n * n)).filter fun w => decide (InfTo l (-1) l.length (w / n) (w % n))).length
theorem gap_le (n : Nat) (l : List (List Int)) : gap n l ≤ n * n := Nat.le_trans (List.length_filter_le _ _) (by simp)
open Classical in
theorem gap_app {n : Nat} {l : List (List Int)} {p : List Int} {i k : Nat} (hi : i < n) (hk : k < n) (h : InfTo l (-1) l.length i k) (hp : p.getD i 0 ≠ p.getD k 0) : gap n (l ++ [p]) < gap n l := by
  unfold gap
  have hw1 : (n * i + k) / n = i := by rw [Nat.mul_add_div (by omega), Nat.div_eq_of_lt hk]; omega
  have hw2 : (n * i + k) % n = k := by rw [Nat.mul_add_mod, Nat.mod_eq_of_lt hk]
  refine filter_lt (fun w _ hw => ?_) ⟨n * i + k, ?_, ?_, ?_⟩
  · simp only [decide_eq_true_eq] at hw ⊢
    exact (inf_app hw).1
  · rw [List.mem_range]
    have h1 : n * (i + 1) ≤ n * n := Nat.mul_le_mul_left n (by omega)
    rw [Nat.mul_add] at h1
    omega
  · simp only [decide_eq_true_eq]; rw [hw1, hw2]; exact h
  · simp only [decide_eq_false_iff_not]; rw [hw1, hw2]; exact fun hh => hp (inf_app hh).2

theorem mget_nil {κ ν : Type} [BEq κ] (k : κ) : mget ([] : List (κ × ν)) k = none := rfl

theorem dec_find {t : List (List Int)} {n : Nat} {T : Nat → Nat → Nat} (h : Sg t n T) {l : List (List Int)} (hl : l.length ≤ 160000) {r : List Int} (hr : IsP n (InfTo l (-1) l.length) r) (hd : ¬ Disc n (InfTo l (-1) l.length)) :
    ∃ p i k M, forR r.length (fun k x => P_subdirect_Decompose_l50 r t k x.1 x.2) (l, []) = some (.inl (l ++ [p], M)) ∧ i < n ∧ k < n ∧ InfTo l (-1) l.length i k ∧ p.getD i 0 ≠ p.getD k 0 ∧ Fac n T p := by
  rw [hr.len]
  obtain ⟨o, ho, p, i, k, M, rfl, hQ⟩ := forR_inv (n := n) (f := fun k x => P_subdirect_Decompose_l50 r t k x.1 x.2) (x := (l, []))
    (fun k s => s.1 = l ∧ (∀ v i, mget s.2 v = some i → ∃ j : Nat, i = (j : Int) ∧ j < k ∧ r.getD j 0 = v) ∧ (∀ v, mget s.2 v = none → ∀ j, j < k → r.getD j 0 ≠ v) ∧ ∀ i j, i < j → j < k → r.getD i 0 ≠ r.getD j 0)
    (fun o => ∃ p i k M, o = .inl (l ++ [p], M) ∧ i < n ∧ k < n ∧ InfTo l (-1) l.length i k ∧ p.getD i 0 ≠ p.getD k 0 ∧ Fac n T p)
    ⟨rfl, fun v i e => by simp [mget_nil] at e, fun v _ j hj => by omega, fun i j _ hj => by omega⟩ (by
      rintro k ⟨l2, M⟩ hk ⟨h0, h1, h2, h3⟩
      dsimp only at h0 h1 h2 h3 ⊢
      subst h0
      have hrl := hr.len
      unfold P_subdirect_Decompose_l50
      rw [gi_lt 0 (by omega)]
      simp only [Option.bind_some]
      cases e : mget M (r.getD k 0) with
      | some i' =>
        obtain ⟨i, rfl, hi, hv⟩ := h1 _ _ e
        simp only [Option.isSome_some, if_true, Option.getD_some]
        obtain ⟨p, P, e2, hA⟩ := apart h (a := i) (b := k) (by omega) hk (by omega)
        rw [e2]
        simp only [Option.bind_some]
        rw [pus_ok (by simp only [List.length_cons, List.length_nil]; omega) (by omega)]
        exact .inr (.inl ⟨_, rfl, p, i, k, M, rfl, by omega, hk, (hr.ker i k (by omega) hk).1 hv, hA.ap, hA.fac h (by omega) hk⟩)
      | none =>
        simp only [Option.isSome_none, Bool.false_eq_true, if_false]
        refine .inl ⟨_, rfl, rfl, fun v i e2 => ?_, fun v e2 j hj => ?_, fun i j hij hj => ?_⟩
        · dsimp only at e2
          rw [mget_mput] at e2
          split at e2
          · rename_i hb
            cases e2
            exact ⟨k, rfl, by omega, by simpa using hb⟩
          · obtain ⟨j, a, b, c⟩ := h1 v i e2
            exact ⟨j, a, by omega, c⟩
        · dsimp only at e2
          rw [mget_mput] at e2
          split at e2
          · cases e2
          · rename_i hb
            rcases Nat.lt_or_ge j k with h5 | h5
            · exact h2 v e2 j h5
            · have : j = k := by omega
              subst this
              intro e3
              exact hb (by rw [e3]; simp)
        · rcases Nat.lt_or_ge j k with h5 | h5
          · exact h3 i j hij h5
          · have : j = k := by omega
            subst this
            exact h2 _ e i hij)
    (by
      rintro ⟨l2, M⟩ ⟨h0, h1, h2, h3⟩
      refine absurd (fun x y hx hy e => ?_) hd
      have e2 := (hr.ker x y hx hy).2 e
      rcases Nat.lt_trichotomy x y with h5 | h5 | h5
      · exact absurd e2 (h3 x y h5 hy)
      · exact h5
      · exact absurd e2.symm (h3 y x h5 hx))
  exact ⟨p, i, k, M, ho, hQ⟩

theorem sub_take {α : Type} {L : List α} {i : Nat} (h : i ≤ L.length) : sub L none (some (i : Int)) = some (L.take i) := by
  have e : bd (some (i : Int)) L.length L.length = some i := by
    unfold bd; dsimp only; rw [if_pos ⟨by omega, by omega⟩]; simp
  unfold sub
  rw [e]
  simp [bd]
theorem sub_drop {α : Type} {L : List α} {i : Nat} (h : i ≤ L.length) : sub L (some (i : Int)) none = some (L.drop i) := by
  have e : bd none L.length L.length = some L.length := rfl
  have e2 : bd (some (i : Int)) 0 L.length = some i := by
    unfold bd; dsimp only; rw [if_pos ⟨by omega, by omega⟩]; simp
  unfold sub
  rw [e]
  simp only [Option.bind_some]
  rw [e2]
  simp
def cut (l : List (List Int)) (i : Nat) : List (List Int) := l.take i ++ l.drop (i + 1)
theorem cut_len {l : List (List Int)} {i : Nat} (h : i < l.length) : (cut l i).length = l.length - 1 := by simp [cut]; omega
theorem cut_at {l : List (List Int)} {i : Nat} (h : i < l.length) (j : Nat) : (cut l i).getD j [] = if j < i then l.getD j [] else l.getD (j + 1) [] := by
  unfold cut
  rw [List.getD_eq_getElem?_getD, List.getD_eq_getElem?_getD, List.getD_eq_getElem?_getD]
  by_cases hj : j < i
  · rw [if_pos hj, List.getElem?_append_left (by simp; omega), List.getElem?_take_of_lt hj]
  · have hm : (l.take i).length = i := by simp; omega
    rw [if_neg hj, List.getElem?_append_right (by omega), hm, List.getElem?_drop]
    congr 2; omega
theorem cut_inf {l : List (List Int)} {i x y : Nat} (h : i < l.length) (hh : InfTo (cut l i) (-1) (cut l i).length x y) : InfTo l (i : Int) l.length x y := by
  rw [cut_len h] at hh
  intro j hj hne
  rcases Nat.lt_or_ge j i with h5 | h5
  · have := hh j (by omega) (by omega)
    rwa [cut_at h, if_pos h5] at this
  · have := hh (j - 1) (by omega) (by omega)
    rw [cut_at h, if_neg (by omega)] at this
    have e : j - 1 + 1 = j := by omega
    rwa [e] at this
theorem inf_cut {l : List (List Int)} {i k x y : Nat} (h : i < l.length) (hk : k < i) (hh : InfTo l (k : Int) l.length x y) : InfTo (cut l i) (k : Int) (cut l i).length x y := by
  rw [cut_len h]
  intro j hj hne
  rw [cut_at h]
  split
  · exact hh j (by omega) hne
  · exact hh (j + 1) (by omega) (by omega)
theorem fac_cut {n : Nat} {T : Nat → Nat → Nat} {l : List (List Int)} {i : Nat} (h : i < l.length) (hF : ∀ k, k < l.length → Fac n T (l.getD k [])) : ∀ k, k < (cut l i).length → Fac n T ((cut l i).getD k []) := by
  rw [cut_len h]
  intro k hk
  rw [cut_at h]
  split
  · exact hF k (by omega)
  · exact hF (k + 1) (by omega)

open Classical in
theorem decompose {t : List (List Int)} {n : Nat} {T : Nat → Nat → Nat} (h : Sg t n T) : ∃ l, P_subdirect_Decompose t = some (l, 0) ∧ ChkP n T l ∧ l.length ≤ 160000 := by
  have h400 := h.le
  have hnn : n * n ≤ 160000 := Nat.mul_le_mul (n₂ := 400) (m₂ := 400) h400 h400
  unfold P_subdirect_Decompose
  rw [validate, h.valid]
  simp only [Option.bind_some, Option.bind_none, decide_true, decide_false, Bool.not_true, Bool.not_false, Bool.true_and, Bool.and_true, Bool.false_eq_true, if_true, if_false, not_true_eq_false, not_false_eq_true, ite_true, ite_false, Bool.not_eq_true, decide_eq_true_eq, decide_eq_false_iff_not, Bool.not_eq_true', Bool.not_eq_false', Option.getD_some, Option.getD_none, Option.isSome_some, Option.isSome_none, Option.isNone_some, Option.isNone_none, eq_self, forall_const, true_implies, false_implies, implies_true]
  obtain ⟨o, ho, l, rfl, hF, hD, hlen⟩ := loop_inv (f := fun x => P_subdirect_Decompose_l7 t x) (x := [])
    (fun l => (∀ k, k < l.length → Fac n T (l.getD k [])) ∧ l.length + gap n l ≤ n * n) (fun l => gap n l)
    (fun o => ∃ l, o = .inl l ∧ (∀ k, k < l.length → Fac n T (l.getD k [])) ∧ Disc n (InfTo l (-1) l.length) ∧ l.length ≤ 160000)
    ⟨fun k hk => by simp at hk, by have := gap_le n []; simpa using this⟩ (by
      rintro l ⟨hF, hg⟩
      have hl : ∀ k, k < l.length → (l.getD k []).length = n ∧ validP (l.getD k []) = true := fun k hk => ⟨(hF k hk).1.1, (hF k hk).1.2.1⟩
      obtain ⟨r, e, hr⟩ := smeet (n := n) (by omega) hl (-1)
      unfold P_subdirect_Decompose_l7
      rw [h.len, e]
      simp only [Option.bind_some]
      rw [discrete hr (by omega)]
      simp only [Option.bind_some]
      by_cases hd : Disc n (InfTo l (-1) l.length)
      · rw [decide_eq_true hd]
        exact .inr (.inl ⟨l, rfl, l, rfl, hF, hd, by omega⟩)
      · rw [decide_eq_false hd]
        simp only [Bool.false_eq_true, if_false]
        obtain ⟨p, i, k, M, e2, hi, hk, hik, hp, hFp⟩ := dec_find h (by omega) hr hd
        rw [e2]
        have hlt := gap_app hi hk hik hp
        refine .inl ⟨l ++ [p], rfl, ⟨fun k hk => ?_, by rw [app_len]; omega⟩, hlt⟩
        rw [app_len] at hk
        rcases Nat.lt_or_ge k l.length with h5 | h5
        · rw [app_l h5]; exact hF k h5
        · have : k = l.length := by omega
          subst this
          rw [app_r]; exact hFp)
  rw [ho]
  simp only [Option.bind_some]
  obtain ⟨o, ho, l', i', rfl, hC, hlen'⟩ := loop_inv (f := fun x => P_subdirect_Decompose_l121 t x.1 x.2) (x := (l, (0 : Int)))
    (fun s : List (List Int) × Int => ∃ i : Nat, s.2 = (i : Int) ∧ i ≤ s.1.length ∧ s.1.length ≤ 160000 ∧ (∀ k, k < s.1.length → Fac n T (s.1.getD k [])) ∧ Disc n (InfTo s.1 (-1) s.1.length) ∧ ∀ k : Nat, k < i → ¬ Disc n (InfTo s.1 (k : Int) s.1.length))
    (fun s => s.1.length - s.2.toNat) (fun o => ∃ l i, o = .inl (l, i) ∧ ChkP n T l ∧ l.length ≤ 160000)
    ⟨0, rfl, Nat.zero_le _, hlen, hF, hD, fun k hk => by omega⟩ (by
      rintro ⟨l, _⟩ ⟨i, rfl, hil, hlen, hF, hD, hS⟩
      dsimp only at hil hlen hF hD hS ⊢
      have hl : ∀ k, k < l.length → (l.getD k []).length = n ∧ validP (l.getD k []) = true := fun k hk => ⟨(hF k hk).1.1, (hF k hk).1.2.1⟩
      have hw : w64 ((i : Int) + 1) = ((i + 1 : Nat) : Int) := by rw [w64_id (by omega) (by omega)]; simp
      unfold P_subdirect_Decompose_l121
      by_cases hi : i < l.length
      · rw [if_pos (by simp only [decide_eq_true_eq]; omega)]
        obtain ⟨r, e, hr⟩ := smeet (n := n) (by omega) hl (i : Int)
        rw [h.len, e]
        simp only [Option.bind_some]
        rw [discrete hr (by omega)]
        simp only [Option.bind_some]
        by_cases hd : Disc n (InfTo l (i : Int) l.length)
        · rw [decide_eq_true hd]
          simp only [if_true]
          rw [sub_take (by omega)]
          simp only [Option.bind_some]
          rw [pus_ok (by simp only [List.length_nil, List.length_take]; omega) (by omega), hw]
          simp only [Option.bind_some, List.nil_append]
          rw [sub_drop (by omega)]
          simp only [Option.bind_some]
          rw [pus_ok (by simp only [List.length_drop, List.length_take]; omega) (by omega)]
          simp only [Option.bind_some]
          have hcl := cut_len hi
          refine .inl ⟨(cut l i, (i : Int)), rfl, ⟨i, rfl, by dsimp only; omega, by dsimp only; omega, fac_cut hi hF, fun x y hx hy hxy => hd x y hx hy (cut_inf hi hxy), fun k hk hdk => hS k hk fun x y hx hy hxy => hdk x y hx hy (inf_cut hi hk hxy)⟩, by dsimp only; rw [hcl, Int.toNat_natCast]; omega⟩
        · rw [decide_eq_false hd]
          simp only [Bool.false_eq_true, if_false]
          refine .inl ⟨_, rfl, ⟨i + 1, hw, by dsimp only; omega, hlen, hF, hD, fun k hk => ?_⟩, by dsimp only; rw [hw, Int.toNat_natCast, Int.toNat_natCast]; omega⟩
          by_cases hki : k = i
          · subst hki; exact hd
          · exact hS k (by omega)
      · rw [if_neg (by simp only [decide_eq_true_eq]; omega)]
        exact .inr (.inl ⟨_, rfl, l, _, rfl, ⟨hF, hD, fun k hk => hS k (by omega)⟩, hlen⟩))
  rw [ho]
  exact ⟨l', rfl, hC, hlen'⟩
end Go.Proofs.Ytmdpejgnkoneoaa.Mt
set_option maxRecDepth 100000
set_option maxHeartbeats 4000000
namespace Go.Proofs.Ytmdpejgnkoneoaa.Pu
open Go Go.AM Go.Proofs.Ytmdpejgnkoneoaa.Code

noncomputable def P_semigrouplaw22_SubdirectDecomposes (t : List (List Int)) : Option (Bool) :=
 Option.bind (P_semigrouplaw22_large t 8) fun r1 =>
 if r1 then
  Option.bind (P_semigrouplaw22_awake) fun r6 =>
  some r6
 else
  Option.bind (P_subdirect_Decompose t) fun r10 =>
  Option.bind (P_semigroupref14_Validate t) fun r17 =>
  if !decide (r17 = 0) then
   Option.bind (
    if decide (r10.2 = r17) then
     if decide ((r10.1.length : Int) = 0) then
      Option.bind (P_semigrouplaw22_awake) fun r28 =>
      some r28
     else
      some false
    else
     some false) fun z22 =>
   some z22
  else
   Option.bind (
    if decide (r10.2 = 0) then
     Option.bind (P_semigroupref22_Check t r10.1) fun r37 =>
     if r37 then
      Option.bind (P_subdirect_Check t r10.1) fun r46 =>
      if r46 then
       if ((decide ((r10.1.length : Int) = 0)) == (decide ((t.length : Int) = 1))) then
        Option.bind (P_semigrouplaw22_awake) fun r59 =>
        some r59
       else
        some false
      else
       some false
     else
      some false
    else
     some false) fun z34 =>
   some z34
theorem R_semigrouplaw22_SubdirectDecomposes {G : List Frag} {W H : AH} {v_0 : AV} {t : List (List Int)} (hst : St G W H) (h_0 : Rp.rv W v_0 t) {r : Bool} (hp : P_semigrouplaw22_SubdirectDecomposes t = some r) :
  wpc E0 N_semigrouplaw22_SubdirectDecomposes [v_0] H fun rv H' => ∃ W', Wle W W' ∧ St G W' H' ∧ rv = .bool r := by
 refine enterN (F := f_semigrouplaw22_SubdirectDecomposes) rfl (Nat.le_of_ble_eq_true rfl) fun s hl hg => ?_
 replace hl : s.length = 53 := hl
 have g0 : gt s 0 = v_0 := hg 0 (Nat.le_of_ble_eq_true rfl)
 clear hg
 unfold P_semigrouplaw22_SubdirectDecomposes at hp
 show wp E0 c_semigrouplaw22_SubdirectDecomposes s H _
 unfold c_semigrouplaw22_SubdirectDecomposes
 refine AM.wp_seq hp0 (AM.wp_reg hp0 ?_)
 refine wpo_seg hp0 1 (fun s H' => s.length = 53 ∧ gt s 0 = v_0 ∧ H = H') (by simp only [↓runs, isCall, ↓reduceIte, ↓gd_true, ↓gd_false, evs, AV.cells, Nat.reduceEqDiff, Nat.reduceLT, reduceCtorEq, Nat.reduceAdd, sy, g0, hl]) ?_
 rintro s _ ⟨hl, g0, rfl⟩
 refine wpo_nil (then_n ?_)
 refine AM.wp_seq hp0 (AM.wp_seq hp0 (AM.wp_reg hp0 ?_))
 refine wpo_seg hp0 1 (fun s H' => s.length = 53 ∧ gt s 0 = v_0 ∧ gt s 6 = v_0 ∧ H = H') (by simp only [↓runs, isCall, ↓reduceIte, ↓gd_true, ↓gd_false, evs, AV.cells, Nat.reduceEqDiff, Nat.reduceLT, reduceCtorEq, Nat.reduceAdd, sy, g0, hl]) ?_
 rintro s _ ⟨hl, g0, g6, rfl⟩
 obtain ⟨r1, e2, hp⟩ := bn hp
 refine wpo_callK hp0 rfl (ys := [v_0, .int .i64 8]) (by simp only [evs, List.map_cons, List.map_nil, ev_t, ev_c, g6]) (R_semigrouplaw22_large hst h_0 e2) ?_
 rintro rv3 H ⟨W, w4, hst, rfl⟩
 replace h_0 := Rp.mono w4 h_0
 refine wpo_seg hp0 0 (fun s H' => s.length = 53 ∧ gt s 0 = v_0 ∧ gt s 7 = .bool r1 ∧ H = H') (by simp only [↓runs, isCall, ↓reduceIte, ↓gd_true, ↓gd_false, evs, AV.cells, Nat.reduceEqDiff, Nat.reduceLT, reduceCtorEq, Nat.reduceAdd, sy, gt_other, g0, g6, hl]) ?_
 rintro s _ ⟨hl, g0, g7, rfl⟩
 refine wpo_nil (then_n ?_)
 rcases Bool.eq_false_or_eq_true (r1) with c5 | c5
 ·replace hp := ifT c5 hp
  refine AM.wp_condT (by simp only [ev_t, ev_c, g7, c5]) ?_
  refine AM.wp_seq hp0 (AM.wp_reg hp0 ?_)
  obtain ⟨r6, e7, hp⟩ := bn hp
  refine wpo_callK hp0 rfl (ys := []) (by simp only [evs, List.map_cons, List.map_nil, ev_t, ev_c]) (R_semigrouplaw22_awake hst e7) ?_
  rintro rv8 H ⟨W, w9, hst, rfl⟩
  replace h_0 := Rp.mono w9 h_0
  refine wpo_seg hp0 1 (fun s H' => s.length = 53 ∧ gt s 2 = .bool r6 ∧ H = H') (by simp only [↓runs, isCall, ↓reduceIte, ↓gd_true, ↓gd_false, evs, AV.cells, Nat.reduceEqDiff, Nat.reduceLT, reduceCtorEq, Nat.reduceAdd, sy, gt_other, g0, g7, hl]) ?_
  rintro s _ ⟨hl, g2, rfl⟩
  refine wpo_nil (then_n ?_)
  refine AM.wp_ret ?_
  refine then_r ?_
  obtain rfl := Option.some.inj hp
  refine body_ret (vs := [.bool r6]) (by simp only [rvs, f_semigrouplaw22_SubdirectDecomposes, Option.map_some, g2]) ?_
  exact ⟨W, (w4.trans w9), hst, rfl⟩
 ·replace hp := ifF c5 hp
  refine AM.wp_condF (by simp only [ev_t, ev_c, g7, c5]) ?_
  refine AM.wp_skip ?_
  refine then_n ?_
  refine AM.wp_seq hp0 (AM.wp_reg hp0 ?_)
  refine wpo_seg hp0 1 (fun s H' => s.length = 53 ∧ gt s 0 = v_0 ∧ gt s 10 = v_0 ∧ H = H') (by simp only [↓runs, isCall, ↓reduceIte, ↓gd_true, ↓gd_false, evs, AV.cells, Nat.reduceEqDiff, Nat.reduceLT, reduceCtorEq, Nat.reduceAdd, sy, g0, g7, hl]) ?_
  rintro s _ ⟨hl, g0, g10, rfl⟩
  obtain ⟨r10, e11, hp⟩ := bn hp
  refine wpo_callK hp0 rfl (ys := [v_0]) (by simp only [evs, List.map_cons, List.map_nil, ev_t, ev_c, g10]) (R_subdirect_Decompose hst h_0 e11) ?_
  rintro rv12 H ⟨W, w13, v14, fg15, hst, rfl, o16⟩
  replace h_0 := Rp.mono w13 h_0
  refine wpo_seg hp0 5 (fun s H' => s.length = 53 ∧ gt s 0 = v_0 ∧ gt s 3 = v14 ∧ gt s 4 = .int .i64 r10.2 ∧ H = H') (by simp only [↓runs, isCall, ↓reduceIte, ↓gd_true, ↓gd_false, evs, AV.cells, Nat.reduceEqDiff, Nat.reduceLT, reduceCtorEq, Nat.reduceAdd, sy, gt_other, g0, g10, hl]) ?_
  rintro s _ ⟨hl, g0, g3, g4, rfl⟩
  refine wpo_nil (then_n ?_)
  refine AM.wp_seq hp0 (AM.wp_seq hp0 (AM.wp_reg hp0 ?_))
  refine wpo_seg hp0 1 (fun s H' => s.length = 53 ∧ gt s 0 = v_0 ∧ gt s 3 = v14 ∧ gt s 4 = .int .i64 r10.2 ∧ gt s 14 = v_0 ∧ H = H') (by simp only [↓runs, isCall, ↓reduceIte, ↓gd_true, ↓gd_false, evs, AV.cells, Nat.reduceEqDiff, Nat.reduceLT, reduceCtorEq, Nat.reduceAdd, sy, g0, g3, g4, hl]) ?_
  rintro s _ ⟨hl, g0, g3, g4, g14, rfl⟩
  obtain ⟨r17, e18, hp⟩ := bn hp
  refine wpo_callK hp0 rfl (ys := [v_0]) (by simp only [evs, List.map_cons, List.map_nil, ev_t, ev_c, g14]) (R_semigroupref14_Validate hst h_0 e18) ?_
  rintro rv19 H ⟨W, w20, hst, rfl⟩
  replace h_0 := Rp.mono w20 h_0
  replace o16 := o16.mono w20
  refine wpo_seg hp0 1 (fun s H' => s.length = 53 ∧ gt s 0 = v_0 ∧ gt s 3 = v14 ∧ gt s 4 = .int .i64 r10.2 ∧ gt s 5 = .int .i64 r17 ∧ H = H') (by simp only [↓runs, isCall, ↓reduceIte, ↓gd_true, ↓gd_false, evs, AV.cells, Nat.reduceEqDiff, Nat.reduceLT, reduceCtorEq, Nat.reduceAdd, sy, gt_other, g0, g3, g4, g14, hl]) ?_
  rintro s _ ⟨hl, g0, g3, g4, g5, rfl⟩
  refine wpo_nil (then_n ?_)
  refine AM.wp_seq hp0 (AM.wp_reg hp0 ?_)
  refine wpo_seg hp0 2 (fun s H' => s.length = 53 ∧ gt s 0 = v_0 ∧ gt s 3 = v14 ∧ gt s 4 = .int .i64 r10.2 ∧ gt s 5 = .int .i64 r17 ∧ gt s 17 = .bool (!decide (r17 = 0)) ∧ H = H') (by simp only [↓runs, isCall, ↓reduceIte, ↓gd_true, ↓gd_false, evs, AV.cells, Nat.reduceEqDiff, Nat.reduceLT, reduceCtorEq, Nat.reduceAdd, sy, g0, g3, g4, g5, hl]) ?_
  rintro s _ ⟨hl, g0, g3, g4, g5, g17, rfl⟩
  refine wpo_nil (then_n ?_)
  rcases Bool.eq_false_or_eq_true (!decide (r17 = 0)) with c21 | c21
  ·replace hp := ifT c21 hp
   refine AM.wp_condT (by simp only [ev_t, ev_c, g17, c21]) ?_
   refine AM.wp_seq hp0 ?_
   obtain ⟨z22, hj23, hp⟩ := bn hp
   refine AM.wp_regK hp0 (fun s H' => ∃ (W' : AH), s.length = 53 ∧ gt s 2 = .bool z22 ∧  Wle W W' ∧ St G W' H') ?_ ?_
   ·rcases Bool.eq_false_or_eq_true (decide (r10.2 = r17)) with c24 | c24
    ·replace hj23 := ifT c24 hj23
     have f25 := ow_ln o16
     have b26 := ow_big o16
     rcases Bool.eq_false_or_eq_true (decide ((r10.1.length : Int) = 0)) with c27 | c27
     ·replace hj23 := ifT c27 hj23
      refine wpo_seg hp0 9 (fun s H' => s.length = 53 ∧ gt s 26 = .bool true ∧ H = H') (by simp only [↓runs, isCall, ↓reduceIte, ↓gd_true, ↓gd_false, evs, AV.cells, Nat.reduceEqDiff, Nat.reduceLT, reduceCtorEq, Nat.reduceAdd, sy, c24, f25, c27, g0, g3, g4, g5, g17, hl]) ?_
      rintro s _ ⟨hl, g26, rfl⟩
      obtain ⟨r28, e29, hj23⟩ := bn hj23
      refine wpo_callK hp0 (by simp only [wanted, g26, beq_self_eq_true]) (ys := []) (by simp only [evs, List.map_cons, List.map_nil, ev_t, ev_c]) (R_semigrouplaw22_awake hst e29) ?_
      rintro rv30 H ⟨W, w31, hst, rfl⟩
      replace h_0 := Rp.mono w31 h_0
      replace o16 := o16.mono w31
      refine wpo_seg hp0 2 (fun s H' => s.length = 53 ∧ gt s 2 = .bool r28 ∧ H = H') (by simp only [↓runs, isCall, ↓reduceIte, ↓gd_true, ↓gd_false, evs, AV.cells, Nat.reduceEqDiff, Nat.reduceLT, reduceCtorEq, Nat.reduceAdd, sy, gt_other, g26, hl]) ?_
      rintro s _ ⟨hl, g2, rfl⟩
      refine wpo_nil ?_
      obtain rfl := Option.some.inj hj23
      replace hst := hst.drop
      exact ⟨W, hl, g2, w31, hst⟩
     ·replace hj23 := ifF c27 hj23
      refine wpo_seg hp0 12 (fun s H' => s.length = 53 ∧ gt s 2 = .bool false ∧ H = H') (by simp only [↓runs, isCall, ↓reduceIte, ↓gd_true, ↓gd_false, evs, AV.cells, Nat.reduceEqDiff, Nat.reduceLT, reduceCtorEq, Nat.reduceAdd, sy, c24, f25, c27, g0, g3, g4, g5, g17, hl]) ?_
      rintro s _ ⟨hl, g2, rfl⟩
      refine wpo_nil ?_
      obtain rfl := Option.some.inj hj23
      replace hst := hst.drop
      exact ⟨W, hl, g2, .refl _, hst⟩
    ·replace hj23 := ifF c24 hj23
     refine wpo_seg hp0 12 (fun s H' => s.length = 53 ∧ gt s 2 = .bool false ∧ H = H') (by simp only [↓runs, isCall, ↓reduceIte, ↓gd_true, ↓gd_false, evs, AV.cells, Nat.reduceEqDiff, Nat.reduceLT, reduceCtorEq, Nat.reduceAdd, sy, c24, g0, g3, g4, g5, g17, hl]) ?_
     rintro s _ ⟨hl, g2, rfl⟩
     refine wpo_nil ?_
     obtain rfl := Option.some.inj hj23
     replace hst := hst.drop
     exact ⟨W, hl, g2, .refl _, hst⟩
   ·rintro s H ⟨W, hl, g2, w33, hst⟩
    refine then_n ?_
    refine AM.wp_ret ?_
    refine then_r ?_
    obtain rfl := Option.some.inj hp
    refine body_ret (vs := [.bool z22]) (by simp only [rvs, f_semigrouplaw22_SubdirectDecomposes, Option.map_some, g2]) ?_
    exact ⟨W, (((w4.trans w13).trans w20).trans w33), hst, rfl⟩
  ·replace hp := ifF c21 hp
   refine AM.wp_condF (by simp only [ev_t, ev_c, g17, c21]) ?_
   refine AM.wp_skip ?_
   refine then_n ?_
   refine AM.wp_seq hp0 ?_
   obtain ⟨z34, hj35, hp⟩ := bn hp
   refine AM.wp_regK hp0 (fun s H' => ∃ (W' : AH), s.length = 53 ∧ gt s 2 = .bool z34 ∧  Wle W W' ∧ St G W' H') ?_ ?_
   ·rcases Bool.eq_false_or_eq_true (decide (r10.2 = 0)) with c36 | c36
    ·replace hj35 := ifT c36 hj35
     refine wpo_seg hp0 5 (fun s H' => s.length = 53 ∧ gt s 0 = v_0 ∧ gt s 3 = v14 ∧ gt s 31 = .bool true ∧ gt s 32 = v_0 ∧ gt s 33 = v14 ∧ H = H') (by simp only [↓runs, isCall, ↓reduceIte, ↓gd_true, ↓gd_false, evs, AV.cells, Nat.reduceEqDiff, Nat.reduceLT, reduceCtorEq, Nat.reduceAdd, sy, c36, g0, g3, g4, g5, g17, hl]) ?_
     rintro s _ ⟨hl, g0, g3, g31, g32, g33, rfl⟩
     obtain ⟨r37, e38, hj35⟩ := bn hj35
     obtain ⟨W, w39, hst, h40, k41⟩ := ow_lend hst o16
     refine wpo_callK hp0 (by simp only [wanted, g31, beq_self_eq_true]) (ys := [v_0, v14]) (by simp only [evs, List.map_cons, List.map_nil, ev_t, ev_c, g32, g33]) (R_semigroupref22_Check hst (Rp.mono w39 h_0) h40 e38) ?_
     rintro rv42 H ⟨W, w43, hst, rfl⟩
     obtain ⟨W, w44, hst, o16⟩ := k41 _ _ _ w43 hst
     replace h_0 := Rp.mono w44 h_0
     rcases Bool.eq_false_or_eq_true (r37) with c45 | c45
     ·replace hj35 := ifT c45 hj35
      refine wpo_seg hp0 4 (fun s H' => s.length = 53 ∧ gt s 0 = v_0 ∧ gt s 3 = v14 ∧ gt s 36 = .bool true ∧ gt s 37 = v_0 ∧ gt s 38 = v14 ∧ H = H') (by simp only [↓runs, isCall, ↓reduceIte, ↓gd_true, ↓gd_false, evs, AV.cells, Nat.reduceEqDiff, Nat.reduceLT, reduceCtorEq, Nat.reduceAdd, sy, gt_other, c45, g0, g3, g31, g32, g33, hl]) ?_
      rintro s _ ⟨hl, g0, g3, g36, g37, g38, rfl⟩
      obtain ⟨r46, e47, hj35⟩ := bn hj35
      obtain ⟨W, w48, hst, h49, k50⟩ := ow_lend hst o16
      refine wpo_callK hp0 (by simp only [wanted, g36, beq_self_eq_true]) (ys := [v_0, v14]) (by simp only [evs, List.map_cons, List.map_nil, ev_t, ev_c, g37, g38]) (R_subdirect_Check hst (Rp.mono w48 h_0) h49 e47) ?_
      rintro rv51 H ⟨W, w52, hst, rfl⟩
      obtain ⟨W, w53, hst, o16⟩ := k50 _ _ _ w52 hst
      replace h_0 := Rp.mono w53 h_0
      rcases Bool.eq_false_or_eq_true (r46) with c54 | c54
      ·replace hj35 := ifT c54 hj35
       have f55 := ow_ln o16
       have b56 := ow_big o16
       have f57 := fz_ln h_0
       rcases Bool.eq_false_or_eq_true (((decide ((r10.1.length : Int) = 0)) == (decide ((t.length : Int) = 1)))) with c58 | c58
       ·replace hj35 := ifT c58 hj35
        refine wpo_seg hp0 11 (fun s H' => s.length = 53 ∧ gt s 50 = .bool true ∧ H = H') (by simp only [↓runs, isCall, ↓reduceIte, ↓gd_true, ↓gd_false, evs, AV.cells, Nat.reduceEqDiff, Nat.reduceLT, reduceCtorEq, Nat.reduceAdd, sy, gt_other, c54, f55, f57, c58, g0, g3, g36, g37, g38, hl]) ?_
        rintro s _ ⟨hl, g50, rfl⟩
        obtain ⟨r59, e60, hj35⟩ := bn hj35
        refine wpo_callK hp0 (by simp only [wanted, g50, beq_self_eq_true]) (ys := []) (by simp only [evs, List.map_cons, List.map_nil, ev_t, ev_c]) (R_semigrouplaw22_awake hst e60) ?_
        rintro rv61 H ⟨W, w62, hst, rfl⟩
        replace h_0 := Rp.mono w62 h_0
        replace o16 := o16.mono w62
        refine wpo_seg hp0 2 (fun s H' => s.length = 53 ∧ gt s 2 = .bool r59 ∧ H = H') (by simp only [↓runs, isCall, ↓reduceIte, ↓gd_true, ↓gd_false, evs, AV.cells, Nat.reduceEqDiff, Nat.reduceLT, reduceCtorEq, Nat.reduceAdd, sy, gt_other, g50, hl]) ?_
        rintro s _ ⟨hl, g2, rfl⟩
        refine wpo_nil ?_
        obtain rfl := Option.some.inj hj35
        replace hst := hst.drop
        exact ⟨W, hl, g2, ((w44.trans w53).trans w62), hst⟩
       ·replace hj35 := ifF c58 hj35
        refine wpo_seg hp0 14 (fun s H' => s.length = 53 ∧ gt s 2 = .bool false ∧ H = H') (by simp (maxSteps := 1000000) only [↓runs, isCall, ↓reduceIte, ↓gd_true, ↓gd_false, evs, AV.cells, Nat.reduceEqDiff, Nat.reduceLT, reduceCtorEq, Nat.reduceAdd, sy, gt_other, c54, f55, f57, c58, g0, g3, g36, g37, g38, hl]) ?_
        rintro s _ ⟨hl, g2, rfl⟩
        refine wpo_nil ?_
        obtain rfl := Option.some.inj hj35
        replace hst := hst.drop
        exact ⟨W, hl, g2, (w44.trans w53), hst⟩
      ·replace hj35 := ifF c54 hj35
       refine wpo_seg hp0 14 (fun s H' => s.length = 53 ∧ gt s 2 = .bool false ∧ H = H') (by simp (maxSteps := 1000000) only [↓runs, isCall, ↓reduceIte, ↓gd_true, ↓gd_false, evs, AV.cells, Nat.reduceEqDiff, Nat.reduceLT, reduceCtorEq, Nat.reduceAdd, sy, gt_other, c54, g0, g3, g36, g37, g38, hl]) ?_
       rintro s _ ⟨hl, g2, rfl⟩
       refine wpo_nil ?_
       obtain rfl := Option.some.inj hj35
       replace hst := hst.drop
       exact ⟨W, hl, g2, (w44.trans w53), hst⟩
     ·replace hj35 := ifF c45 hj35
      refine wpo_seg hp0 19 (fun s H' => s.length = 53 ∧ gt s 2 = .bool false ∧ H = H') (by simp (maxSteps := 1000000) only [↓runs, isCall, ↓reduceIte, ↓gd_true, ↓gd_false, evs, AV.cells, Nat.reduceEqDiff, Nat.reduceLT, reduceCtorEq, Nat.reduceAdd, sy, gt_other, c45, g0, g3, g31, g32, g33, hl]) ?_
      rintro s _ ⟨hl, g2, rfl⟩
      refine wpo_nil ?_
      obtain rfl := Option.some.inj hj35
      replace hst := hst.drop
      exact ⟨W, hl, g2, w44, hst⟩
    ·replace hj35 := ifF c36 hj35
     refine wpo_seg hp0 25 (fun s H' => s.length = 53 ∧ gt s 2 = .bool false ∧ H = H') (by simp (maxSteps := 1000000) only [↓runs, isCall, ↓reduceIte, ↓gd_true, ↓gd_false, evs, AV.cells, Nat.reduceEqDiff, Nat.reduceLT, reduceCtorEq, Nat.reduceAdd, sy, c36, g0, g3, g4, g5, g17, hl]) ?_
     rintro s _ ⟨hl, g2, rfl⟩
     refine wpo_nil ?_
     obtain rfl := Option.some.inj hj35
     replace hst := hst.drop
     exact ⟨W, hl, g2, .refl _, hst⟩
   ·rintro s H ⟨W, hl, g2, w63, hst⟩
    refine then_n ?_
    refine AM.wp_ret ?_
    obtain rfl := Option.some.inj hp
    refine body_ret (vs := [.bool z34]) (by simp only [rvs, f_semigrouplaw22_SubdirectDecomposes, Option.map_some, g2]) ?_
    exact ⟨W, (((w4.trans w13).trans w20).trans w63), hst, rfl⟩

end Go.Proofs.Ytmdpejgnkoneoaa.Pu
namespace Go.Proofs.Ytmdpejgnkoneoaa.Mt
open Go Go.AM Go.AM.Par Go.AM.Cg Go.AM.Lx Go.Proofs.Ytmdpejgnkoneoaa.Pu

theorem chk_empty {n : Nat} {T : Nat → Nat → Nat} {l : List (List Int)} (hn : 0 < n) (h : ChkP n T l) : l.length = 0 ↔ n = 1 := by
  obtain ⟨hF, hD, hS⟩ := h
  constructor
  · intro e
    refine Classical.byContradiction fun hc => ?_
    have := hD 0 1 (by omega) (by omega) fun j hj => by omega
    omega
  · intro e
    refine Classical.byContradiction fun hc => ?_
    exact hS 0 (by omega) fun x y hx hy _ => by omega
open Classical in
theorem SubdirectDecomposes (t : List (List Int)) : P_semigrouplaw22_SubdirectDecomposes t = some true := by
  unfold P_semigrouplaw22_SubdirectDecomposes
  rw [large, awake]
  simp only [Option.bind_some]
  cases decide ((8 : Int) < (t.length : Int) ∧ shapeM t = 0) with
  | true => rfl
  | false =>
    simp only [Bool.false_eq_true, if_false]
    by_cases hv : validM t = 0
    · have h := valid_sg.1 hv
      obtain ⟨l, e, hC, _⟩ := decompose h
      rw [e, ref_validate, hv]
      simp only [Option.bind_some]
      rw [ref_check h, check h, decide_eq_true hC]
      simp only [Option.bind_some, decide_true, Bool.not_true, Bool.false_eq_true, if_false, if_true]
      have hb : (decide ((l.length : Int) = 0) == decide ((t.length : Int) = 1)) = true := by
        have := chk_empty h.pos hC
        rw [beq_iff_eq, decide_eq_decide]
        omega
      rw [if_pos hb]
      rfl
    · have e : P_subdirect_Decompose t = some ([], validM t) := by
        unfold P_subdirect_Decompose
        rw [validate]
        simp only [Option.bind_some]
        rw [decide_eq_false hv]
        rfl
      rw [e, ref_validate]
      simp only [Option.bind_some]
      rw [decide_eq_false hv]
      simp only [decide_true, Bool.not_false, if_true, List.length_nil]
      rfl
end Go.Proofs.Ytmdpejgnkoneoaa.Mt
