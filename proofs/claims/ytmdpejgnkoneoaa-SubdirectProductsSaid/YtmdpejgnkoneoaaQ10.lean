/- Part 10 of the proof that the law SubdirectProducts holds: words and lemmas it rests on. No condition. -/
import Derived.Test.YtmdpejgnkoneoaaQ5
import Derived.Test.YtmdpejgnkoneoaaQ9
import Derived.Test.YtmdpejgnkoneoaaQ8
import Derived.Test.YtmdpejgnkoneoaaQ7
set_option linter.unusedSimpArgs false
set_option linter.unusedVariables false
set_option linter.unnecessarySimpa false
set_option linter.unusedSectionVars false
set_option maxRecDepth 100000
set_option maxHeartbeats 4000000
namespace Go.Proofs.Ytmdpejgnkoneoaa.Pu
open Go Go.AM Go.Proofs.Ytmdpejgnkoneoaa.Code

noncomputable def P_semigrouplaw22_SubdirectProducts_l88 (u : List (List Int)) (x80 : List Int) (k91 : Nat) (x90 : List Int) : Option ((List Int)) :=
 Option.bind (dvq (k91 : Int) (u.length : Int)) fun x103 =>
 Option.bind (gi x80 x103) fun x106 =>
 Option.bind (pus 8 x90 [x106]) fun x124 =>
 some x124
noncomputable def P_semigrouplaw22_SubdirectProducts_l67 (r23 : (List (List Int))) (r34 : (List (List Int)) × Int) (u : List (List Int)) (k69 : Nat) (x68 : List Int) : Option ((List Int)) :=
 Option.bind (gi r34.1 (k69 : Int)) fun x80 =>
 Option.bind (forS r23.length (fun k x => P_semigrouplaw22_SubdirectProducts_l88 u x80 k x) []) fun z95 =>
 Option.bind (P_partition_Canonical z95) fun r138 =>
 Option.bind (P_partition_Meet x68 r138) fun r148 =>
 some r148
noncomputable def P_semigrouplaw22_SubdirectProducts_l181 (u : List (List Int)) (x173 : List Int) (k184 : Nat) (x183 : List Int) : Option ((List Int)) :=
 Option.bind (dvr (k184 : Int) (u.length : Int)) fun x196 =>
 Option.bind (gi x173 x196) fun x199 =>
 Option.bind (pus 8 x183 [x199]) fun x217 =>
 some x217
noncomputable def P_semigrouplaw22_SubdirectProducts_l160 (r23 : (List (List Int))) (r41 : (List (List Int)) × Int) (u : List (List Int)) (k162 : Nat) (x161 : List Int) : Option ((List Int)) :=
 Option.bind (gi r41.1 (k162 : Int)) fun x173 =>
 Option.bind (forS r23.length (fun k x => P_semigrouplaw22_SubdirectProducts_l181 u x173 k x) []) fun z188 =>
 Option.bind (P_partition_Canonical z188) fun r231 =>
 Option.bind (P_partition_Meet x161 r231) fun r241 =>
 some r241
noncomputable def P_semigrouplaw22_SubdirectProducts (t : List (List Int)) (u : List (List Int)) : Option (Bool) :=
 Option.bind (
  Option.bind (P_semigrouplaw22_small t 3) fun r3 =>
  if !r3 then
   some true
  else
   Option.bind (P_semigrouplaw22_small u 3) fun r8 =>
   if !r8 then
    some true
   else
    if decide ((t.length : Int) < 2) then
     some true
    else
     some (decide ((u.length : Int) < 2))) fun z1 =>
 if z1 then
  Option.bind (P_semigrouplaw22_awake) fun r19 =>
  some r19
 else
  Option.bind (P_mult_Direct t u) fun r23 =>
  Option.bind (P_subdirect_Irreducible r23) fun r28 =>
  Option.bind (P_subdirect_Decompose t) fun r34 =>
  Option.bind (P_subdirect_Decompose u) fun r41 =>
  Option.bind (
   if r28.2 then
    some true
   else
    if !decide (r34.2 = 0) then
     some true
    else
     if !decide (r41.2 = 0) then
      some true
     else
      some (!decide ((r23.length : Int) = (w64 ((t.length : Int) * (u.length : Int)))))) fun z48 =>
  if z48 then
   some false
  else
   Option.bind (P_partition_Trivial (r23.length : Int)) fun r59 =>
   Option.bind (forS r34.1.length (fun k x => P_semigrouplaw22_SubdirectProducts_l67 r23 r34 u k x) r59) fun z73 =>
   Option.bind (forS r41.1.length (fun k x => P_semigrouplaw22_SubdirectProducts_l160 r23 r41 u k x) z73) fun z166 =>
   Option.bind (
    Option.bind (P_partition_Count z166) fun r255 =>
    if decide (r255 = (r23.length : Int)) then
     Option.bind (P_semigrouplaw22_awake) fun r261 =>
     some r261
    else
     some false) fun z251 =>
   some z251
theorem R_semigrouplaw22_SubdirectProducts {G : List Frag} {W H : AH} {v_0 v_1 : AV} {t : List (List Int)} {u : List (List Int)} (hst : St G W H) (h_0 : Rp.rv W v_0 t) (h_1 : Rp.rv W v_1 u) {r : Bool} (hp : P_semigrouplaw22_SubdirectProducts t u = some r) :
  wpc E0 N_semigrouplaw22_SubdirectProducts [v_0, v_1] H fun rv H' => ∃ W', Wle W W' ∧ St G W' H' ∧ rv = .bool r := by
 refine enterN (F := f_semigrouplaw22_SubdirectProducts) rfl (Nat.le_of_ble_eq_true rfl) fun s hl hg => ?_
 replace hl : s.length = 142 := hl
 have g0 : gt s 0 = v_0 := hg 0 (Nat.le_of_ble_eq_true rfl)
 have g1 : gt s 1 = v_1 := hg 1 (Nat.le_of_ble_eq_true rfl)
 clear hg
 unfold P_semigrouplaw22_SubdirectProducts at hp
 show wp E0 c_semigrouplaw22_SubdirectProducts s H _
 unfold c_semigrouplaw22_SubdirectProducts
 refine AM.wp_seq hp0 (AM.wp_reg hp0 ?_)
 refine wpo_seg hp0 1 (fun s H' => s.length = 142 ∧ gt s 0 = v_0 ∧ gt s 1 = v_1 ∧ H = H') (by simp only [↓runs, isCall, ↓reduceIte, ↓gd_true, ↓gd_false, evs, AV.cells, Nat.reduceEqDiff, Nat.reduceLT, reduceCtorEq, Nat.reduceAdd, sy, g0, g1, hl]) ?_
 rintro s _ ⟨hl, g0, g1, rfl⟩
 refine wpo_nil (then_n ?_)
 refine AM.wp_seq hp0 (AM.wp_seq hp0 ?_)
 obtain ⟨z1, hj2, hp⟩ := bn hp
 refine AM.wp_regK hp0 (fun s H' => ∃ (W' : AH), s.length = 142 ∧ gt s 38 = .bool z1 ∧ gt s 0 = v_0 ∧ gt s 1 = v_1 ∧  Wle W W' ∧ St G W' H') ?_ ?_
 ·refine wpo_seg hp0 1 (fun s H' => s.length = 142 ∧ gt s 0 = v_0 ∧ gt s 1 = v_1 ∧ gt s 21 = v_0 ∧ H = H') (by simp only [↓runs, isCall, ↓reduceIte, ↓gd_true, ↓gd_false, evs, AV.cells, Nat.reduceEqDiff, Nat.reduceLT, reduceCtorEq, Nat.reduceAdd, sy, g0, g1, hl]) ?_
  rintro s _ ⟨hl, g0, g1, g21, rfl⟩
  obtain ⟨r3, e4, hj2⟩ := bn hj2
  refine wpo_callK hp0 rfl (ys := [v_0, .int .i64 3]) (by simp only [evs, List.map_cons, List.map_nil, ev_t, ev_c, g21]) (R_semigrouplaw22_small hst h_0 e4) ?_
  rintro rv5 H ⟨W, w6, hst, rfl⟩
  replace h_0 := Rp.mono w6 h_0
  replace h_1 := Rp.mono w6 h_1
  rcases Bool.eq_false_or_eq_true (!r3) with c7 | c7
  ·replace hj2 := ifT c7 hj2
   refine wpo_seg hp0 16 (fun s H' => s.length = 142 ∧ gt s 0 = v_0 ∧ gt s 1 = v_1 ∧ gt s 38 = .bool true ∧ H = H') (by simp (maxSteps := 1000000) only [↓runs, isCall, ↓reduceIte, ↓gd_true, ↓gd_false, evs, AV.cells, Nat.reduceEqDiff, Nat.reduceLT, reduceCtorEq, Nat.reduceAdd, sy, gt_other, c7, g0, g1, g21, hl]) ?_
   rintro s _ ⟨hl, g0, g1, g38, rfl⟩
   refine wpo_nil ?_
   obtain rfl := Option.some.inj hj2
   exact ⟨W, hl, g38, g0, g1, w6, hst⟩
  ·replace hj2 := ifF c7 hj2
   refine wpo_seg hp0 3 (fun s H' => s.length = 142 ∧ gt s 0 = v_0 ∧ gt s 1 = v_1 ∧ gt s 24 = .bool false ∧ gt s 25 = v_1 ∧ H = H') (by simp only [↓runs, isCall, ↓reduceIte, ↓gd_true, ↓gd_false, evs, AV.cells, Nat.reduceEqDiff, Nat.reduceLT, reduceCtorEq, Nat.reduceAdd, sy, gt_other, c7, g0, g1, g21, hl]) ?_
   rintro s _ ⟨hl, g0, g1, g24, g25, rfl⟩
   obtain ⟨r8, e9, hj2⟩ := bn hj2
   refine wpo_callK hp0 (by simp only [wanted, g24, beq_self_eq_true]) (ys := [v_1, .int .i64 3]) (by simp only [evs, List.map_cons, List.map_nil, ev_t, ev_c, g25]) (R_semigrouplaw22_small hst h_1 e9) ?_
   rintro rv10 H ⟨W, w11, hst, rfl⟩
   replace h_0 := Rp.mono w11 h_0
   replace h_1 := Rp.mono w11 h_1
   rcases Bool.eq_false_or_eq_true (!r8) with c12 | c12
   ·replace hj2 := ifT c12 hj2
    refine wpo_seg hp0 12 (fun s H' => s.length = 142 ∧ gt s 0 = v_0 ∧ gt s 1 = v_1 ∧ gt s 38 = .bool true ∧ H = H') (by simp only [↓runs, isCall, ↓reduceIte, ↓gd_true, ↓gd_false, evs, AV.cells, Nat.reduceEqDiff, Nat.reduceLT, reduceCtorEq, Nat.reduceAdd, sy, gt_other, c12, g0, g1, g24, g25, hl]) ?_
    rintro s _ ⟨hl, g0, g1, g38, rfl⟩
    refine wpo_nil ?_
    obtain rfl := Option.some.inj hj2
    exact ⟨W, hl, g38, g0, g1, (w6.trans w11), hst⟩
   ·replace hj2 := ifF c12 hj2
    have f13 := fz_ln h_0
    rcases Bool.eq_false_or_eq_true (decide ((t.length : Int) < 2)) with c14 | c14
    ·replace hj2 := ifT c14 hj2
     refine wpo_seg hp0 12 (fun s H' => s.length = 142 ∧ gt s 0 = v_0 ∧ gt s 1 = v_1 ∧ gt s 38 = .bool true ∧ H = H') (by simp only [↓runs, isCall, ↓reduceIte, ↓gd_true, ↓gd_false, evs, AV.cells, Nat.reduceEqDiff, Nat.reduceLT, reduceCtorEq, Nat.reduceAdd, sy, gt_other, c12, f13, c14, g0, g1, g24, g25, hl]) ?_
     rintro s _ ⟨hl, g0, g1, g38, rfl⟩
     refine wpo_nil ?_
     obtain rfl := Option.some.inj hj2
     exact ⟨W, hl, g38, g0, g1, (w6.trans w11), hst⟩
    ·replace hj2 := ifF c14 hj2
     have f15 := fz_ln h_1
     refine wpo_seg hp0 12 (fun s H' => s.length = 142 ∧ gt s 0 = v_0 ∧ gt s 1 = v_1 ∧ gt s 38 = .bool (decide ((u.length : Int) < 2)) ∧ H = H') (by simp only [↓runs, isCall, ↓reduceIte, ↓gd_true, ↓gd_false, evs, AV.cells, Nat.reduceEqDiff, Nat.reduceLT, reduceCtorEq, Nat.reduceAdd, sy, gt_other, c12, f13, c14, f15, g0, g1, g24, g25, hl]) ?_
     rintro s _ ⟨hl, g0, g1, g38, rfl⟩
     refine wpo_nil ?_
     obtain rfl := Option.some.inj hj2
     exact ⟨W, hl, g38, g0, g1, (w6.trans w11), hst⟩
 ·rintro s H ⟨W, hl, g38, g0, g1, w17, hst⟩
  replace h_0 := Rp.mono w17 h_0
  replace h_1 := Rp.mono w17 h_1
  refine then_n ?_
  rcases Bool.eq_false_or_eq_true (z1) with c18 | c18
  ·replace hp := ifT c18 hp
   refine AM.wp_condT (by simp only [ev_t, ev_c, g38, c18]) ?_
   refine AM.wp_seq hp0 (AM.wp_reg hp0 ?_)
   obtain ⟨r19, e20, hp⟩ := bn hp
   refine wpo_callK hp0 rfl (ys := []) (by simp only [evs, List.map_cons, List.map_nil, ev_t, ev_c]) (R_semigrouplaw22_awake hst e20) ?_
   rintro rv21 H ⟨W, w22, hst, rfl⟩
   replace h_0 := Rp.mono w22 h_0
   replace h_1 := Rp.mono w22 h_1
   refine wpo_seg hp0 1 (fun s H' => s.length = 142 ∧ gt s 4 = .bool r19 ∧ H = H') (by simp only [↓runs, isCall, ↓reduceIte, ↓gd_true, ↓gd_false, evs, AV.cells, Nat.reduceEqDiff, Nat.reduceLT, reduceCtorEq, Nat.reduceAdd, sy, gt_other, g0, g1, g38, hl]) ?_
   rintro s _ ⟨hl, g4, rfl⟩
   refine wpo_nil (then_n ?_)
   refine AM.wp_ret ?_
   refine then_r ?_
   obtain rfl := Option.some.inj hp
   refine body_ret (vs := [.bool r19]) (by simp only [rvs, f_semigrouplaw22_SubdirectProducts, Option.map_some, g4]) ?_
   exact ⟨W, (w17.trans w22), hst, rfl⟩
  ·replace hp := ifF c18 hp
   refine AM.wp_condF (by simp only [ev_t, ev_c, g38, c18]) ?_
   refine AM.wp_skip ?_
   refine then_n ?_
   refine AM.wp_seq hp0 (AM.wp_reg hp0 ?_)
   refine wpo_seg hp0 2 (fun s H' => s.length = 142 ∧ gt s 0 = v_0 ∧ gt s 1 = v_1 ∧ gt s 40 = v_0 ∧ gt s 41 = v_1 ∧ H = H') (by simp only [↓runs, isCall, ↓reduceIte, ↓gd_true, ↓gd_false, evs, AV.cells, Nat.reduceEqDiff, Nat.reduceLT, reduceCtorEq, Nat.reduceAdd, sy, g0, g1, g38, hl]) ?_
   rintro s _ ⟨hl, g0, g1, g40, g41, rfl⟩
   obtain ⟨r23, e24, hp⟩ := bn hp
   refine wpo_callK hp0 rfl (ys := [v_0, v_1]) (by simp only [evs, List.map_cons, List.map_nil, ev_t, ev_c, g40, g41]) (R_mult_Direct hst h_0 h_1 e24) ?_
   rintro rv25 H ⟨W, w26, hst, h27⟩
   replace h_0 := Rp.mono w26 h_0
   replace h_1 := Rp.mono w26 h_1
   refine wpo_seg hp0 1 (fun s H' => s.length = 142 ∧ gt s 0 = v_0 ∧ gt s 1 = v_1 ∧ gt s 5 = rv25 ∧ H = H') (by simp only [↓runs, isCall, ↓reduceIte, ↓gd_true, ↓gd_false, evs, AV.cells, Nat.reduceEqDiff, Nat.reduceLT, reduceCtorEq, Nat.reduceAdd, sy, gt_other, g0, g1, g40, g41, hl]) ?_
   rintro s _ ⟨hl, g0, g1, g5, rfl⟩
   refine wpo_nil (then_n ?_)
   refine AM.wp_seq hp0 (AM.wp_reg hp0 ?_)
   refine wpo_seg hp0 1 (fun s H' => s.length = 142 ∧ gt s 0 = v_0 ∧ gt s 1 = v_1 ∧ gt s 5 = rv25 ∧ gt s 44 = rv25 ∧ H = H') (by simp only [↓runs, isCall, ↓reduceIte, ↓gd_true, ↓gd_false, evs, AV.cells, Nat.reduceEqDiff, Nat.reduceLT, reduceCtorEq, Nat.reduceAdd, sy, g0, g1, g5, hl]) ?_
   rintro s _ ⟨hl, g0, g1, g5, g44, rfl⟩
   obtain ⟨r28, e29, hp⟩ := bn hp
   refine wpo_callK hp0 rfl (ys := [rv25]) (by simp only [evs, List.map_cons, List.map_nil, ev_t, ev_c, g44]) (R_subdirect_Irreducible hst h27 e29) ?_
   rintro rv30 H ⟨W, w31, v32, hst, rfl, h33⟩
   replace h_0 := Rp.mono w31 h_0
   replace h_1 := Rp.mono w31 h_1
   replace h27 := Rp.mono w31 h27
   refine wpo_seg hp0 5 (fun s H' => s.length = 142 ∧ gt s 0 = v_0 ∧ gt s 1 = v_1 ∧ gt s 5 = rv25 ∧ gt s 7 = .bool r28.2 ∧ H = H') (by simp only [↓runs, isCall, ↓reduceIte, ↓gd_true, ↓gd_false, evs, AV.cells, Nat.reduceEqDiff, Nat.reduceLT, reduceCtorEq, Nat.reduceAdd, sy, gt_other, g0, g1, g5, g44, hl]) ?_
   rintro s _ ⟨hl, g0, g1, g5, g7, rfl⟩
   refine wpo_nil (then_n ?_)
   refine AM.wp_seq hp0 (AM.wp_reg hp0 ?_)
   refine wpo_seg hp0 1 (fun s H' => s.length = 142 ∧ gt s 0 = v_0 ∧ gt s 1 = v_1 ∧ gt s 5 = rv25 ∧ gt s 7 = .bool r28.2 ∧ gt s 49 = v_0 ∧ H = H') (by simp only [↓runs, isCall, ↓reduceIte, ↓gd_true, ↓gd_false, evs, AV.cells, Nat.reduceEqDiff, Nat.reduceLT, reduceCtorEq, Nat.reduceAdd, sy, g0, g1, g5, g7, hl]) ?_
   rintro s _ ⟨hl, g0, g1, g5, g7, g49, rfl⟩
   obtain ⟨r34, e35, hp⟩ := bn hp
   refine wpo_callK hp0 rfl (ys := [v_0]) (by simp only [evs, List.map_cons, List.map_nil, ev_t, ev_c, g49]) (R_subdirect_Decompose hst h_0 e35) ?_
   rintro rv36 H ⟨W, w37, v38, fg39, hst, rfl, o40⟩
   replace h_0 := Rp.mono w37 h_0
   replace h_1 := Rp.mono w37 h_1
   replace h27 := Rp.mono w37 h27
   replace h33 := Rp.mono w37 h33
   refine wpo_seg hp0 5 (fun s H' => s.length = 142 ∧ gt s 0 = v_0 ∧ gt s 1 = v_1 ∧ gt s 5 = rv25 ∧ gt s 7 = .bool r28.2 ∧ gt s 8 = v38 ∧ gt s 9 = .int .i64 r34.2 ∧ H = H') (by simp only [↓runs, isCall, ↓reduceIte, ↓gd_true, ↓gd_false, evs, AV.cells, Nat.reduceEqDiff, Nat.reduceLT, reduceCtorEq, Nat.reduceAdd, sy, gt_other, g0, g1, g5, g7, g49, hl]) ?_
   rintro s _ ⟨hl, g0, g1, g5, g7, g8, g9, rfl⟩
   refine wpo_nil (then_n ?_)
   refine AM.wp_seq hp0 (AM.wp_reg hp0 ?_)
   refine wpo_seg hp0 1 (fun s H' => s.length = 142 ∧ gt s 0 = v_0 ∧ gt s 1 = v_1 ∧ gt s 5 = rv25 ∧ gt s 7 = .bool r28.2 ∧ gt s 8 = v38 ∧ gt s 9 = .int .i64 r34.2 ∧ gt s 54 = v_1 ∧ H = H') (by simp only [↓runs, isCall, ↓reduceIte, ↓gd_true, ↓gd_false, evs, AV.cells, Nat.reduceEqDiff, Nat.reduceLT, reduceCtorEq, Nat.reduceAdd, sy, g0, g1, g5, g7, g8, g9, hl]) ?_
   rintro s _ ⟨hl, g0, g1, g5, g7, g8, g9, g54, rfl⟩
   obtain ⟨r41, e42, hp⟩ := bn hp
   refine wpo_callK hp0 rfl (ys := [v_1]) (by simp only [evs, List.map_cons, List.map_nil, ev_t, ev_c, g54]) (R_subdirect_Decompose hst h_1 e42) ?_
   rintro rv43 H ⟨W, w44, v45, fg46, hst, rfl, o47⟩
   replace h_0 := Rp.mono w44 h_0
   replace h_1 := Rp.mono w44 h_1
   replace h27 := Rp.mono w44 h27
   replace h33 := Rp.mono w44 h33
   replace o40 := o40.mono w44
   refine wpo_seg hp0 5 (fun s H' => s.length = 142 ∧ gt s 0 = v_0 ∧ gt s 1 = v_1 ∧ gt s 5 = rv25 ∧ gt s 7 = .bool r28.2 ∧ gt s 8 = v38 ∧ gt s 9 = .int .i64 r34.2 ∧ gt s 10 = v45 ∧ gt s 11 = .int .i64 r41.2 ∧ H = H') (by simp only [↓runs, isCall, ↓reduceIte, ↓gd_true, ↓gd_false, evs, AV.cells, Nat.reduceEqDiff, Nat.reduceLT, reduceCtorEq, Nat.reduceAdd, sy, gt_other, g0, g1, g5, g7, g8, g9, g54, hl]) ?_
   rintro s _ ⟨hl, g0, g1, g5, g7, g8, g9, g10, g11, rfl⟩
   refine wpo_nil (then_n ?_)
   refine AM.wp_seq hp0 (AM.wp_seq hp0 ?_)
   obtain ⟨z48, hj49, hp⟩ := bn hp
   refine AM.wp_regK hp0 (fun s H' => s.length = 142 ∧ gt s 76 = .bool z48 ∧ gt s 1 = v_1 ∧ gt s 5 = rv25 ∧ gt s 8 = v38 ∧ gt s 10 = v45 ∧ H = H') ?_ ?_
   ·rcases Bool.eq_false_or_eq_true (r28.2) with c50 | c50
    ·replace hj49 := ifT c50 hj49
     refine wpo_seg hp0 19 (fun s H' => s.length = 142 ∧ gt s 1 = v_1 ∧ gt s 5 = rv25 ∧ gt s 8 = v38 ∧ gt s 10 = v45 ∧ gt s 76 = .bool true ∧ H = H') (by simp (maxSteps := 1000000) only [↓runs, isCall, ↓reduceIte, ↓gd_true, ↓gd_false, evs, AV.cells, Nat.reduceEqDiff, Nat.reduceLT, reduceCtorEq, Nat.reduceAdd, sy, c50, g0, g1, g5, g7, g8, g9, g10, g11, hl]) ?_
     rintro s _ ⟨hl, g1, g5, g8, g10, g76, rfl⟩
     refine wpo_nil ?_
     obtain rfl := Option.some.inj hj49
     exact ⟨hl, g76, g1, g5, g8, g10, rfl⟩
    ·replace hj49 := ifF c50 hj49
     rcases Bool.eq_false_or_eq_true (!decide (r34.2 = 0)) with c51 | c51
     ·replace hj49 := ifT c51 hj49
      refine wpo_seg hp0 19 (fun s H' => s.length = 142 ∧ gt s 1 = v_1 ∧ gt s 5 = rv25 ∧ gt s 8 = v38 ∧ gt s 10 = v45 ∧ gt s 76 = .bool true ∧ H = H') (by simp (maxSteps := 1000000) only [↓runs, isCall, ↓reduceIte, ↓gd_true, ↓gd_false, evs, AV.cells, Nat.reduceEqDiff, Nat.reduceLT, reduceCtorEq, Nat.reduceAdd, sy, c50, c51, g0, g1, g5, g7, g8, g9, g10, g11, hl]) ?_
      rintro s _ ⟨hl, g1, g5, g8, g10, g76, rfl⟩
      refine wpo_nil ?_
      obtain rfl := Option.some.inj hj49
      exact ⟨hl, g76, g1, g5, g8, g10, rfl⟩
     ·replace hj49 := ifF c51 hj49
      rcases Bool.eq_false_or_eq_true (!decide (r41.2 = 0)) with c52 | c52
      ·replace hj49 := ifT c52 hj49
       refine wpo_seg hp0 19 (fun s H' => s.length = 142 ∧ gt s 1 = v_1 ∧ gt s 5 = rv25 ∧ gt s 8 = v38 ∧ gt s 10 = v45 ∧ gt s 76 = .bool true ∧ H = H') (by simp (maxSteps := 1000000) only [↓runs, isCall, ↓reduceIte, ↓gd_true, ↓gd_false, evs, AV.cells, Nat.reduceEqDiff, Nat.reduceLT, reduceCtorEq, Nat.reduceAdd, sy, c50, c51, c52, g0, g1, g5, g7, g8, g9, g10, g11, hl]) ?_
       rintro s _ ⟨hl, g1, g5, g8, g10, g76, rfl⟩
       refine wpo_nil ?_
       obtain rfl := Option.some.inj hj49
       exact ⟨hl, g76, g1, g5, g8, g10, rfl⟩
      ·replace hj49 := ifF c52 hj49
       have f53 := fz_ln h27
       have f54 := fz_ln h_0
       have f55 := fz_ln h_1
       refine wpo_seg hp0 19 (fun s H' => s.length = 142 ∧ gt s 1 = v_1 ∧ gt s 5 = rv25 ∧ gt s 8 = v38 ∧ gt s 10 = v45 ∧ gt s 76 = .bool (!decide ((r23.length : Int) = (w64 ((t.length : Int) * (u.length : Int))))) ∧ H = H') (by simp (maxSteps := 1000000) only [↓runs, isCall, ↓reduceIte, ↓gd_true, ↓gd_false, evs, AV.cells, Nat.reduceEqDiff, Nat.reduceLT, reduceCtorEq, Nat.reduceAdd, sy, c50, c51, c52, f53, f54, f55, g0, g1, g5, g7, g8, g9, g10, g11, hl]) ?_
       rintro s _ ⟨hl, g1, g5, g8, g10, g76, rfl⟩
       refine wpo_nil ?_
       obtain rfl := Option.some.inj hj49
       exact ⟨hl, g76, g1, g5, g8, g10, rfl⟩
   ·rintro s _ ⟨hl, g76, g1, g5, g8, g10, rfl⟩
    refine then_n ?_
    rcases Bool.eq_false_or_eq_true (z48) with c57 | c57
    ·replace hp := ifT c57 hp
     refine AM.wp_condT (by simp only [ev_t, ev_c, g76, c57]) ?_
     refine AM.wp_seq hp0 (AM.wp_reg hp0 ?_)
     refine wpo_seg hp0 1 (fun s H' => s.length = 142 ∧ gt s 4 = .bool false ∧ H = H') (by simp only [↓runs, isCall, ↓reduceIte, ↓gd_true, ↓gd_false, evs, AV.cells, Nat.reduceEqDiff, Nat.reduceLT, reduceCtorEq, Nat.reduceAdd, sy, g1, g5, g8, g10, g76, hl]) ?_
     rintro s _ ⟨hl, g4, rfl⟩
     refine wpo_nil (then_n ?_)
     refine AM.wp_ret ?_
     refine then_r ?_
     obtain rfl := Option.some.inj hp
     replace hst := hst.drop
     replace hst := hst.drop
     refine body_ret (vs := [.bool false]) (by simp only [rvs, f_semigrouplaw22_SubdirectProducts, Option.map_some, g4]) ?_
     exact ⟨W, ((((w17.trans w26).trans w31).trans w37).trans w44), hst, rfl⟩
    ·replace hp := ifF c57 hp
     refine AM.wp_condF (by simp only [ev_t, ev_c, g76, c57]) ?_
     refine AM.wp_skip ?_
     refine then_n ?_
     refine AM.wp_seq hp0 (AM.wp_reg hp0 ?_)
     have f58 := fz_ln h27
     refine wpo_seg hp0 2 (fun s H' => s.length = 142 ∧ gt s 1 = v_1 ∧ gt s 5 = rv25 ∧ gt s 8 = v38 ∧ gt s 10 = v45 ∧ gt s 78 = .int .i64 (r23.length : Int) ∧ H = H') (by simp only [↓runs, isCall, ↓reduceIte, ↓gd_true, ↓gd_false, evs, AV.cells, Nat.reduceEqDiff, Nat.reduceLT, reduceCtorEq, Nat.reduceAdd, sy, f58, g1, g5, g8, g10, g76, hl]) ?_
     rintro s _ ⟨hl, g1, g5, g8, g10, g78, rfl⟩
     obtain ⟨r59, e60, hp⟩ := bn hp
     refine wpo_callK hp0 rfl (ys := [.int .i64 (r23.length : Int)]) (by simp only [evs, List.map_cons, List.map_nil, ev_t, ev_c, g78]) (R_partition_Trivial hst e60) ?_
     rintro rv61 H ⟨W, w62, fg63, hst, o64⟩
     replace h_1 := Rp.mono w62 h_1
     replace h27 := Rp.mono w62 h27
     replace o40 := o40.mono w62
     replace o47 := o47.mono w62
     refine wpo_seg hp0 1 (fun s H' => s.length = 142 ∧ gt s 1 = v_1 ∧ gt s 5 = rv25 ∧ gt s 8 = v38 ∧ gt s 10 = v45 ∧ gt s 12 = rv61 ∧ H = H') (by simp only [↓runs, isCall, ↓reduceIte, ↓gd_true, ↓gd_false, evs, AV.cells, Nat.reduceEqDiff, Nat.reduceLT, reduceCtorEq, Nat.reduceAdd, sy, gt_other, g1, g5, g8, g10, g78, hl]) ?_
     rintro s _ ⟨hl, g1, g5, g8, g10, g12, rfl⟩
     refine wpo_nil (then_n ?_)
     refine AM.wp_seq hp0 (AM.wp_seq hp0 (AM.wp_reg hp0 ?_))
     have f65 := ow_ln o40
     have b66 := ow_big o40
     refine wpo_seg hp0 3 (fun s H' => s.length = 142 ∧ gt s 1 = v_1 ∧ gt s 5 = rv25 ∧ gt s 10 = v45 ∧ gt s 12 = rv61 ∧ gt s 80 = v38 ∧ gt s 81 = .int .i64 (r34.1.length : Int) ∧ gt s 82 = .int .i64 0 ∧ H = H') (by simp only [↓runs, isCall, ↓reduceIte, ↓gd_true, ↓gd_false, evs, AV.cells, Nat.reduceEqDiff, Nat.reduceLT, reduceCtorEq, Nat.reduceAdd, sy, f65, g1, g5, g8, g10, g12, hl]) ?_
     rintro s _ ⟨hl, g1, g5, g10, g12, g80, g81, g82, rfl⟩
     refine wpo_nil (then_n ?_)
     obtain ⟨z73, e74, hp⟩ := bn hp
     refine rangeS_ref hp0 142 r34.1.length (fun k x => P_semigrouplaw22_SubdirectProducts_l67 r23 r34 u k x) (fun _ x s H' => ∃ (W' : AH) (w12 : AV) (q12 : Frag), s.length = 142 ∧ gt s 12 = w12 ∧ gt s 1 = v_1 ∧ gt s 5 = rv25 ∧ gt s 10 = v45 ∧ gt s 80 = v38 ∧  Wle W W' ∧ St (q12 :: fg46 :: fg39 :: G) W' H' ∧ OwS W' w12 q12 (x : List Int)) e74 (b66) rfl ?_ ?_ hl g82 g81 ?_ ?_
     ·intro k x s H d v hd h; rcases hd with rfl | rfl | rfl <;> simpa only [gt_other, pt_length, Nat.reduceEqDiff, not_false_eq_true] using h
     ·replace hst := hst.p2
      replace hst := hst.p2
      replace hst := hst.p2
      exact ⟨W, _, _, hl, g12, g1, g5, g10, g80, .refl _, hst, o64⟩
     ·intro k69 x68 y70 s H hk hI hl g82 g81 hy71
      change P_semigrouplaw22_SubdirectProducts_l67 r23 r34 u k69 x68 = some y70 at hy71
      unfold P_semigrouplaw22_SubdirectProducts_l67 at hy71
      obtain ⟨W, v77, fg78, hl, g12, g1, g5, g10, g80, w76, hst, o79⟩ := hI
      replace h_1 := Rp.mono w76 h_1
      replace h27 := Rp.mono w76 h27
      replace o40 := o40.mono w76
      replace o47 := o47.mono w76
      refine AM.wp_seq hp0 (AM.wp_reg hp0 ?_)
      obtain ⟨x80, e81, hy71⟩ := bn hy71
      obtain ⟨p82, y83, f84, f85, h86⟩ := ow_at (k := .i64) hst (.tail _ (.tail _ (.head _))) o40 e81 rfl
      refine wpo_seg hp0 3 (fun s H' => s.length = 142 ∧ gt s 1 = v_1 ∧ gt s 5 = rv25 ∧ gt s 10 = v45 ∧ gt s 12 = v77 ∧ gt s 14 = y83 ∧ gt s 80 = v38 ∧ gt s 81 = .int .i64 (r34.1.length : Int) ∧ gt s 82 = .int .i64 (k69 : Int) ∧ H = H') (by simp only [↓runs, isCall, ↓reduceIte, ↓gd_true, ↓gd_false, evs, AV.cells, Nat.reduceEqDiff, Nat.reduceLT, reduceCtorEq, Nat.reduceAdd, sy, f84, f85, g1, g5, g10, g12, g80, g81, g82, hl]) ?_
      rintro s _ ⟨hl, g1, g5, g10, g12, g14, g80, g81, g82, rfl⟩
      refine wpo_nil (then_n ?_)
      refine AM.wp_seq hp0 (AM.wp_reg hp0 ?_)
      refine wpo_seg hp0 1 (fun s H' => s.length = 142 ∧ gt s 1 = v_1 ∧ gt s 5 = rv25 ∧ gt s 10 = v45 ∧ gt s 12 = v77 ∧ gt s 14 = y83 ∧ gt s 15 = .nils ∧ gt s 80 = v38 ∧ gt s 81 = .int .i64 (r34.1.length : Int) ∧ gt s 82 = .int .i64 (k69 : Int) ∧ H = H') (by simp only [↓runs, isCall, ↓reduceIte, ↓gd_true, ↓gd_false, evs, AV.cells, Nat.reduceEqDiff, Nat.reduceLT, reduceCtorEq, Nat.reduceAdd, sy, g1, g5, g10, g12, g14, g80, g81, g82, hl]) ?_
      rintro s _ ⟨hl, g1, g5, g10, g12, g14, g15, g80, g81, g82, rfl⟩
      refine wpo_nil (then_n ?_)
      refine AM.wp_seq hp0 (AM.wp_seq hp0 (AM.wp_reg hp0 ?_))
      have f87 := fz_ln h27
      refine wpo_seg hp0 3 (fun s H' => s.length = 142 ∧ gt s 1 = v_1 ∧ gt s 5 = rv25 ∧ gt s 10 = v45 ∧ gt s 12 = v77 ∧ gt s 14 = y83 ∧ gt s 15 = .nils ∧ gt s 80 = v38 ∧ gt s 81 = .int .i64 (r34.1.length : Int) ∧ gt s 82 = .int .i64 (k69 : Int) ∧ gt s 87 = .int .i64 (r23.length : Int) ∧ gt s 88 = .int .i64 0 ∧ H = H') (by simp only [↓runs, isCall, ↓reduceIte, ↓gd_true, ↓gd_false, evs, AV.cells, Nat.reduceEqDiff, Nat.reduceLT, reduceCtorEq, Nat.reduceAdd, sy, f87, g1, g5, g10, g12, g14, g15, g80, g81, g82, hl]) ?_
      rintro s _ ⟨hl, g1, g5, g10, g12, g14, g15, g80, g81, g82, g87, g88, rfl⟩
      refine wpo_nil (then_n ?_)
      replace hst := hst.nil
      have o89 := ow_nil (α := Int) W
      obtain ⟨z95, e96, hy71⟩ := bn hy71
      refine rangeS_ref hp0 142 r23.length (fun k x => P_semigrouplaw22_SubdirectProducts_l88 u x80 k x) (fun _ x s H' => ∃ (W' : AH) (w15 : AV) (q15 : Frag), s.length = 142 ∧ gt s 15 = w15 ∧ gt s 1 = v_1 ∧ gt s 5 = rv25 ∧ gt s 10 = v45 ∧ gt s 12 = v77 ∧ gt s 14 = y83 ∧ gt s 80 = v38 ∧ gt s 81 = .int .i64 (r34.1.length : Int) ∧ gt s 82 = .int .i64 (k69 : Int) ∧  Wle W W' ∧ St (q15 :: fg78 :: fg46 :: fg39 :: G) W' H' ∧ OwS W' w15 q15 (x : List Int)) e96 (fz_big h27) rfl ?_ ?_ hl g88 g87 ?_ ?_
      ·intro k x s H d v hd h; rcases hd with rfl | rfl | rfl <;> simpa only [gt_other, pt_length, Nat.reduceEqDiff, not_false_eq_true] using h
      ·replace hst := hst.p3
       replace hst := hst.p3
       replace hst := hst.p3
       replace hst := hst.p3
       exact ⟨W, _, _, hl, g15, g1, g5, g10, g12, g14, g80, g81, g82, .refl _, hst, o89⟩
      ·intro k91 x90 y92 s H hk hI hl g88 g87 hy93
       change P_semigrouplaw22_SubdirectProducts_l88 u x80 k91 x90 = some y92 at hy93
       unfold P_semigrouplaw22_SubdirectProducts_l88 at hy93
       obtain ⟨W, v99, fg100, hl, g15, g1, g5, g10, g12, g14, g80, g81, g82, w98, hst, o101⟩ := hI
       replace h_1 := Rp.mono w98 h_1
       replace h27 := Rp.mono w98 h27
       replace h86 := Rp.mono w98 h86
       replace o40 := o40.mono w98
       replace o47 := o47.mono w98
       replace o79 := o79.mono w98
       refine AM.wp_seq hp0 (AM.wp_reg hp0 ?_)
       refine wpo_seg hp0 2 (fun s H' => s.length = 142 ∧ gt s 1 = v_1 ∧ gt s 5 = rv25 ∧ gt s 10 = v45 ∧ gt s 12 = v77 ∧ gt s 14 = y83 ∧ gt s 15 = v99 ∧ gt s 16 = .int .i64 (k91 : Int) ∧ gt s 80 = v38 ∧ gt s 81 = .int .i64 (r34.1.length : Int) ∧ gt s 82 = .int .i64 (k69 : Int) ∧ gt s 87 = .int .i64 (r23.length : Int) ∧ gt s 88 = .int .i64 (k91 : Int) ∧ H = H') (by simp only [↓runs, isCall, ↓reduceIte, ↓gd_true, ↓gd_false, evs, AV.cells, Nat.reduceEqDiff, Nat.reduceLT, reduceCtorEq, Nat.reduceAdd, sy, g1, g5, g10, g12, g14, g15, g80, g81, g82, g87, g88, hl]) ?_
       rintro s _ ⟨hl, g1, g5, g10, g12, g14, g15, g16, g80, g81, g82, g87, g88, rfl⟩
       refine wpo_nil (then_n ?_)
       refine AM.wp_reg hp0 ?_
       have f102 := fz_ln h_1
       obtain ⟨x103, e104, hy93⟩ := bn hy93
       have f105 := dvq_ok e104
       obtain ⟨x106, e107, hy93⟩ := bn hy93
       obtain ⟨p108, _, f110, f111, rfl⟩ := fz_at (k := .i64) hst h86 e107 rfl
       obtain ⟨v113, l114, H115, fg116, W, f118, f119, f120, w117, hst, o121⟩ := ow_lit' (n := 1) (k := 1) (z := [.int .i64 0]) (ys := [.int .i64 x106]) (M := ([x106] : List (Int))) [(0, 1, .int .i64 x106)] rfl rfl hst (sc_cons (show Rp.rv _ (.int .i64 x106) (x106 : Int) from rfl) (sc_nil)) ((List.forall_mem_cons.2 ⟨rfl, fun _ h => (List.not_mem_nil h).elim⟩)) rfl rfl rfl (by decide)
       replace h_1 := Rp.mono w117 h_1
       replace h27 := Rp.mono w117 h27
       replace h86 := Rp.mono w117 h86
       replace o40 := o40.mono w117
       replace o47 := o47.mono w117
       replace o79 := o79.mono w117
       replace o101 := o101.mono w117
       obtain ⟨c122, sn123⟩ := ow_sn hst (.head _) o121
       obtain ⟨x124, e125, hy93⟩ := bn hy93
       replace hst := hst.p1
       obtain ⟨v126, H127, fg128, W, f130, w129, hst, o131⟩ := ow_apps [.int .i64 0] rfl hst o101 sn123 e125
       replace h_1 := Rp.mono w129 h_1
       replace h27 := Rp.mono w129 h27
       replace h86 := Rp.mono w129 h86
       replace o40 := o40.mono w129
       replace o47 := o47.mono w129
       replace o79 := o79.mono w129
       replace o121 := o121.mono w129
       refine wpo_seg hp0 11 (fun s H' => s.length = 142 ∧ gt s 1 = v_1 ∧ gt s 5 = rv25 ∧ gt s 10 = v45 ∧ gt s 12 = v77 ∧ gt s 14 = y83 ∧ gt s 15 = v126 ∧ gt s 80 = v38 ∧ gt s 81 = .int .i64 (r34.1.length : Int) ∧ gt s 82 = .int .i64 (k69 : Int) ∧ gt s 87 = .int .i64 (r23.length : Int) ∧ gt s 88 = .int .i64 (k91 : Int) ∧ H127 = H') (by simp only [↓runs, isCall, ↓reduceIte, ↓gd_true, ↓gd_false, evs, AV.cells, Nat.reduceEqDiff, Nat.reduceLT, reduceCtorEq, Nat.reduceAdd, sy, f102, f105, f110, f111, f118, f119, f120, f130, g1, g5, g10, g12, g14, g15, g16, g80, g81, g82, g87, g88, hl]) ?_
       rintro s _ ⟨hl, g1, g5, g10, g12, g14, g15, g80, g81, g82, g87, g88, rfl⟩
       refine wpo_nil ?_
       refine rnd_n ?_
       obtain rfl := Option.some.inj hy93
       replace hst := hst.p1
       replace hst := hst.drop
       replace hst := hst.p3
       replace hst := hst.p3
       replace hst := hst.p3
       replace hst := hst.p3
       exact ⟨hl, g88, g87, ⟨W, _, _, hl, g15, g1, g5, g10, g12, g14, g80, g81, g82, ((w98.trans w117).trans w129), hst, o131⟩⟩
      ·rintro s H hI _
       obtain ⟨W, v133, fg134, hl, g15, g1, g5, g10, g12, g14, g80, g81, g82, w132, hst, o135⟩ := hI
       replace h_1 := Rp.mono w132 h_1
       replace h27 := Rp.mono w132 h27
       replace h86 := Rp.mono w132 h86
       replace o40 := o40.mono w132
       replace o47 := o47.mono w132
       replace o79 := o79.mono w132
       refine then_n ?_
       refine AM.wp_reg hp0 ?_
       refine wpo_seg hp0 2 (fun s H' => s.length = 142 ∧ gt s 1 = v_1 ∧ gt s 5 = rv25 ∧ gt s 10 = v45 ∧ gt s 12 = v77 ∧ gt s 80 = v38 ∧ gt s 81 = .int .i64 (r34.1.length : Int) ∧ gt s 82 = .int .i64 (k69 : Int) ∧ gt s 102 = v77 ∧ gt s 103 = v133 ∧ H = H') (by simp only [↓runs, isCall, ↓reduceIte, ↓gd_true, ↓gd_false, evs, AV.cells, Nat.reduceEqDiff, Nat.reduceLT, reduceCtorEq, Nat.reduceAdd, sy, g1, g5, g10, g12, g14, g15, g80, g81, g82, hl]) ?_
       rintro s _ ⟨hl, g1, g5, g10, g12, g80, g81, g82, g102, g103, rfl⟩
       obtain ⟨W, w137, hst, h136⟩ := ow_frz hst o135
       replace h_1 := Rp.mono w137 h_1
       replace h27 := Rp.mono w137 h27
       replace o40 := o40.mono w137
       replace o47 := o47.mono w137
       replace o79 := o79.mono w137
       obtain ⟨r138, e139, hy71⟩ := bn hy71
       refine wpo_callK hp0 rfl (ys := [v133]) (by simp only [evs, List.map_cons, List.map_nil, ev_t, ev_c, g103]) (R_partition_Canonical hst h136 e139) ?_
       rintro rv140 H ⟨W, w141, fg142, hst, o143⟩
       replace h_1 := Rp.mono w141 h_1
       replace h27 := Rp.mono w141 h27
       replace h136 := Rp.mono w141 h136
       replace o40 := o40.mono w141
       replace o47 := o47.mono w141
       replace o79 := o79.mono w141
       refine wpo_seg hp0 0 (fun s H' => s.length = 142 ∧ gt s 1 = v_1 ∧ gt s 5 = rv25 ∧ gt s 10 = v45 ∧ gt s 12 = v77 ∧ gt s 80 = v38 ∧ gt s 81 = .int .i64 (r34.1.length : Int) ∧ gt s 82 = .int .i64 (k69 : Int) ∧ gt s 102 = v77 ∧ gt s 104 = rv140 ∧ H = H') (by simp only [↓runs, isCall, ↓reduceIte, ↓gd_true, ↓gd_false, evs, AV.cells, Nat.reduceEqDiff, Nat.reduceLT, reduceCtorEq, Nat.reduceAdd, sy, gt_other, g1, g5, g10, g12, g80, g81, g82, g102, g103, hl]) ?_
       rintro s _ ⟨hl, g1, g5, g10, g12, g80, g81, g82, g102, g104, rfl⟩
       replace hst := hst.p1
       obtain ⟨W, w145, hst, h144⟩ := ow_frz hst o79
       replace h_1 := Rp.mono w145 h_1
       replace h27 := Rp.mono w145 h27
       replace h136 := Rp.mono w145 h136
       replace o40 := o40.mono w145
       replace o47 := o47.mono w145
       replace o143 := o143.mono w145
       obtain ⟨W, w147, hst, h146⟩ := ow_frz hst o143
       replace h_1 := Rp.mono w147 h_1
       replace h27 := Rp.mono w147 h27
       replace h136 := Rp.mono w147 h136
       replace h144 := Rp.mono w147 h144
       replace o40 := o40.mono w147
       replace o47 := o47.mono w147
       obtain ⟨r148, e149, hy71⟩ := bn hy71
       refine wpo_callK hp0 rfl (ys := [v77, rv140]) (by simp only [evs, List.map_cons, List.map_nil, ev_t, ev_c, g102, g104]) (R_partition_Meet hst h144 h146 e149) ?_
       rintro rv150 H ⟨W, w151, fg152, hst, o153⟩
       replace h_1 := Rp.mono w151 h_1
       replace h27 := Rp.mono w151 h27
       replace h136 := Rp.mono w151 h136
       replace h144 := Rp.mono w151 h144
       replace h146 := Rp.mono w151 h146
       replace o40 := o40.mono w151
       replace o47 := o47.mono w151
       refine wpo_seg hp0 1 (fun s H' => s.length = 142 ∧ gt s 1 = v_1 ∧ gt s 5 = rv25 ∧ gt s 10 = v45 ∧ gt s 12 = rv150 ∧ gt s 80 = v38 ∧ gt s 81 = .int .i64 (r34.1.length : Int) ∧ gt s 82 = .int .i64 (k69 : Int) ∧ H = H') (by simp only [↓runs, isCall, ↓reduceIte, ↓gd_true, ↓gd_false, evs, AV.cells, Nat.reduceEqDiff, Nat.reduceLT, reduceCtorEq, Nat.reduceAdd, sy, gt_other, g1, g5, g10, g12, g80, g81, g82, g102, g104, hl]) ?_
       rintro s _ ⟨hl, g1, g5, g10, g12, g80, g81, g82, rfl⟩
       refine wpo_nil ?_
       refine rnd_n ?_
       obtain rfl := Option.some.inj hy71
       replace hst := hst.p2
       replace hst := hst.p2
       replace hst := hst.p2
       exact ⟨hl, g82, g81, ⟨W, _, _, hl, g12, g1, g5, g10, g80, ((((((w76.trans w132).trans w137).trans w141).trans w145).trans w147).trans w151), hst, o153⟩⟩
     ·rintro s H hI _
      obtain ⟨W, v155, fg156, hl, g12, g1, g5, g10, g80, w154, hst, o157⟩ := hI
      replace h_1 := Rp.mono w154 h_1
      replace h27 := Rp.mono w154 h27
      replace o40 := o40.mono w154
      replace o47 := o47.mono w154
      refine then_n ?_
      refine AM.wp_seq hp0 (AM.wp_seq hp0 (AM.wp_reg hp0 ?_))
      have f158 := ow_ln o47
      have b159 := ow_big o47
      refine wpo_seg hp0 3 (fun s H' => s.length = 142 ∧ gt s 1 = v_1 ∧ gt s 5 = rv25 ∧ gt s 12 = v155 ∧ gt s 107 = v45 ∧ gt s 108 = .int .i64 (r41.1.length : Int) ∧ gt s 109 = .int .i64 0 ∧ H = H') (by simp only [↓runs, isCall, ↓reduceIte, ↓gd_true, ↓gd_false, evs, AV.cells, Nat.reduceEqDiff, Nat.reduceLT, reduceCtorEq, Nat.reduceAdd, sy, f158, g1, g5, g10, g12, g80, hl]) ?_
      rintro s _ ⟨hl, g1, g5, g12, g107, g108, g109, rfl⟩
      refine wpo_nil (then_n ?_)
      obtain ⟨z166, e167, hp⟩ := bn hp
      refine rangeS_ref hp0 142 r41.1.length (fun k x => P_semigrouplaw22_SubdirectProducts_l160 r23 r41 u k x) (fun _ x s H' => ∃ (W' : AH) (w12 : AV) (q12 : Frag), s.length = 142 ∧ gt s 12 = w12 ∧ gt s 1 = v_1 ∧ gt s 5 = rv25 ∧ gt s 107 = v45 ∧  Wle W W' ∧ St (q12 :: fg46 :: G) W' H' ∧ OwS W' w12 q12 (x : List Int)) e167 (b159) rfl ?_ ?_ hl g109 g108 ?_ ?_
      ·intro k x s H d v hd h; rcases hd with rfl | rfl | rfl <;> simpa only [gt_other, pt_length, Nat.reduceEqDiff, not_false_eq_true] using h
      ·replace hst := hst.p2
       replace hst := hst.drop
       replace hst := hst.p1
       replace hst := hst.p1
       exact ⟨W, _, _, hl, g12, g1, g5, g107, .refl _, hst, o157⟩
      ·intro k162 x161 y163 s H hk hI hl g109 g108 hy164
       change P_semigrouplaw22_SubdirectProducts_l160 r23 r41 u k162 x161 = some y163 at hy164
       unfold P_semigrouplaw22_SubdirectProducts_l160 at hy164
       obtain ⟨W, v170, fg171, hl, g12, g1, g5, g107, w169, hst, o172⟩ := hI
       replace h_1 := Rp.mono w169 h_1
       replace h27 := Rp.mono w169 h27
       replace o47 := o47.mono w169
       refine AM.wp_seq hp0 (AM.wp_reg hp0 ?_)
       obtain ⟨x173, e174, hy164⟩ := bn hy164
       obtain ⟨p175, y176, f177, f178, h179⟩ := ow_at (k := .i64) hst (.tail _ (.head _)) o47 e174 rfl
       refine wpo_seg hp0 3 (fun s H' => s.length = 142 ∧ gt s 1 = v_1 ∧ gt s 5 = rv25 ∧ gt s 12 = v170 ∧ gt s 18 = y176 ∧ gt s 107 = v45 ∧ gt s 108 = .int .i64 (r41.1.length : Int) ∧ gt s 109 = .int .i64 (k162 : Int) ∧ H = H') (by simp only [↓runs, isCall, ↓reduceIte, ↓gd_true, ↓gd_false, evs, AV.cells, Nat.reduceEqDiff, Nat.reduceLT, reduceCtorEq, Nat.reduceAdd, sy, f177, f178, g1, g5, g12, g107, g108, g109, hl]) ?_
       rintro s _ ⟨hl, g1, g5, g12, g18, g107, g108, g109, rfl⟩
       refine wpo_nil (then_n ?_)
       refine AM.wp_seq hp0 (AM.wp_reg hp0 ?_)
       refine wpo_seg hp0 1 (fun s H' => s.length = 142 ∧ gt s 1 = v_1 ∧ gt s 5 = rv25 ∧ gt s 12 = v170 ∧ gt s 18 = y176 ∧ gt s 19 = .nils ∧ gt s 107 = v45 ∧ gt s 108 = .int .i64 (r41.1.length : Int) ∧ gt s 109 = .int .i64 (k162 : Int) ∧ H = H') (by simp only [↓runs, isCall, ↓reduceIte, ↓gd_true, ↓gd_false, evs, AV.cells, Nat.reduceEqDiff, Nat.reduceLT, reduceCtorEq, Nat.reduceAdd, sy, g1, g5, g12, g18, g107, g108, g109, hl]) ?_
       rintro s _ ⟨hl, g1, g5, g12, g18, g19, g107, g108, g109, rfl⟩
       refine wpo_nil (then_n ?_)
       refine AM.wp_seq hp0 (AM.wp_seq hp0 (AM.wp_reg hp0 ?_))
       have f180 := fz_ln h27
       refine wpo_seg hp0 3 (fun s H' => s.length = 142 ∧ gt s 1 = v_1 ∧ gt s 5 = rv25 ∧ gt s 12 = v170 ∧ gt s 18 = y176 ∧ gt s 19 = .nils ∧ gt s 107 = v45 ∧ gt s 108 = .int .i64 (r41.1.length : Int) ∧ gt s 109 = .int .i64 (k162 : Int) ∧ gt s 114 = .int .i64 (r23.length : Int) ∧ gt s 115 = .int .i64 0 ∧ H = H') (by simp only [↓runs, isCall, ↓reduceIte, ↓gd_true, ↓gd_false, evs, AV.cells, Nat.reduceEqDiff, Nat.reduceLT, reduceCtorEq, Nat.reduceAdd, sy, f180, g1, g5, g12, g18, g19, g107, g108, g109, hl]) ?_
       rintro s _ ⟨hl, g1, g5, g12, g18, g19, g107, g108, g109, g114, g115, rfl⟩
       refine wpo_nil (then_n ?_)
       replace hst := hst.nil
       have o182 := ow_nil (α := Int) W
       obtain ⟨z188, e189, hy164⟩ := bn hy164
       refine rangeS_ref hp0 142 r23.length (fun k x => P_semigrouplaw22_SubdirectProducts_l181 u x173 k x) (fun _ x s H' => ∃ (W' : AH) (w19 : AV) (q19 : Frag), s.length = 142 ∧ gt s 19 = w19 ∧ gt s 1 = v_1 ∧ gt s 5 = rv25 ∧ gt s 12 = v170 ∧ gt s 18 = y176 ∧ gt s 107 = v45 ∧ gt s 108 = .int .i64 (r41.1.length : Int) ∧ gt s 109 = .int .i64 (k162 : Int) ∧  Wle W W' ∧ St (q19 :: fg171 :: fg46 :: G) W' H' ∧ OwS W' w19 q19 (x : List Int)) e189 (fz_big h27) rfl ?_ ?_ hl g115 g114 ?_ ?_
       ·intro k x s H d v hd h; rcases hd with rfl | rfl | rfl <;> simpa only [gt_other, pt_length, Nat.reduceEqDiff, not_false_eq_true] using h
       ·replace hst := hst.p2
        replace hst := hst.p2
        replace hst := hst.p2
        exact ⟨W, _, _, hl, g19, g1, g5, g12, g18, g107, g108, g109, .refl _, hst, o182⟩
       ·intro k184 x183 y185 s H hk hI hl g115 g114 hy186
        change P_semigrouplaw22_SubdirectProducts_l181 u x173 k184 x183 = some y185 at hy186
        unfold P_semigrouplaw22_SubdirectProducts_l181 at hy186
        obtain ⟨W, v192, fg193, hl, g19, g1, g5, g12, g18, g107, g108, g109, w191, hst, o194⟩ := hI
        replace h_1 := Rp.mono w191 h_1
        replace h27 := Rp.mono w191 h27
        replace h179 := Rp.mono w191 h179
        replace o47 := o47.mono w191
        replace o172 := o172.mono w191
        refine AM.wp_seq hp0 (AM.wp_reg hp0 ?_)
        refine wpo_seg hp0 2 (fun s H' => s.length = 142 ∧ gt s 1 = v_1 ∧ gt s 5 = rv25 ∧ gt s 12 = v170 ∧ gt s 18 = y176 ∧ gt s 19 = v192 ∧ gt s 20 = .int .i64 (k184 : Int) ∧ gt s 107 = v45 ∧ gt s 108 = .int .i64 (r41.1.length : Int) ∧ gt s 109 = .int .i64 (k162 : Int) ∧ gt s 114 = .int .i64 (r23.length : Int) ∧ gt s 115 = .int .i64 (k184 : Int) ∧ H = H') (by simp only [↓runs, isCall, ↓reduceIte, ↓gd_true, ↓gd_false, evs, AV.cells, Nat.reduceEqDiff, Nat.reduceLT, reduceCtorEq, Nat.reduceAdd, sy, g1, g5, g12, g18, g19, g107, g108, g109, g114, g115, hl]) ?_
        rintro s _ ⟨hl, g1, g5, g12, g18, g19, g20, g107, g108, g109, g114, g115, rfl⟩
        refine wpo_nil (then_n ?_)
        refine AM.wp_reg hp0 ?_
        have f195 := fz_ln h_1
        obtain ⟨x196, e197, hy186⟩ := bn hy186
        have f198 := dvr_ok e197
        obtain ⟨x199, e200, hy186⟩ := bn hy186
        obtain ⟨p201, _, f203, f204, rfl⟩ := fz_at (k := .i64) hst h179 e200 rfl
        obtain ⟨v206, l207, H208, fg209, W, f211, f212, f213, w210, hst, o214⟩ := ow_lit' (n := 1) (k := 1) (z := [.int .i64 0]) (ys := [.int .i64 x199]) (M := ([x199] : List (Int))) [(0, 1, .int .i64 x199)] rfl rfl hst (sc_cons (show Rp.rv _ (.int .i64 x199) (x199 : Int) from rfl) (sc_nil)) ((List.forall_mem_cons.2 ⟨rfl, fun _ h => (List.not_mem_nil h).elim⟩)) rfl rfl rfl (by decide)
        replace h_1 := Rp.mono w210 h_1
        replace h27 := Rp.mono w210 h27
        replace h179 := Rp.mono w210 h179
        replace o47 := o47.mono w210
        replace o172 := o172.mono w210
        replace o194 := o194.mono w210
        obtain ⟨c215, sn216⟩ := ow_sn hst (.head _) o214
        obtain ⟨x217, e218, hy186⟩ := bn hy186
        replace hst := hst.p1
        obtain ⟨v219, H220, fg221, W, f223, w222, hst, o224⟩ := ow_apps [.int .i64 0] rfl hst o194 sn216 e218
        replace h_1 := Rp.mono w222 h_1
        replace h27 := Rp.mono w222 h27
        replace h179 := Rp.mono w222 h179
        replace o47 := o47.mono w222
        replace o172 := o172.mono w222
        replace o214 := o214.mono w222
        refine wpo_seg hp0 11 (fun s H' => s.length = 142 ∧ gt s 1 = v_1 ∧ gt s 5 = rv25 ∧ gt s 12 = v170 ∧ gt s 18 = y176 ∧ gt s 19 = v219 ∧ gt s 107 = v45 ∧ gt s 108 = .int .i64 (r41.1.length : Int) ∧ gt s 109 = .int .i64 (k162 : Int) ∧ gt s 114 = .int .i64 (r23.length : Int) ∧ gt s 115 = .int .i64 (k184 : Int) ∧ H220 = H') (by simp only [↓runs, isCall, ↓reduceIte, ↓gd_true, ↓gd_false, evs, AV.cells, Nat.reduceEqDiff, Nat.reduceLT, reduceCtorEq, Nat.reduceAdd, sy, f195, f198, f203, f204, f211, f212, f213, f223, g1, g5, g12, g18, g19, g20, g107, g108, g109, g114, g115, hl]) ?_
        rintro s _ ⟨hl, g1, g5, g12, g18, g19, g107, g108, g109, g114, g115, rfl⟩
        refine wpo_nil ?_
        refine rnd_n ?_
        obtain rfl := Option.some.inj hy186
        replace hst := hst.p1
        replace hst := hst.drop
        replace hst := hst.p2
        replace hst := hst.p2
        replace hst := hst.p2
        exact ⟨hl, g115, g114, ⟨W, _, _, hl, g19, g1, g5, g12, g18, g107, g108, g109, ((w191.trans w210).trans w222), hst, o224⟩⟩
       ·rintro s H hI _
        obtain ⟨W, v226, fg227, hl, g19, g1, g5, g12, g18, g107, g108, g109, w225, hst, o228⟩ := hI
        replace h_1 := Rp.mono w225 h_1
        replace h27 := Rp.mono w225 h27
        replace h179 := Rp.mono w225 h179
        replace o47 := o47.mono w225
        replace o172 := o172.mono w225
        refine then_n ?_
        refine AM.wp_reg hp0 ?_
        refine wpo_seg hp0 2 (fun s H' => s.length = 142 ∧ gt s 1 = v_1 ∧ gt s 5 = rv25 ∧ gt s 12 = v170 ∧ gt s 107 = v45 ∧ gt s 108 = .int .i64 (r41.1.length : Int) ∧ gt s 109 = .int .i64 (k162 : Int) ∧ gt s 129 = v170 ∧ gt s 130 = v226 ∧ H = H') (by simp only [↓runs, isCall, ↓reduceIte, ↓gd_true, ↓gd_false, evs, AV.cells, Nat.reduceEqDiff, Nat.reduceLT, reduceCtorEq, Nat.reduceAdd, sy, g1, g5, g12, g18, g19, g107, g108, g109, hl]) ?_
        rintro s _ ⟨hl, g1, g5, g12, g107, g108, g109, g129, g130, rfl⟩
        obtain ⟨W, w230, hst, h229⟩ := ow_frz hst o228
        replace h_1 := Rp.mono w230 h_1
        replace h27 := Rp.mono w230 h27
        replace o47 := o47.mono w230
        replace o172 := o172.mono w230
        obtain ⟨r231, e232, hy164⟩ := bn hy164
        refine wpo_callK hp0 rfl (ys := [v226]) (by simp only [evs, List.map_cons, List.map_nil, ev_t, ev_c, g130]) (R_partition_Canonical hst h229 e232) ?_
        rintro rv233 H ⟨W, w234, fg235, hst, o236⟩
        replace h_1 := Rp.mono w234 h_1
        replace h27 := Rp.mono w234 h27
        replace h229 := Rp.mono w234 h229
        replace o47 := o47.mono w234
        replace o172 := o172.mono w234
        refine wpo_seg hp0 0 (fun s H' => s.length = 142 ∧ gt s 1 = v_1 ∧ gt s 5 = rv25 ∧ gt s 12 = v170 ∧ gt s 107 = v45 ∧ gt s 108 = .int .i64 (r41.1.length : Int) ∧ gt s 109 = .int .i64 (k162 : Int) ∧ gt s 129 = v170 ∧ gt s 131 = rv233 ∧ H = H') (by simp only [↓runs, isCall, ↓reduceIte, ↓gd_true, ↓gd_false, evs, AV.cells, Nat.reduceEqDiff, Nat.reduceLT, reduceCtorEq, Nat.reduceAdd, sy, gt_other, g1, g5, g12, g107, g108, g109, g129, g130, hl]) ?_
        rintro s _ ⟨hl, g1, g5, g12, g107, g108, g109, g129, g131, rfl⟩
        replace hst := hst.p1
        obtain ⟨W, w238, hst, h237⟩ := ow_frz hst o172
        replace h_1 := Rp.mono w238 h_1
        replace h27 := Rp.mono w238 h27
        replace h229 := Rp.mono w238 h229
        replace o47 := o47.mono w238
        replace o236 := o236.mono w238
        obtain ⟨W, w240, hst, h239⟩ := ow_frz hst o236
        replace h_1 := Rp.mono w240 h_1
        replace h27 := Rp.mono w240 h27
        replace h229 := Rp.mono w240 h229
        replace h237 := Rp.mono w240 h237
        replace o47 := o47.mono w240
        obtain ⟨r241, e242, hy164⟩ := bn hy164
        refine wpo_callK hp0 rfl (ys := [v170, rv233]) (by simp only [evs, List.map_cons, List.map_nil, ev_t, ev_c, g129, g131]) (R_partition_Meet hst h237 h239 e242) ?_
        rintro rv243 H ⟨W, w244, fg245, hst, o246⟩
        replace h_1 := Rp.mono w244 h_1
        replace h27 := Rp.mono w244 h27
        replace h229 := Rp.mono w244 h229
        replace h237 := Rp.mono w244 h237
        replace h239 := Rp.mono w244 h239
        replace o47 := o47.mono w244
        refine wpo_seg hp0 1 (fun s H' => s.length = 142 ∧ gt s 1 = v_1 ∧ gt s 5 = rv25 ∧ gt s 12 = rv243 ∧ gt s 107 = v45 ∧ gt s 108 = .int .i64 (r41.1.length : Int) ∧ gt s 109 = .int .i64 (k162 : Int) ∧ H = H') (by simp only [↓runs, isCall, ↓reduceIte, ↓gd_true, ↓gd_false, evs, AV.cells, Nat.reduceEqDiff, Nat.reduceLT, reduceCtorEq, Nat.reduceAdd, sy, gt_other, g1, g5, g12, g107, g108, g109, g129, g131, hl]) ?_
        rintro s _ ⟨hl, g1, g5, g12, g107, g108, g109, rfl⟩
        refine wpo_nil ?_
        refine rnd_n ?_
        obtain rfl := Option.some.inj hy164
        replace hst := hst.p1
        replace hst := hst.p1
        exact ⟨hl, g109, g108, ⟨W, _, _, hl, g12, g1, g5, g107, ((((((w169.trans w225).trans w230).trans w234).trans w238).trans w240).trans w244), hst, o246⟩⟩
      ·rintro s H hI _
       obtain ⟨W, v248, fg249, hl, g12, g1, g5, g107, w247, hst, o250⟩ := hI
       replace h_1 := Rp.mono w247 h_1
       replace h27 := Rp.mono w247 h27
       replace o47 := o47.mono w247
       refine then_n ?_
       refine AM.wp_seq hp0 ?_
       obtain ⟨z251, hj252, hp⟩ := bn hp
       refine AM.wp_regK hp0 (fun s H' => ∃ (W' : AH), s.length = 142 ∧ gt s 4 = .bool z251 ∧  Wle W W' ∧ St G W' H') ?_ ?_
       ·refine wpo_seg hp0 1 (fun s H' => s.length = 142 ∧ gt s 5 = rv25 ∧ gt s 134 = v248 ∧ H = H') (by simp only [↓runs, isCall, ↓reduceIte, ↓gd_true, ↓gd_false, evs, AV.cells, Nat.reduceEqDiff, Nat.reduceLT, reduceCtorEq, Nat.reduceAdd, sy, g1, g5, g12, g107, hl]) ?_
        rintro s _ ⟨hl, g5, g134, rfl⟩
        obtain ⟨W, w254, hst, h253⟩ := ow_frz hst o250
        replace h27 := Rp.mono w254 h27
        replace o47 := o47.mono w254
        obtain ⟨r255, e256, hj252⟩ := bn hj252
        refine wpo_callK hp0 rfl (ys := [v248]) (by simp only [evs, List.map_cons, List.map_nil, ev_t, ev_c, g134]) (R_partition_Count hst h253 e256) ?_
        rintro rv257 H ⟨W, w258, hst, rfl⟩
        replace h27 := Rp.mono w258 h27
        replace h253 := Rp.mono w258 h253
        replace o47 := o47.mono w258
        have f259 := fz_ln h27
        rcases Bool.eq_false_or_eq_true (decide (r255 = (r23.length : Int))) with c260 | c260
        ·replace hj252 := ifT c260 hj252
         refine wpo_seg hp0 4 (fun s H' => s.length = 142 ∧ gt s 139 = .bool true ∧ H = H') (by simp only [↓runs, isCall, ↓reduceIte, ↓gd_true, ↓gd_false, evs, AV.cells, Nat.reduceEqDiff, Nat.reduceLT, reduceCtorEq, Nat.reduceAdd, sy, gt_other, f259, c260, g5, g134, hl]) ?_
         rintro s _ ⟨hl, g139, rfl⟩
         obtain ⟨r261, e262, hj252⟩ := bn hj252
         refine wpo_callK hp0 (by simp only [wanted, g139, beq_self_eq_true]) (ys := []) (by simp only [evs, List.map_cons, List.map_nil, ev_t, ev_c]) (R_semigrouplaw22_awake hst e262) ?_
         rintro rv263 H ⟨W, w264, hst, rfl⟩
         replace h27 := Rp.mono w264 h27
         replace h253 := Rp.mono w264 h253
         replace o47 := o47.mono w264
         refine wpo_seg hp0 2 (fun s H' => s.length = 142 ∧ gt s 4 = .bool r261 ∧ H = H') (by simp only [↓runs, isCall, ↓reduceIte, ↓gd_true, ↓gd_false, evs, AV.cells, Nat.reduceEqDiff, Nat.reduceLT, reduceCtorEq, Nat.reduceAdd, sy, gt_other, g139, hl]) ?_
         rintro s _ ⟨hl, g4, rfl⟩
         refine wpo_nil ?_
         obtain rfl := Option.some.inj hj252
         replace hst := hst.drop
         exact ⟨W, hl, g4, ((w254.trans w258).trans w264), hst⟩
        ·replace hj252 := ifF c260 hj252
         refine wpo_seg hp0 7 (fun s H' => s.length = 142 ∧ gt s 4 = .bool false ∧ H = H') (by simp only [↓runs, isCall, ↓reduceIte, ↓gd_true, ↓gd_false, evs, AV.cells, Nat.reduceEqDiff, Nat.reduceLT, reduceCtorEq, Nat.reduceAdd, sy, gt_other, f259, c260, g5, g134, hl]) ?_
         rintro s _ ⟨hl, g4, rfl⟩
         refine wpo_nil ?_
         obtain rfl := Option.some.inj hj252
         replace hst := hst.drop
         exact ⟨W, hl, g4, (w254.trans w258), hst⟩
       ·rintro s H ⟨W, hl, g4, w265, hst⟩
        refine then_n ?_
        refine AM.wp_ret ?_
        obtain rfl := Option.some.inj hp
        refine body_ret (vs := [.bool z251]) (by simp only [rvs, f_semigrouplaw22_SubdirectProducts, Option.map_some, g4]) ?_
        exact ⟨W, ((((((((w17.trans w26).trans w31).trans w37).trans w44).trans w62).trans w154).trans w247).trans w265), hst, rfl⟩

end Go.Proofs.Ytmdpejgnkoneoaa.Pu
set_option maxRecDepth 10000
namespace Go.Proofs.Ytmdpejgnkoneoaa.Mt
open Go Go.AM Go.AM.Par Go.AM.Cg Go.AM.Lx Go.Proofs.Ytmdpejgnkoneoaa.Pu

theorem dq {k m : Nat} (hm : 0 < m) (hk : k ≤ 1000000) : dvq (k : Int) (m : Int) = some ((k / m : Nat) : Int) := by
  unfold dvq
  rw [if_neg (by omega)]
  show some (w64 ((k / m : Nat) : Int)) = _
  have := Nat.div_le_self k m
  generalize k / m = q at *
  rw [w64_id (by omega) (by omega)]
theorem dr {k m : Nat} (hm : 0 < m) : dvr (k : Int) (m : Int) = some ((k % m : Nat) : Int) := by
  unfold dvr
  rw [if_neg (by omega)]
  rfl
def dirT (m : Nat) (T U : Nat → Nat → Nat) (i j : Nat) : Nat := m * T (i / m) (j / m) + U (i % m) (j % m)
theorem dir_div {m : Nat} {a b : Nat} (h : b < m) : (m * a + b) / m = a := by rw [Nat.mul_add_div (by omega), Nat.div_eq_of_lt h]; omega
theorem dir_mod {m : Nat} {a b : Nat} (h : b < m) : (m * a + b) % m = b := by rw [Nat.mul_add_mod, Nat.mod_eq_of_lt h]
theorem dir_lt {n m a b : Nat} (ha : a < n) (hb : b < m) : m * a + b < n * m := by
  have h1 : m * (a + 1) ≤ m * n := Nat.mul_le_mul_left m (by omega)
  rw [Nat.mul_add] at h1
  rw [Nat.mul_comm n m]
  omega
theorem div_lt {n m i : Nat} (h : i < n * m) : i / m < n := Nat.div_lt_of_lt_mul (by rw [Nat.mul_comm]; exact h)

theorem dir_sg {t u : List (List Int)} {n m : Nat} {T U : Nat → Nat → Nat} (h : Sg t n T) (g : Sg u m U) (hnm : n * m ≤ 400) : Sg (tab (n * m) fun i => tab (n * m) fun j => (dirT m T U i j : Int)) (n * m) (dirT m T U) := by
  have hm := g.pos
  have hlt : ∀ x y, x < n * m → y < n * m → T (x / m) (y / m) < n ∧ U (x % m) (y % m) < m := fun x y hx hy => ⟨h.lt _ _ (div_lt hx) (div_lt hy), g.lt _ _ (Nat.mod_lt _ hm) (Nat.mod_lt _ hm)⟩
  refine ⟨⟨by simp, Nat.mul_pos h.pos hm, hnm, fun x hx => by rw [tab_getD hx]; simp, fun x y hx hy => by rw [tab_getD hx, tab_getD hy], fun x y hx hy => ?_⟩, fun x y z hx hy hz => ?_⟩
  · obtain ⟨a, b⟩ := hlt x y hx hy
    exact dir_lt a b
  · obtain ⟨a, b⟩ := hlt x y hx hy
    obtain ⟨c, d⟩ := hlt y z hy hz
    unfold dirT
    rw [dir_div b, dir_mod b, dir_div d, dir_mod d, h.assoc _ _ _ (div_lt hx) (div_lt hy) (div_lt hz), g.assoc _ _ _ (Nat.mod_lt _ hm) (Nat.mod_lt _ hm) (Nat.mod_lt _ hm)]

theorem direct {t u : List (List Int)} {n m : Nat} {T U : Nat → Nat → Nat} (h : Sg t n T) (g : Sg u m U) (hnm : n * m ≤ 400) : P_mult_Direct t u = some (tab (n * m) fun i => tab (n * m) fun j => (dirT m T U i j : Int)) := by
  have hm := g.pos
  have hn := h.pos
  have hdv : ∀ i, i < n * m → i / m < n := fun i hi => div_lt hi
  have hfit : ∀ i j, i < n * m → j < n * m → w64 (w64 ((T (i / m) (j / m) : Int) * (m : Int)) + (U (i % m) (j % m) : Int)) = (dirT m T U i j : Int) := fun i j hi hj => by
    have a := h.lt _ _ (hdv i hi) (hdv j hj)
    have b := g.lt _ _ (Nat.mod_lt i hm) (Nat.mod_lt j hm)
    have c := dir_lt a b
    have e : (T (i / m) (j / m) : Int) * (m : Int) = ((m * T (i / m) (j / m) : Nat) : Int) := by rw [Nat.mul_comm]; exact (Int.natCast_mul _ _).symm
    unfold dirT
    rw [e]
    generalize m * T (i / m) (j / m) = A at *
    generalize U (i % m) (j % m) = B at *
    rw [w64_id (x := (A : Int)) (by omega) (by omega), w64_id (by omega) (by omega)]
    omega
  have hw : w64 ((n : Int) * (m : Int)) = ((n * m : Nat) : Int) := by
    rw [← Int.natCast_mul]
    exact w64_id (by omega) (by omega)
  have hm4 := g.le
  unfold P_mult_Direct
  rw [validate, validate, h.valid, g.valid, h.len, g.len, hw]
  generalize hN : n * m = N at *
  have c : decide (400 < (N : Int)) = false := decide_eq_false (by omega)
  simp only [Option.bind_some, decide_true, Bool.not_true, Bool.false_eq_true, if_false, c]
  rw [mkz_ok (by omega) (by omega)]
  simp only [Option.bind_some, List.length_replicate]
  obtain ⟨y, hy, h1, h2⟩ := forS_inv (n := N) (f := fun k x => P_mult_Direct_l29 t u k x) (x := List.replicate N [])
    (fun k X => X.length = N ∧ ∀ i, i < k → X.getD i [] = tab N fun j => (dirT m T U i j : Int)) ⟨by simp, fun i hi => by omega⟩ (by
      rintro i X hi ⟨h1, h2⟩
      unfold P_mult_Direct_l29
      rw [h1, mkz_ok (by omega) (by omega)]
      simp only [Option.bind_some]
      rw [gi_lt [] (by omega)]
      simp only [Option.bind_some, Int.toNat_natCast, List.length_set, h1]
      obtain ⟨y, hy, q1, q2, q3, q4⟩ := forS_inv (n := N) (f := fun k x => P_mult_Direct_l69 i t u k x) (x := X.set i (List.replicate N 0))
        (fun j Y => Y.length = N ∧ (∀ q, q ≠ i → Y.getD q [] = X.getD q []) ∧ (Y.getD i []).length = N ∧ ∀ q, q < j → (Y.getD i []).getD q 0 = (dirT m T U i q : Int))
        ⟨by simp [h1], fun q hq => by rw [getD_set', if_neg (fun h => hq h.1.symm)], by rw [getD_set', if_pos ⟨rfl, by omega⟩]; simp, fun q hq => by omega⟩ (by
          rintro j Y hj ⟨q1, q2, q3, q4⟩
          have mi := Nat.mod_lt i hm; have mj := Nat.mod_lt j hm; have di := hdv i hi; have dj := hdv j hj
          unfold P_mult_Direct_l69
          rw [gi_lt [] (by omega)]
          simp only [Option.bind_some, g.len, dq hm (show i ≤ 1000000 by omega), dq hm (show j ≤ 1000000 by omega), dr hm]
          rw [h.gi1 di]; simp only [Option.bind_some]
          rw [h.gi2 di dj]; simp only [Option.bind_some]
          rw [g.gi1 mi]; simp only [Option.bind_some]
          rw [g.gi2 mi mj]; simp only [Option.bind_some]
          rw [hfit i j hi hj, si_lt (by omega)]
          refine ⟨_, rfl, by simpa using q1, fun q hq => ?_, ?_, fun q hq => ?_⟩
          · rw [Int.toNat_natCast, getD_set', if_neg (fun h => hq h.1.symm)]; exact q2 q hq
          · rw [Int.toNat_natCast, getD_set', if_pos ⟨rfl, by omega⟩]; simpa using q3
          · rw [Int.toNat_natCast, getD_set', if_pos ⟨rfl, by omega⟩, getD_set']
            split
            · rename_i e; rw [e.1]
            · rename_i e
              exact q4 q (by
                rcases Nat.lt_or_ge q j with h | h
                · exact h
                · exact absurd ⟨by omega, by omega⟩ e))
      rw [hy]
      refine ⟨_, rfl, q1, fun q hq => ?_⟩
      by_cases e : q = i
      · subst e
        exact list_ext 0 (by simpa using q3) fun w hw => by rw [q4 w (by omega), tab_getD (by omega)]
      · rw [q2 q e]; exact h2 q (by omega))
  rw [hy]
  simp only [Option.bind_some, Option.some.injEq]
  exact list_ext [] (by simp [h1]) fun i hi => by rw [h2 i (by omega), tab_getD (by omega)]

theorem dir_disc {t u : List (List Int)} {n m : Nat} {T U : Nat → Nat → Nat} (h : Sg t n T) (g : Sg u m U) (hn : 2 ≤ n) (hm : 2 ≤ m) : Disc (n * m) (Mon (n * m) (dirT m T U)) := by
  have hnm : 2 * m ≤ n * m := Nat.mul_le_mul_right m hn
  have hm0 : 0 < m := by omega
  have hd : ∀ x y, x < n * m → y < n * m → dirT m T U x y / m = T (x / m) (y / m) := fun x y hx hy => dir_div (g.lt _ _ (Nat.mod_lt _ hm0) (Nat.mod_lt _ hm0))
  have hr : ∀ x y, x < n * m → y < n * m → dirT m T U x y % m = U (x % m) (y % m) := fun x y hx hy => dir_mod (g.lt _ _ (Nat.mod_lt _ hm0) (Nat.mod_lt _ hm0))
  intro x y hx hy hxy
  have e1 := hxy 0 1 (by omega) (by omega) (by omega) (fun u v => u / m = v / m) ⟨fun _ => rfl, fun _ _ e => e.symm, fun _ _ _ e e2 => e.trans e2, fun _ s x y hs hx hy e => by rw [hd s x hs hx, hd s y hs hy, e], fun _ s x y hs hx hy e => by rw [hd x s hx hs, hd y s hy hs, e]⟩ (fun p hp => by
    simp only [List.mem_singleton] at hp; subst hp
    show 0 / m = 1 / m
    rw [Nat.div_eq_of_lt (by omega), Nat.div_eq_of_lt (by omega)])
  have e2 := hxy 0 m (by omega) (by omega) (by omega) (fun u v => u % m = v % m) ⟨fun _ => rfl, fun _ _ e => e.symm, fun _ _ _ e e2 => e.trans e2, fun _ s x y hs hx hy e => by rw [hr s x hs hx, hr s y hs hy, e], fun _ s x y hs hx hy e => by rw [hr x s hx hs, hr y s hy hs, e]⟩ (fun p hp => by
    simp only [List.mem_singleton] at hp; subst hp
    show 0 % m = m % m
    simp)
  rw [← Nat.div_add_mod x m, ← Nat.div_add_mod y m, e1, e2]
end Go.Proofs.Ytmdpejgnkoneoaa.Mt
set_option maxRecDepth 10000
namespace Go.Proofs.Ytmdpejgnkoneoaa.Mt
open Go Go.AM Go.AM.Par Go.AM.Cg Go.AM.Lx Go.Proofs.Ytmdpejgnkoneoaa.Pu

theorem small (t : List (List Int)) (m : Int) : P_semigrouplaw22_small t m = some (decide ((t.length : Int) ≤ m ∧ validM t = 0)) := by
  unfold P_semigrouplaw22_small
  rw [ref_Valid]
  simp only [Option.bind_some]
  by_cases h : (t.length : Int) ≤ m
  · rw [if_pos (decide_eq_true h)]
    simp only [Option.bind_some, h, true_and]
  · rw [if_neg (by simpa using h)]
    simp only [Option.bind_some, h, false_and, decide_false]

theorem push_loop {N : Nat} {f : Nat → List Int → Option (List Int)} {v : Nat → Int} (hN : N ≤ 400) (hf : ∀ k (X : List Int), k < N → X.length = k → f k X = pus 8 X [v k] >>= fun x => some x) : forS N f [] = some (tab N v) := by
  obtain ⟨y, hy, hQ⟩ := forS_inv (n := N) (f := f) (x := []) (fun k X => X = tab k v) (by simp [tab]) (by
    rintro k _ hk rfl
    rw [hf k _ hk (by simp), pus_ok (by simp; omega) (by omega)]
    exact ⟨_, rfl, by simp [tab, List.range_succ]⟩)
  rw [hy, hQ]

theorem pull {n N : Nat} {l : List (List Int)} {σ : Nat → Nat} {f : Nat → List Int → Option (List Int)} (hN : N ≤ 400) (hσ : ∀ i, i < N → σ i < n) (hl : ∀ k, k < l.length → (l.getD k []).length = n)
    (hf : ∀ k (X : List Int), k < l.length → f k X = Option.bind (P_partition_Canonical (tab N fun i => (l.getD k []).getD (σ i) 0)) fun r => Option.bind (P_partition_Meet X r) fun r2 => some r2)
    {θ : Nat → Nat → Prop} {p : List Int} (hp : IsP N θ p) :
    ∃ q, forS l.length f p = some q ∧ IsP N (fun x y => θ x y ∧ InfTo l (-1) l.length (σ x) (σ y)) q := by
  obtain ⟨y, hy, hQ⟩ := forS_inv (n := l.length) (f := f) (x := p) (fun k X => IsP N (fun x y => θ x y ∧ InfTo l (-1) k (σ x) (σ y)) X)
    (hp.mono fun x y _ _ => ⟨fun h => ⟨h, fun j hj => by omega⟩, fun h => h.1⟩) (by
      intro k X hk hX
      rw [hf k X hk, canonical _ (by simp; omega)]
      simp only [Option.bind_some]
      have hc : IsP N (fun x y => (l.getD k []).getD (σ x) 0 = (l.getD k []).getD (σ y) 0) (canonI (tab N fun i => (l.getD k []).getD (σ i) 0)) :=
        IsP.of (by simp) fun x y hx hy => by rw [tab_getD hx, tab_getD hy]
      obtain ⟨r, e, hr⟩ := meet hX hc (by omega)
      rw [e]
      refine ⟨_, rfl, hr.mono fun x y _ _ => ?_⟩
      have := inf_step (list := l) (b := -1) (k := k) (x := σ x) (y := σ y) (by omega)
      constructor
      · rintro ⟨⟨a, b⟩, c⟩; exact ⟨a, this.1 ⟨b, c⟩⟩
      · rintro ⟨a, b⟩; exact ⟨⟨a, (this.2 b).1⟩, (this.2 b).2⟩)
  exact ⟨y, hy, hQ⟩

theorem prod_core {t u : List (List Int)} {n m : Nat} {T U : Nat → Nat → Nat} (h : Sg t n T) (g : Sg u m U) (hn : 2 ≤ n ∧ n ≤ 3) (hm : 2 ≤ m ∧ m ≤ 3) {D : List (List Int)} (hD : D.length = n * m) {l l' : List (List Int)} (hl : ChkP n T l) (hl' : ChkP m U l') {z z' : Int} :
    ∃ q q', forS l.length (fun k x => P_semigrouplaw22_SubdirectProducts_l67 D (l, z) u k x) (List.replicate (n * m) 0) = some q ∧ forS l'.length (fun k x => P_semigrouplaw22_SubdirectProducts_l160 D (l', z') u k x) q = some q' ∧ P_partition_Count q' = some ((n * m : Nat) : Int) := by
  have hN : n * m ≤ 9 := Nat.mul_le_mul (n₂ := 3) (m₂ := 3) hn.2 hm.2
  have hm0 : 0 < m := by omega
  obtain ⟨q, e1, h1⟩ := pull (N := n * m) (n := n) (l := l) (σ := fun i => i / m) (f := fun k x => P_semigrouplaw22_SubdirectProducts_l67 D (l, z) u k x) (by omega) (fun i hi => div_lt hi) (fun k hk => (hl.1 k hk).1.1) (fun k X hk => by
    unfold P_semigrouplaw22_SubdirectProducts_l67
    rw [gi_lt [] hk, hD]
    simp only [Option.bind_some]
    rw [push_loop (v := fun i => (l.getD k []).getD (i / m) 0) (by omega) fun i Y hi hY => by
      have hlen := (hl.1 k hk).1.1
      have hdi : i / m < n := div_lt hi
      unfold P_semigrouplaw22_SubdirectProducts_l88
      rw [g.len, dq hm0 (by omega)]
      simp only [Option.bind_some]
      rw [gi_lt 0 (by rw [hlen]; exact hdi)]
      rfl]
    rfl) (rep_isP (n * m))
  obtain ⟨q', e2, h2⟩ := pull (N := n * m) (n := m) (l := l') (σ := fun i => i % m) (f := fun k x => P_semigrouplaw22_SubdirectProducts_l160 D (l', z') u k x) (by omega) (fun i hi => Nat.mod_lt i hm0) (fun k hk => (hl'.1 k hk).1.1) (fun k X hk => by
    unfold P_semigrouplaw22_SubdirectProducts_l160
    rw [gi_lt [] hk, hD]
    simp only [Option.bind_some]
    rw [push_loop (v := fun i => (l'.getD k []).getD (i % m) 0) (by omega) fun i Y hi hY => by
      have hlen := (hl'.1 k hk).1.1
      have hdi : i % m < m := Nat.mod_lt i hm0
      unfold P_semigrouplaw22_SubdirectProducts_l181
      rw [g.len, dr hm0]
      simp only [Option.bind_some]
      rw [gi_lt 0 (by rw [hlen]; exact hdi)]
      rfl]
    rfl) h1
  refine ⟨q, q', e1, e2, ?_⟩
  rw [count, if_pos (h2.valid (by omega)), (isP_full h2).2]
  rintro x y hx hy ⟨⟨_, a⟩, b⟩
  have c1 := hl.2.1 (x / m) (y / m) (div_lt hx) (div_lt hy) a
  have c2 := hl'.2.1 (x % m) (y % m) (Nat.mod_lt _ hm0) (Nat.mod_lt _ hm0) b
  rw [← Nat.div_add_mod x m, ← Nat.div_add_mod y m, c1, c2]

open Classical in
theorem SubdirectProducts (t u : List (List Int)) : P_semigrouplaw22_SubdirectProducts t u = some true := by
  unfold P_semigrouplaw22_SubdirectProducts
  rw [small, small, awake]
  simp only [Option.bind_some]
  by_cases c1 : (t.length : Int) ≤ 3 ∧ validM t = 0
  · by_cases c2 : (u.length : Int) ≤ 3 ∧ validM u = 0
    · by_cases c3 : (t.length : Int) < 2
      · simp only [decide_eq_true c1, decide_eq_true c2, decide_eq_true c3, Bool.not_true, Bool.false_eq_true, if_false, if_true, Option.bind_some]
      · by_cases c4 : (u.length : Int) < 2
        · simp only [decide_eq_true c1, decide_eq_true c2, decide_eq_false c3, decide_eq_true c4, Bool.not_true, Bool.false_eq_true, if_false, if_true, Option.bind_some]
        · have h := valid_sg.1 c1.2
          have g := valid_sg.1 c2.2
          have hN : t.length * u.length ≤ 9 := Nat.mul_le_mul (n₂ := 3) (m₂ := 3) (by omega) (by omega)
          have hs := dir_sg h g (by omega)
          have hdi := direct h g (by omega)
          obtain ⟨l, e, hC, _⟩ := decompose h
          obtain ⟨l', e', hC', _⟩ := decompose g
          have hirr : P_subdirect_Irreducible (tab (t.length * u.length) fun i => tab (t.length * u.length) fun j => (dirT u.length (natT t) (natT u) i j : Int)) = some ([], false) := by
            rcases irreducible hs with ⟨a, _⟩ | ⟨p, _, _, c, _⟩
            · exact a
            · exact absurd (dir_disc h g (by omega) (by omega)) c
          simp only [decide_eq_true c1, decide_eq_true c2, decide_eq_false c3, decide_eq_false c4, Bool.not_true, Bool.false_eq_true, if_false, Option.bind_some]
          rw [hdi]
          simp only [Option.bind_some]
          rw [hirr, e, e']
          have hw : w64 ((t.length : Int) * (u.length : Int)) = ((t.length * u.length : Nat) : Int) := by
            rw [← Int.natCast_mul]
            exact w64_id (by omega) (by omega)
          obtain ⟨q, q', a1, a2, a3⟩ := prod_core h g ⟨by omega, by omega⟩ ⟨by omega, by omega⟩ (D := tab (t.length * u.length) fun i => tab (t.length * u.length) fun j => (dirT u.length (natT t) (natT u) i j : Int)) (by simp) hC hC' (z := 0) (z' := 0)
          simp only [Option.bind_some, Bool.false_eq_true, if_false, decide_true, Bool.not_true, hw, tab_length]
          rw [trivial' (by omega)]
          simp only [Option.bind_some]
          rw [a1]
          simp only [Option.bind_some]
          rw [a2]
          simp only [Option.bind_some]
          rw [a3]
          simp only [Option.bind_some, decide_true, if_true]
    · simp only [decide_eq_true c1, decide_eq_false c2, Bool.not_true, Bool.not_false, Bool.false_eq_true, if_false, if_true, Option.bind_some]
  · simp only [decide_eq_false c1, Bool.not_false, if_true, Option.bind_some]
end Go.Proofs.Ytmdpejgnkoneoaa.Mt
