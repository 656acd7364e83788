/- Part 8 of the proof that the law SubdirectProducts holds: words and lemmas it rests on. No condition. -/
import Derived.Test.YtmdpejgnkoneoaaQ5
import Derived.Test.YtmdpejgnkoneoaaQ7
import Derived.Test.YtmdpejgnkoneoaaQ6
set_option linter.unusedSimpArgs false
set_option linter.unusedVariables false
set_option linter.unnecessarySimpa false
set_option linter.unusedSectionVars false
set_option maxRecDepth 100000
set_option maxHeartbeats 4000000
namespace Go.Proofs.Ytmdpejgnkoneoaa.Pu
open Go Go.AM Go.Proofs.Ytmdpejgnkoneoaa.Code

noncomputable def P_congr_Quotient_l76 (k31 : Nat) (p_ : List Int) (r11 : (List Int)) (t : List (List Int)) (x41 : Int) (k78 : Nat) (x77 : List (List Int)) : Option ((List (List Int))) :=
 Option.bind (gi r11 (k78 : Int)) fun x88 =>
 Option.bind (gi x77 (k31 : Int)) fun x95 =>
 Option.bind (gi t x41) fun x105 =>
 Option.bind (gi x105 x88) fun x112 =>
 Option.bind (gi p_ x112) fun x119 =>
 Option.bind (si x95 (k78 : Int) x119) fun x126 =>
 some (List.set x77 ((k31 : Int)).toNat x126)
noncomputable def P_congr_Quotient_l29 (p_ : List Int) (r11 : (List Int)) (t : List (List Int)) (k31 : Nat) (x30 : List (List Int)) : Option ((List (List Int))) :=
 Option.bind (gi r11 (k31 : Int)) fun x41 =>
 Option.bind (mkz (α := Int) 8 (r11.length : Int) (r11.length : Int) 0) fun x50 =>
 Option.bind (gi x30 (k31 : Int)) fun x58 =>
 Option.bind (forS r11.length (fun k x => P_congr_Quotient_l76 k31 p_ r11 t x41 k x) (List.set x30 ((k31 : Int)).toNat x50)) fun z82 =>
 some z82
noncomputable def P_congr_Quotient (t : List (List Int)) (p_ : List Int) : Option ((List (List Int)) × Int) :=
 Option.bind (P_mult_Validate t) fun r1 =>
 if !decide (r1 = 0) then
  some ([], r1)
 else
  Option.bind (P_congr_is t p_ 0) fun r6 =>
  if !r6 then
   some ([], 1)
  else
   Option.bind (P_congr_firsts p_) fun r11 =>
   Option.bind (mkz (α := List Int) 24 (r11.length : Int) (r11.length : Int) []) fun x19 =>
   Option.bind (forS r11.length (fun k x => P_congr_Quotient_l29 p_ r11 t k x) x19) fun z35 =>
   some (z35, 0)
theorem R_congr_Quotient {G : List Frag} {W H : AH} {v_0 v_1 : AV} {t : List (List Int)} {p_ : List Int} (hst : St G W H) (h_0 : Rp.rv W v_0 t) (h_1 : Rp.rv W v_1 p_) {r : (List (List Int)) × Int} (hp : P_congr_Quotient t p_ = some r) :
  wpc E0 N_congr_Quotient [v_0, v_1] H fun rv H' => ∃ W', Wle W W' ∧ ∃ (v0 : AV), St G W' H' ∧ rv = .tup [v0, .int .i64 r.2] ∧ Rp.rv W' v0 (r.1 : List (List Int)) := by
 refine enterN (F := f_congr_Quotient) rfl (Nat.le_of_ble_eq_true rfl) fun s hl hg => ?_
 replace hl : s.length = 66 := hl
 have g0 : gt s 0 = v_0 := hg 0 (Nat.le_of_ble_eq_true rfl)
 have g1 : gt s 1 = v_1 := hg 1 (Nat.le_of_ble_eq_true rfl)
 clear hg
 unfold P_congr_Quotient at hp
 show wp E0 c_congr_Quotient s H _
 unfold c_congr_Quotient
 refine AM.wp_seq hp0 (AM.wp_reg hp0 ?_)
 refine wpo_seg hp0 2 (fun s H' => s.length = 66 ∧ gt s 0 = v_0 ∧ gt s 1 = v_1 ∧ H = H') (by simp only [↓runs, isCall, ↓reduceIte, ↓gd_true, ↓gd_false, evs, AV.cells, Nat.reduceEqDiff, Nat.reduceLT, reduceCtorEq, Nat.reduceAdd, sy, g0, g1, hl]) ?_
 rintro s _ ⟨hl, g0, g1, rfl⟩
 refine wpo_nil (then_n ?_)
 refine AM.wp_seq hp0 (AM.wp_seq hp0 (AM.wp_reg hp0 ?_))
 refine wpo_seg hp0 1 (fun s H' => s.length = 66 ∧ gt s 0 = v_0 ∧ gt s 1 = v_1 ∧ gt s 13 = v_0 ∧ H = H') (by simp only [↓runs, isCall, ↓reduceIte, ↓gd_true, ↓gd_false, evs, AV.cells, Nat.reduceEqDiff, Nat.reduceLT, reduceCtorEq, Nat.reduceAdd, sy, g0, g1, hl]) ?_
 rintro s _ ⟨hl, g0, g1, g13, rfl⟩
 obtain ⟨r1, e2, hp⟩ := bn hp
 refine wpo_callK hp0 rfl (ys := [v_0]) (by simp only [evs, List.map_cons, List.map_nil, ev_t, ev_c, g13]) (R_mult_Validate hst h_0 e2) ?_
 rintro rv3 H ⟨W, w4, hst, rfl⟩
 replace h_0 := Rp.mono w4 h_0
 replace h_1 := Rp.mono w4 h_1
 refine wpo_seg hp0 1 (fun s H' => s.length = 66 ∧ gt s 0 = v_0 ∧ gt s 1 = v_1 ∧ gt s 6 = .int .i64 r1 ∧ H = H') (by simp only [↓runs, isCall, ↓reduceIte, ↓gd_true, ↓gd_false, evs, AV.cells, Nat.reduceEqDiff, Nat.reduceLT, reduceCtorEq, Nat.reduceAdd, sy, gt_other, g0, g1, g13, hl]) ?_
 rintro s _ ⟨hl, g0, g1, g6, rfl⟩
 refine wpo_nil (then_n ?_)
 refine AM.wp_seq hp0 (AM.wp_reg hp0 ?_)
 refine wpo_seg hp0 2 (fun s H' => s.length = 66 ∧ gt s 0 = v_0 ∧ gt s 1 = v_1 ∧ gt s 6 = .int .i64 r1 ∧ gt s 16 = .bool (!decide (r1 = 0)) ∧ H = H') (by simp only [↓runs, isCall, ↓reduceIte, ↓gd_true, ↓gd_false, evs, AV.cells, Nat.reduceEqDiff, Nat.reduceLT, reduceCtorEq, Nat.reduceAdd, sy, g0, g1, g6, hl]) ?_
 rintro s _ ⟨hl, g0, g1, g6, g16, rfl⟩
 refine wpo_nil (then_n ?_)
 rcases Bool.eq_false_or_eq_true (!decide (r1 = 0)) with c5 | c5
 ·replace hp := ifT c5 hp
  refine AM.wp_condT (by simp only [ev_t, ev_c, g16, c5]) ?_
  refine AM.wp_seq hp0 (AM.wp_reg hp0 ?_)
  refine wpo_seg hp0 3 (fun s H' => s.length = 66 ∧ gt s 4 = .nils ∧ gt s 5 = .int .i64 r1 ∧ H = H') (by simp only [↓runs, isCall, ↓reduceIte, ↓gd_true, ↓gd_false, evs, AV.cells, Nat.reduceEqDiff, Nat.reduceLT, reduceCtorEq, Nat.reduceAdd, sy, g0, g1, g6, g16, hl]) ?_
  rintro s _ ⟨hl, g4, g5, rfl⟩
  refine wpo_nil (then_n ?_)
  refine AM.wp_ret ?_
  refine then_r ?_
  obtain rfl := Option.some.inj hp
  refine body_ret (vs := [.nils, .int .i64 r1]) (by simp only [rvs, f_congr_Quotient, Option.map_some, g4, g5]) ?_
  exact ⟨W, w4, _, hst, rfl, (fz_nil _)⟩
 ·replace hp := ifF c5 hp
  refine AM.wp_condF (by simp only [ev_t, ev_c, g16, c5]) ?_
  refine AM.wp_skip ?_
  refine then_n ?_
  refine AM.wp_seq hp0 (AM.wp_seq hp0 (AM.wp_reg hp0 ?_))
  refine wpo_seg hp0 2 (fun s H' => s.length = 66 ∧ gt s 0 = v_0 ∧ gt s 1 = v_1 ∧ gt s 18 = v_0 ∧ gt s 19 = v_1 ∧ H = H') (by simp only [↓runs, isCall, ↓reduceIte, ↓gd_true, ↓gd_false, evs, AV.cells, Nat.reduceEqDiff, Nat.reduceLT, reduceCtorEq, Nat.reduceAdd, sy, g0, g1, g6, g16, hl]) ?_
  rintro s _ ⟨hl, g0, g1, g18, g19, rfl⟩
  obtain ⟨r6, e7, hp⟩ := bn hp
  refine wpo_callK hp0 rfl (ys := [v_0, v_1, .int .i64 0]) (by simp only [evs, List.map_cons, List.map_nil, ev_t, ev_c, g18, g19]) (R_congr_is hst h_0 h_1 e7) ?_
  rintro rv8 H ⟨W, w9, hst, rfl⟩
  replace h_0 := Rp.mono w9 h_0
  replace h_1 := Rp.mono w9 h_1
  refine wpo_seg hp0 1 (fun s H' => s.length = 66 ∧ gt s 0 = v_0 ∧ gt s 1 = v_1 ∧ gt s 21 = .bool (!r6) ∧ H = H') (by simp only [↓runs, isCall, ↓reduceIte, ↓gd_true, ↓gd_false, evs, AV.cells, Nat.reduceEqDiff, Nat.reduceLT, reduceCtorEq, Nat.reduceAdd, sy, gt_other, g0, g1, g18, g19, hl]) ?_
  rintro s _ ⟨hl, g0, g1, g21, rfl⟩
  refine wpo_nil (then_n ?_)
  rcases Bool.eq_false_or_eq_true (!r6) with c10 | c10
  ·replace hp := ifT c10 hp
   refine AM.wp_condT (by simp only [ev_t, ev_c, g21, c10]) ?_
   refine AM.wp_seq hp0 (AM.wp_reg hp0 ?_)
   refine wpo_seg hp0 2 (fun s H' => s.length = 66 ∧ gt s 4 = .nils ∧ gt s 5 = .int .i64 1 ∧ H = H') (by simp only [↓runs, isCall, ↓reduceIte, ↓gd_true, ↓gd_false, evs, AV.cells, Nat.reduceEqDiff, Nat.reduceLT, reduceCtorEq, Nat.reduceAdd, sy, g0, g1, g21, hl]) ?_
   rintro s _ ⟨hl, g4, g5, rfl⟩
   refine wpo_nil (then_n ?_)
   refine AM.wp_ret ?_
   refine then_r ?_
   obtain rfl := Option.some.inj hp
   refine body_ret (vs := [.nils, .int .i64 1]) (by simp only [rvs, f_congr_Quotient, Option.map_some, g4, g5]) ?_
   exact ⟨W, (w4.trans w9), _, hst, rfl, (fz_nil _)⟩
  ·replace hp := ifF c10 hp
   refine AM.wp_condF (by simp only [ev_t, ev_c, g21, c10]) ?_
   refine AM.wp_skip ?_
   refine then_n ?_
   refine AM.wp_seq hp0 (AM.wp_reg hp0 ?_)
   refine wpo_seg hp0 1 (fun s H' => s.length = 66 ∧ gt s 0 = v_0 ∧ gt s 1 = v_1 ∧ gt s 22 = v_1 ∧ H = H') (by simp only [↓runs, isCall, ↓reduceIte, ↓gd_true, ↓gd_false, evs, AV.cells, Nat.reduceEqDiff, Nat.reduceLT, reduceCtorEq, Nat.reduceAdd, sy, g0, g1, g21, hl]) ?_
   rintro s _ ⟨hl, g0, g1, g22, rfl⟩
   obtain ⟨r11, e12, hp⟩ := bn hp
   refine wpo_callK hp0 rfl (ys := [v_1]) (by simp only [evs, List.map_cons, List.map_nil, ev_t, ev_c, g22]) (R_congr_firsts hst h_1 e12) ?_
   rintro rv13 H ⟨W, w14, fg15, hst, o16⟩
   replace h_0 := Rp.mono w14 h_0
   replace h_1 := Rp.mono w14 h_1
   refine wpo_seg hp0 1 (fun s H' => s.length = 66 ∧ gt s 0 = v_0 ∧ gt s 1 = v_1 ∧ gt s 7 = rv13 ∧ H = H') (by simp only [↓runs, isCall, ↓reduceIte, ↓gd_true, ↓gd_false, evs, AV.cells, Nat.reduceEqDiff, Nat.reduceLT, reduceCtorEq, Nat.reduceAdd, sy, gt_other, g0, g1, g22, hl]) ?_
   rintro s _ ⟨hl, g0, g1, g7, rfl⟩
   refine wpo_nil (then_n ?_)
   refine AM.wp_seq hp0 (AM.wp_reg hp0 ?_)
   have f17 := ow_ln o16
   have b18 := ow_big o16
   obtain ⟨x19, e20, hp⟩ := bn hp
   obtain ⟨v21, H22, fg23, W, f25, w24, hst, o26⟩ := od_mk (kn := .i64) (kc := .i64) Int hst e20
   replace h_0 := Rp.mono w24 h_0
   replace h_1 := Rp.mono w24 h_1
   replace o16 := o16.mono w24
   refine wpo_seg hp0 4 (fun s H' => s.length = 66 ∧ gt s 0 = v_0 ∧ gt s 1 = v_1 ∧ gt s 7 = rv13 ∧ gt s 8 = v21 ∧ H22 = H') (by simp only [↓runs, isCall, ↓reduceIte, ↓gd_true, ↓gd_false, evs, AV.cells, Nat.reduceEqDiff, Nat.reduceLT, reduceCtorEq, Nat.reduceAdd, sy, f17, f25, g0, g1, g7, hl]) ?_
   rintro s _ ⟨hl, g0, g1, g7, g8, rfl⟩
   refine wpo_nil (then_n ?_)
   refine AM.wp_seq hp0 (AM.wp_seq hp0 (AM.wp_reg hp0 ?_))
   have f27 := ow_ln o16
   have b28 := ow_big o16
   refine wpo_seg hp0 3 (fun s H' => s.length = 66 ∧ gt s 0 = v_0 ∧ gt s 1 = v_1 ∧ gt s 7 = rv13 ∧ gt s 8 = v21 ∧ gt s 27 = rv13 ∧ gt s 28 = .int .i64 (r11.length : Int) ∧ gt s 29 = .int .i64 0 ∧ H22 = H') (by simp only [↓runs, isCall, ↓reduceIte, ↓gd_true, ↓gd_false, evs, AV.cells, Nat.reduceEqDiff, Nat.reduceLT, reduceCtorEq, Nat.reduceAdd, sy, f27, g0, g1, g7, g8, hl]) ?_
   rintro s _ ⟨hl, g0, g1, g7, g8, g27, g28, g29, rfl⟩
   refine wpo_nil (then_n ?_)
   obtain ⟨z35, e36, hp⟩ := bn hp
   refine rangeS_ref hp0 66 r11.length (fun k x => P_congr_Quotient_l29 p_ r11 t k x) (fun _ x s H' => ∃ (W' : AH) (qo2 : Frag), s.length = 66 ∧ gt s 0 = v_0 ∧ gt s 1 = v_1 ∧ gt s 7 = rv13 ∧ gt s 8 = v21 ∧ gt s 27 = rv13 ∧  Wle W W' ∧ St (qo2 :: fg15 :: G) W' H' ∧ OwD W' v21 qo2 (x : List (List Int))) e36 (b28) rfl ?_ ?_ hl g29 g28 ?_ ?_
   ·intro k x s H d v hd h; rcases hd with rfl | rfl | rfl <;> simpa only [gt_other, pt_length, Nat.reduceEqDiff, not_false_eq_true] using h
   ·replace hst := hst.p1
    replace hst := hst.p1
    exact ⟨W, _, hl, g0, g1, g7, g8, g27, .refl _, hst, o26⟩
   ·intro k31 x30 y32 s H hk hI hl g29 g28 hy33
    change P_congr_Quotient_l29 p_ r11 t k31 x30 = some y32 at hy33
    unfold P_congr_Quotient_l29 at hy33
    obtain ⟨W, fg39, hl, g0, g1, g7, g8, g27, w38, hst, o40⟩ := hI
    replace h_0 := Rp.mono w38 h_0
    replace h_1 := Rp.mono w38 h_1
    replace o16 := o16.mono w38
    refine AM.wp_seq hp0 (AM.wp_reg hp0 ?_)
    obtain ⟨x41, e42, hy33⟩ := bn hy33
    obtain ⟨p43, _, f45, f46, rfl⟩ := ow_at (k := .i64) hst (.tail _ (.head _)) o16 e42 rfl
    refine wpo_seg hp0 5 (fun s H' => s.length = 66 ∧ gt s 0 = v_0 ∧ gt s 1 = v_1 ∧ gt s 7 = rv13 ∧ gt s 8 = v21 ∧ gt s 9 = .int .i64 (k31 : Int) ∧ gt s 10 = .int .i64 x41 ∧ gt s 27 = rv13 ∧ gt s 28 = .int .i64 (r11.length : Int) ∧ gt s 29 = .int .i64 (k31 : Int) ∧ H = H') (by simp only [↓runs, isCall, ↓reduceIte, ↓gd_true, ↓gd_false, evs, AV.cells, Nat.reduceEqDiff, Nat.reduceLT, reduceCtorEq, Nat.reduceAdd, sy, f45, f46, g0, g1, g7, g8, g27, g28, g29, hl]) ?_
    rintro s _ ⟨hl, g0, g1, g7, g8, g9, g10, g27, g28, g29, rfl⟩
    refine wpo_nil (then_n ?_)
    refine AM.wp_seq hp0 (AM.wp_reg hp0 ?_)
    have f48 := ow_ln o16
    have b49 := ow_big o16
    obtain ⟨x50, e51, hy33⟩ := bn hy33
    obtain ⟨v52, H53, fg54, W, f56, w55, hst, o57⟩ := ow_mk (kn := .i64) (kc := .i64) hst (show Rp.rv _ (.int .i64 0) (0 : Int) from rfl) [.int .i64 0] rfl e51
    replace h_0 := Rp.mono w55 h_0
    replace h_1 := Rp.mono w55 h_1
    replace o16 := o16.mono w55
    replace o40 := o40.mono w55
    obtain ⟨x58, e59, hy33⟩ := bn hy33
    replace hst := hst.p1
    obtain ⟨p60, v61, fg62, fg63, f64, f65, hst, o66, o67⟩ := od_open (k := .i64) hst o40 e59
    replace hst := hst.drop
    replace hst := hst.p1
    obtain ⟨p68, H69, fg70, f71, f72, hst, o73⟩ := od_put (k := .i64) hst o57 o67 (gi_nn e59)
    obtain rfl := Option.some.inj (f71.symm.trans f64)
    refine wpo_seg hp0 7 (fun s H' => s.length = 66 ∧ gt s 0 = v_0 ∧ gt s 1 = v_1 ∧ gt s 7 = rv13 ∧ gt s 8 = v21 ∧ gt s 9 = .int .i64 (k31 : Int) ∧ gt s 10 = .int .i64 x41 ∧ gt s 27 = rv13 ∧ gt s 28 = .int .i64 (r11.length : Int) ∧ gt s 29 = .int .i64 (k31 : Int) ∧ H69 = H') (by simp only [↓runs, isCall, ↓reduceIte, ↓gd_true, ↓gd_false, evs, AV.cells, Nat.reduceEqDiff, Nat.reduceLT, reduceCtorEq, Nat.reduceAdd, sy, f48, f56, f64, f65, f71, f72, g0, g1, g7, g8, g9, g10, g27, g28, g29, hl]) ?_
    rintro s _ ⟨hl, g0, g1, g7, g8, g9, g10, g27, g28, g29, rfl⟩
    refine wpo_nil (then_n ?_)
    refine AM.wp_seq hp0 (AM.wp_reg hp0 ?_)
    have f74 := ow_ln o16
    have b75 := ow_big o16
    refine wpo_seg hp0 3 (fun s H' => s.length = 66 ∧ gt s 0 = v_0 ∧ gt s 1 = v_1 ∧ gt s 7 = rv13 ∧ gt s 8 = v21 ∧ gt s 9 = .int .i64 (k31 : Int) ∧ gt s 10 = .int .i64 x41 ∧ gt s 27 = rv13 ∧ gt s 28 = .int .i64 (r11.length : Int) ∧ gt s 29 = .int .i64 (k31 : Int) ∧ gt s 40 = rv13 ∧ gt s 41 = .int .i64 (r11.length : Int) ∧ gt s 42 = .int .i64 0 ∧ H69 = H') (by simp only [↓runs, isCall, ↓reduceIte, ↓gd_true, ↓gd_false, evs, AV.cells, Nat.reduceEqDiff, Nat.reduceLT, reduceCtorEq, Nat.reduceAdd, sy, f74, g0, g1, g7, g8, g9, g10, g27, g28, g29, hl]) ?_
    rintro s _ ⟨hl, g0, g1, g7, g8, g9, g10, g27, g28, g29, g40, g41, g42, rfl⟩
    refine wpo_nil (then_n ?_)
    obtain ⟨z82, e83, hy33⟩ := bn hy33
    refine rangeS_ref hp0 66 r11.length (fun k x => P_congr_Quotient_l76 k31 p_ r11 t x41 k x) (fun _ x s H' => ∃ (W' : AH) (qo2 : Frag), s.length = 66 ∧ gt s 0 = v_0 ∧ gt s 1 = v_1 ∧ gt s 7 = rv13 ∧ gt s 8 = v21 ∧ gt s 9 = .int .i64 (k31 : Int) ∧ gt s 10 = .int .i64 x41 ∧ gt s 27 = rv13 ∧ gt s 28 = .int .i64 (r11.length : Int) ∧ gt s 29 = .int .i64 (k31 : Int) ∧ gt s 40 = rv13 ∧  Wle W W' ∧ St (qo2 :: fg15 :: G) W' H' ∧ OwD W' v21 qo2 (x : List (List Int))) e83 (b75) rfl ?_ ?_ hl g42 g41 ?_ ?_
    ·intro k x s H d v hd h; rcases hd with rfl | rfl | rfl <;> simpa only [gt_other, pt_length, Nat.reduceEqDiff, not_false_eq_true] using h
    ·replace hst := hst.p1
     replace hst := hst.p1
     exact ⟨W, _, hl, g0, g1, g7, g8, g9, g10, g27, g28, g29, g40, .refl _, hst, o73⟩
    ·intro k78 x77 y79 s H hk hI hl g42 g41 hy80
     change P_congr_Quotient_l76 k31 p_ r11 t x41 k78 x77 = some y79 at hy80
     unfold P_congr_Quotient_l76 at hy80
     obtain ⟨W, fg86, hl, g0, g1, g7, g8, g9, g10, g27, g28, g29, g40, w85, hst, o87⟩ := hI
     replace h_0 := Rp.mono w85 h_0
     replace h_1 := Rp.mono w85 h_1
     replace o16 := o16.mono w85
     refine AM.wp_seq hp0 (AM.wp_reg hp0 ?_)
     obtain ⟨x88, e89, hy80⟩ := bn hy80
     obtain ⟨p90, _, f92, f93, rfl⟩ := ow_at (k := .i64) hst (.tail _ (.head _)) o16 e89 rfl
     refine wpo_seg hp0 5 (fun s H' => s.length = 66 ∧ gt s 0 = v_0 ∧ gt s 1 = v_1 ∧ gt s 7 = rv13 ∧ gt s 8 = v21 ∧ gt s 9 = .int .i64 (k31 : Int) ∧ gt s 10 = .int .i64 x41 ∧ gt s 11 = .int .i64 (k78 : Int) ∧ gt s 12 = .int .i64 x88 ∧ gt s 27 = rv13 ∧ gt s 28 = .int .i64 (r11.length : Int) ∧ gt s 29 = .int .i64 (k31 : Int) ∧ gt s 40 = rv13 ∧ gt s 41 = .int .i64 (r11.length : Int) ∧ gt s 42 = .int .i64 (k78 : Int) ∧ H = H') (by simp only [↓runs, isCall, ↓reduceIte, ↓gd_true, ↓gd_false, evs, AV.cells, Nat.reduceEqDiff, Nat.reduceLT, reduceCtorEq, Nat.reduceAdd, sy, f92, f93, g0, g1, g7, g8, g9, g10, g27, g28, g29, g40, g41, g42, hl]) ?_
     rintro s _ ⟨hl, g0, g1, g7, g8, g9, g10, g11, g12, g27, g28, g29, g40, g41, g42, rfl⟩
     refine wpo_nil (then_n ?_)
     refine AM.wp_reg hp0 ?_
     obtain ⟨x95, e96, hy80⟩ := bn hy80
     obtain ⟨p97, v98, fg99, fg100, f101, f102, hst, o103, o104⟩ := od_open (k := .i64) hst o87 e96
     obtain rfl := Option.some.inj (f101.symm.trans f71)
     obtain ⟨x105, e106, hy80⟩ := bn hy80
     obtain ⟨p107, y108, f109, f110, h111⟩ := fz_at (k := .i64) hst h_0 e106 rfl
     obtain ⟨x112, e113, hy80⟩ := bn hy80
     obtain ⟨p114, _, f116, f117, rfl⟩ := fz_at (k := .i64) hst h111 e113 rfl
     obtain ⟨x119, e120, hy80⟩ := bn hy80
     obtain ⟨p121, _, f123, f124, rfl⟩ := fz_at (k := .i64) hst h_1 e120 rfl
     obtain ⟨x126, e127, hy80⟩ := bn hy80
     obtain ⟨p128, H129, fg130, f131, f132, hst, o133⟩ := ow_set (k := .i64) 1 rfl hst o103 (show Rp.rv W (.int .i64 x119) (x119 : Int) from rfl) e127
     replace hst := hst.p1
     replace hst := hst.p1
     obtain ⟨fg134, hst, o135⟩ := od_close hst o133 o104
     refine wpo_seg hp0 17 (fun s H' => s.length = 66 ∧ gt s 0 = v_0 ∧ gt s 1 = v_1 ∧ gt s 7 = rv13 ∧ gt s 8 = v21 ∧ gt s 9 = .int .i64 (k31 : Int) ∧ gt s 10 = .int .i64 x41 ∧ gt s 27 = rv13 ∧ gt s 28 = .int .i64 (r11.length : Int) ∧ gt s 29 = .int .i64 (k31 : Int) ∧ gt s 40 = rv13 ∧ gt s 41 = .int .i64 (r11.length : Int) ∧ gt s 42 = .int .i64 (k78 : Int) ∧ H129 = H') (by simp (maxSteps := 1000000) only [↓runs, isCall, ↓reduceIte, ↓gd_true, ↓gd_false, evs, AV.cells, Nat.reduceEqDiff, Nat.reduceLT, reduceCtorEq, Nat.reduceAdd, sy, f101, f102, f109, f110, f116, f117, f123, f124, f131, f132, g0, g1, g7, g8, g9, g10, g11, g12, g27, g28, g29, g40, g41, g42, hl]) ?_
     rintro s _ ⟨hl, g0, g1, g7, g8, g9, g10, g27, g28, g29, g40, g41, g42, rfl⟩
     refine wpo_nil ?_
     refine rnd_n ?_
     obtain rfl := Option.some.inj hy80
     replace hst := hst.p1
     replace hst := hst.p1
     exact ⟨hl, g42, g41, ⟨W, _, hl, g0, g1, g7, g8, g9, g10, g27, g28, g29, g40, w85, hst, o135⟩⟩
    ·rintro s H hI _
     obtain ⟨W, fg137, hl, g0, g1, g7, g8, g9, g10, g27, g28, g29, g40, w136, hst, o138⟩ := hI
     replace h_0 := Rp.mono w136 h_0
     replace h_1 := Rp.mono w136 h_1
     replace o16 := o16.mono w136
     refine rnd_n ?_
     obtain rfl := Option.some.inj hy33
     replace hst := hst.p1
     replace hst := hst.p1
     exact ⟨hl, g29, g28, ⟨W, _, hl, g0, g1, g7, g8, g27, ((w38.trans w55).trans w136), hst, o138⟩⟩
   ·rintro s H hI _
    obtain ⟨W, fg140, hl, g0, g1, g7, g8, g27, w139, hst, o141⟩ := hI
    replace h_0 := Rp.mono w139 h_0
    replace h_1 := Rp.mono w139 h_1
    replace o16 := o16.mono w139
    refine then_n ?_
    refine AM.wp_seq hp0 (AM.wp_reg hp0 ?_)
    refine wpo_seg hp0 3 (fun s H' => s.length = 66 ∧ gt s 4 = v21 ∧ gt s 5 = .int .i64 0 ∧ H = H') (by simp only [↓runs, isCall, ↓reduceIte, ↓gd_true, ↓gd_false, evs, AV.cells, Nat.reduceEqDiff, Nat.reduceLT, reduceCtorEq, Nat.reduceAdd, sy, g0, g1, g7, g8, g27, hl]) ?_
    rintro s _ ⟨hl, g4, g5, rfl⟩
    refine wpo_nil (then_n ?_)
    refine AM.wp_ret ?_
    obtain ⟨W, w143, hst, h142⟩ := od_frz hst o141
    replace o16 := o16.mono w143
    obtain rfl := Option.some.inj hp
    replace hst := hst.drop
    refine body_ret (vs := [v21, .int .i64 0]) (by simp only [rvs, f_congr_Quotient, Option.map_some, g4, g5]) ?_
    exact ⟨W, (((((w4.trans w9).trans w14).trans w24).trans w139).trans w143), _, hst, rfl, h142⟩

end Go.Proofs.Ytmdpejgnkoneoaa.Pu
set_option maxRecDepth 100000
set_option maxHeartbeats 4000000
namespace Go.Proofs.Ytmdpejgnkoneoaa.Pu
open Go Go.AM Go.Proofs.Ytmdpejgnkoneoaa.Code

end Go.Proofs.Ytmdpejgnkoneoaa.Pu
set_option maxRecDepth 100000
set_option maxHeartbeats 4000000
namespace Go.Proofs.Ytmdpejgnkoneoaa.Pu
open Go Go.AM Go.Proofs.Ytmdpejgnkoneoaa.Code

end Go.Proofs.Ytmdpejgnkoneoaa.Pu
set_option maxRecDepth 100000
set_option maxHeartbeats 4000000
namespace Go.Proofs.Ytmdpejgnkoneoaa.Pu
open Go Go.AM Go.Proofs.Ytmdpejgnkoneoaa.Code

end Go.Proofs.Ytmdpejgnkoneoaa.Pu
namespace Go.Proofs.Ytmdpejgnkoneoaa.Mt
open Go Go.AM Go.AM.Par Go.AM.Cg Go.AM.Lx Go.Proofs.Ytmdpejgnkoneoaa.Pu

def fstL (p : List Int) (k : Nat) : List Int := ((List.range k).filter (newB p)).map fun (i : Nat) => (i : Int)
theorem fst_new {p : List Int} {k : Nat} (h : isNew p k) : fstL p (k + 1) = fstL p k ++ [(k : Int)] := by
  unfold fstL; rw [List.range_succ, List.filter_append, List.filter_cons_of_pos (newB_iff.2 h)]; simp
theorem fst_old {p : List Int} {k : Nat} (h : ¬ isNew p k) : fstL p (k + 1) = fstL p k := by
  unfold fstL; rw [List.range_succ, List.filter_append, List.filter_cons_of_neg (fun h2 => h (newB_iff.1 h2))]; simp
theorem fst_len {p : List Int} : ∀ {k : Nat}, k ≤ p.length → (fstL p k).length = (nub (p.take k)).length
  | 0, _ => by simp [fstL, nub]
  | k + 1, h => by
    have ih := fst_len (p := p) (k := k) (by omega)
    by_cases hn : isNew p k
    · rw [fst_new hn, nub_new (by omega) hn]; simp [ih]
    · rw [fst_old hn, nub_old (by omega) hn]; exact ih
theorem fst_at {p : List Int} (hc : canonI p = p) : ∀ {k : Nat}, k ≤ p.length → ∀ c, c < (fstL p k).length → ∃ f : Nat, f < k ∧ (fstL p k).getD c 0 = (f : Int) ∧ p.getD f 0 = (c : Int)
  | 0, _, c, h => by simp [fstL] at h
  | k + 1, h, c, hcl => by
    by_cases hn : isNew p k
    · rw [fst_new hn] at hcl ⊢
      rcases Nat.lt_or_ge c (fstL p k).length with h5 | h5
      · obtain ⟨f, a, b, d⟩ := fst_at hc (k := k) (by omega) c h5
        exact ⟨f, by omega, by rw [List.getD_eq_getElem?_getD, List.getElem?_append_left h5, ← List.getD_eq_getElem?_getD]; exact b, d⟩
      · have : c = (fstL p k).length := by simp at hcl; omega
        subst this
        refine ⟨k, by omega, by simp [List.getD_eq_getElem?_getD], ?_⟩
        have := canonI_new (L := p) (k := k) (by omega) hn
        rw [hc] at this
        rw [this, fst_len (by omega)]
    · rw [fst_old hn] at hcl ⊢
      obtain ⟨f, a, b, d⟩ := fst_at hc (k := k) (by omega) c hcl
      exact ⟨f, by omega, b, d⟩
theorem firsts {p : List Int} (hv : validP p = true) : P_congr_firsts p = some (fstL p p.length) := by
  obtain ⟨hl, hc⟩ := validP_iff.1 hv
  unfold P_congr_firsts
  obtain ⟨y, hy, hQ⟩ := forS_inv (n := p.length) (f := fun k x => P_congr_firsts_l2 p k x) (x := []) (fun k x => x = fstL p k) (by simp [fstL]) (by
    rintro k _ hk rfl
    unfold P_congr_firsts_l2
    rw [gi_lt 0 hk]
    simp only [Option.bind_some]
    have h1 := fst_len (p := p) (k := k) (by omega)
    have h2 := nub_le p k (by omega)
    by_cases hn : isNew p k
    · have h3 := canonI_new hk hn
      rw [hc] at h3
      rw [if_pos (by rw [h3, h1]; simp), pus_ok (by simp; omega) (by omega)]
      exact ⟨_, rfl, (fst_new hn).symm⟩
    · have : ∃ i, i < k ∧ p.getD i 0 = p.getD k 0 := Classical.byContradiction fun hc => hn fun i hi e => hc ⟨i, hi, e⟩
      obtain ⟨i, hi, e⟩ := this
      have h3 := canonI_lt (L := p) (k := i) (by omega) hi (by omega)
      rw [hc, e] at h3
      rw [if_neg (by rw [h1]; simp only [decide_eq_true_eq]; omega)]
      exact ⟨_, rfl, (fst_old hn).symm⟩)
  rw [hy, hQ]; rfl

def CongL (n : Nat) (T : Nat → Nat → Nat) (sd : Int) (p : List Int) : Prop := p.length = n ∧ validP p = true ∧
  ∀ x y s, x < n → y < n → s < n → p.getD x 0 = p.getD y 0 → (sd ≠ 2 → p.getD (T s x) 0 = p.getD (T s y) 0) ∧ (sd ≠ 1 → p.getD (T x s) 0 = p.getD (T y s) 0)

theorem cmp2 {β : Type} {sd : Int} {A B C D : Option Int} {a b c d : Int} (hA : A = some a) (hB : B = some b) (hC : C = some c) (hD : D = some d) (f : Bool → Option β) :
    Option.bind (if !decide (sd = 2) then A.bind fun x => B.bind fun y => if !decide (x = y) then some true else if !decide (sd = 1) then C.bind fun z => D.bind fun w => some (!decide (z = w)) else some false
      else if !decide (sd = 1) then C.bind fun z => D.bind fun w => some (!decide (z = w)) else some false) f = f (!decide ((sd ≠ 2 → a = b) ∧ (sd ≠ 1 → c = d))) := by
  subst hA hB hC hD
  by_cases h2 : sd = 2
  · have h1 : ¬ sd = 1 := by omega
    by_cases e : c = d <;> simp [h2, e]
  · by_cases h1 : sd = 1
    · by_cases e : a = b <;> simp [h1, e]
    · by_cases e : a = b <;> by_cases e2 : c = d <;> simp [h1, h2, e, e2]

open Classical in
theorem is_spec {t : List (List Int)} {n : Nat} {T : Nat → Nat → Nat} (h : Tab t n T) (p : List Int) (sd : Int) : P_congr_is t p sd = some (decide (CongL n T sd p)) := by
  unfold P_congr_is
  rw [h.len, valid]
  by_cases hl : p.length = n
  · by_cases hv : validP p = true
    · rw [if_neg (by simp only [hl]; simp)]
      simp only [hv, Option.bind_some, Bool.not_true, Bool.false_eq_true, if_false]
      rw [firsts hv]
      simp only [Option.bind_some]
      have hself := IsP.self hv
      rw [hl] at hself
      obtain ⟨hvl, hvc⟩ := validP_iff.1 hv
      -- the first point of a class
      have fp : ∀ x, x < n → ∃ f : Nat, f < n ∧ gi (fstL p p.length) (p.getD x 0) = some (f : Int) ∧ p.getD f 0 = p.getD x 0 := fun x hx => by
        have hb := canonI_lt (L := p) (k := x) (m := p.length) (by omega) (by omega) (Nat.le_refl _)
        rw [hvc] at hb
        have hfl := fst_len (p := p) (k := p.length) (Nat.le_refl _)
        obtain ⟨f, a, b, c⟩ := fst_at hvc (Nat.le_refl _) (p.getD x 0).toNat (by omega)
        refine ⟨f, by omega, ?_, by rw [c]; omega⟩
        rw [gi_int 0 hb.1 (by omega), b]
      rw [look_const (ok := fun x => ∀ f s, f < n → p.getD f 0 = p.getD x 0 → gi (fstL p p.length) (p.getD x 0) = some (f : Int) → s < n → (sd ≠ 2 → p.getD (T s x) 0 = p.getD (T s f) 0) ∧ (sd ≠ 1 → p.getD (T x s) 0 = p.getD (T f s) 0)) (b := false) fun x hx => by
        have hx' : x < n := by omega
        unfold P_congr_is_l19
        rw [gi_lt 0 hx]
        simp only [Option.bind_some]
        obtain ⟨f, hf, e1, e2⟩ := fp x hx'
        rw [e1]
        simp only [Option.bind_some]
        rw [look_const (ok := fun s => (sd ≠ 2 → p.getD (T s x) 0 = p.getD (T s f) 0) ∧ (sd ≠ 1 → p.getD (T x s) 0 = p.getD (T f s) 0)) (b := false) fun s hs => by
          have hs' : s < n := by rw [← h.len]; exact hs
          have l1 := h.lt s x hs' hx'; have l2 := h.lt s f hs' hf; have l3 := h.lt x s hx' hs'; have l4 := h.lt f s hf hs'
          unfold P_congr_is_l43
          simp only [h.gi1 hs', h.gi1 hx', h.gi1 hf, Option.bind_some, h.gi2 hs' hx', h.gi2 hs' hf, h.gi2 hx' hs', h.gi2 hf hs']
          rw [cmp2 (gi_lt 0 (by omega)) (gi_lt 0 (by omega)) (gi_lt 0 (by omega)) (gi_lt 0 (by omega))]
          by_cases hh : (sd ≠ 2 → p.getD (T s x) 0 = p.getD (T s f) 0) ∧ (sd ≠ 1 → p.getD (T x s) 0 = p.getD (T f s) 0)
          · rw [if_pos hh, decide_eq_true hh]; rfl
          · rw [if_neg hh, decide_eq_false hh]; rfl]
        rw [h.len]
        by_cases hh : ∀ k, k < n → (sd ≠ 2 → p.getD (T k x) 0 = p.getD (T k f) 0) ∧ (sd ≠ 1 → p.getD (T x k) 0 = p.getD (T f k) 0)
        · rw [if_pos hh, if_pos fun f' s hf' e3 e4 hs => by
            have : f = f' := by have := Option.some.inj e4; omega
            subst this; exact hh s hs]
          rfl
        · rw [if_neg hh, if_neg fun h2 => hh fun k hk => h2 f k hf e2 rfl hk]
          rfl]
      by_cases hC : CongL n T sd p
      · rw [decide_eq_true hC, if_pos fun x hx f s hf e1 e2 hs => hC.2.2 x f s (by omega) hf hs e1.symm]
        rfl
      · rw [decide_eq_false hC, if_neg fun hh => hC ⟨hl, hv, fun x y s hx hy hs e => by
          obtain ⟨f, hf, e1, e2⟩ := fp x hx
          obtain ⟨g, hg, e3, e4⟩ := fp y hy
          have : f = g := by rw [e, e3] at e1; have := Option.some.inj e1; omega
          subst this
          have a := hh x (by omega) f s hf e2 e1 hs
          have b := hh y (by omega) f s hf e4 e3 hs
          exact ⟨fun q => (a.1 q).trans (b.1 q).symm, fun q => (a.2 q).trans (b.2 q).symm⟩⟩]
        rfl
    · rw [if_neg (by simp only [hl]; simp)]
      have hC : ¬ CongL n T sd p := fun hC => hv hC.2.1
      rw [decide_eq_false hC]
      have : validP p = false := by simpa using hv
      simp only [this, Option.bind_some, Bool.not_false, if_true]
  · rw [if_pos (by simp only [Bool.not_eq_true', decide_eq_false_iff_not]; omega)]
    have hC : ¬ CongL n T sd p := fun hC => hl hC.1
    rw [decide_eq_false hC]
    rfl

theorem CongL.cgr {n : Nat} {T : Nat → Nat → Nat} {sd : Int} {p : List Int} (hT : ∀ x y, x < n → y < n → T x y < n) (h : CongL n T sd p) : Cgr n T sd (Ker n p) := by
  refine ⟨Ker.refl p, fun _ _ => Ker.symm, fun _ _ _ => Ker.trans, fun hs s x y h1 hx hy h2 => ?_, fun hs s x y h1 hx hy h2 => ?_⟩
  · exact (Ker.iff (hT _ _ h1 hx) (hT _ _ h1 hy)).2 ((h.2.2 x y s hx hy h1 ((Ker.iff hx hy).1 h2)).1 hs)
  · exact (Ker.iff (hT _ _ hx h1) (hT _ _ hy h1)).2 ((h.2.2 x y s hx hy h1 ((Ker.iff hx hy).1 h2)).2 hs)

def fpt (p : List Int) (c : Nat) : Nat := ((fstL p p.length).getD c 0).toNat
def ncl (p : List Int) : Nat := (nub p).length
theorem fpt_spec {p : List Int} (hv : validP p = true) {c : Nat} (hc : c < ncl p) : (fstL p p.length).getD c 0 = (fpt p c : Int) ∧ fpt p c < p.length ∧ p.getD (fpt p c) 0 = (c : Int) ∧ isNew p (fpt p c) := by
  obtain ⟨hl, hcn⟩ := validP_iff.1 hv
  have hlen := fst_len (p := p) (k := p.length) (Nat.le_refl _)
  rw [List.take_length] at hlen
  obtain ⟨f, a, b, d⟩ := fst_at hcn (Nat.le_refl _) c (by unfold ncl at hc; omega)
  have e : fpt p c = f := by unfold fpt; rw [b]; simp
  refine ⟨by rw [b, e], by omega, by rw [e]; exact d, ?_⟩
  have hm : (fstL p p.length).getD c 0 ∈ fstL p p.length := getD_mem (by unfold ncl at hc; omega)
  rw [b] at hm
  unfold fstL at hm
  obtain ⟨i, hi, hie⟩ := List.mem_map.1 hm
  have : i = f := by omega
  subst this
  rw [e]
  exact newB_iff.1 (List.mem_filter.1 hi).2
theorem ncl_lt {p : List Int} (hv : validP p = true) {k : Nat} (hk : k < p.length) : 0 ≤ p.getD k 0 ∧ p.getD k 0 < ncl p := by
  have := canonI_lt (L := p) (k := k) (m := p.length) hk hk (Nat.le_refl _)
  rw [(validP_iff.1 hv).2, List.take_length] at this
  exact this
theorem ncl_le (p : List Int) : ncl p ≤ p.length := by
  have := nub_le p p.length (Nat.le_refl _)
  rwa [List.take_length] at this
theorem ncl_pos {p : List Int} (hv : validP p = true) (h : 0 < p.length) : 0 < ncl p := by
  have := ncl_lt hv h; omega

def quoT (T : Nat → Nat → Nat) (p : List Int) (i j : Nat) : Nat := (p.getD (T (fpt p i) (fpt p j)) 0).toNat
def quoL (T : Nat → Nat → Nat) (p : List Int) : List (List Int) := tab (ncl p) fun i => tab (ncl p) fun j => (quoT T p i j : Int)

theorem quo_tab {n : Nat} {T : Nat → Nat → Nat} {t : List (List Int)} (h : Sg t n T) {p : List Int} (hC : CongL n T 0 p) : Sg (quoL T p) (ncl p) (quoT T p) := by
  obtain ⟨hl, hv, hcl⟩ := hC
  have hf : ∀ c, c < ncl p → fpt p c < n := fun c hc => by rw [← hl]; exact (fpt_spec hv hc).2.1
  have hlt : ∀ x y, x < ncl p → y < ncl p → (p.getD (T (fpt p x) (fpt p y)) 0 = (quoT T p x y : Int)) ∧ quoT T p x y < ncl p := fun x y hx hy => by
    have := ncl_lt hv (k := T (fpt p x) (fpt p y)) (by rw [hl]; exact h.lt _ _ (hf x hx) (hf y hy))
    unfold quoT; omega
  refine ⟨⟨by simp [quoL], ncl_pos hv (by rw [hl]; exact h.pos), Nat.le_trans (ncl_le p) (by rw [hl]; exact h.le), fun x hx => by unfold quoL; rw [tab_getD hx]; simp, fun x y hx hy => by unfold quoL; rw [tab_getD hx, tab_getD hy], fun x y hx hy => (hlt x y hx hy).2⟩, fun x y z hx hy hz => ?_⟩
  have fx := hf x hx; have fy := hf y hy; have fz := hf z hz
  obtain ⟨a1, a2⟩ := hlt x y hx hy
  obtain ⟨b1, b2⟩ := hlt y z hy hz
  have txy := h.lt _ _ fx fy; have tyz := h.lt _ _ fy fz
  have c1 := (fpt_spec hv a2).2.2.1
  have c2 := (fpt_spec hv b2).2.2.1
  have e1 : p.getD (T (fpt p (quoT T p x y)) (fpt p z)) 0 = p.getD (T (T (fpt p x) (fpt p y)) (fpt p z)) 0 := (hcl _ _ (fpt p z) (hf _ a2) txy fz (c1.trans a1.symm)).2 (by omega)
  have e2 : p.getD (T (fpt p x) (fpt p (quoT T p y z))) 0 = p.getD (T (fpt p x) (T (fpt p y) (fpt p z))) 0 := (hcl _ _ (fpt p x) (hf _ b2) tyz fx (c2.trans b1.symm)).1 (by omega)
  have h1 := (hlt _ z a2 hz).1
  have h2 := (hlt x _ hx b2).1
  rw [e1, h.assoc _ _ _ fx fy fz, ← e2, h2] at h1
  omega

open Classical in
theorem quotient {n : Nat} {T : Nat → Nat → Nat} {t : List (List Int)} (h : Sg t n T) (p : List Int) : P_congr_Quotient t p = some (if CongL n T 0 p then (quoL T p, 0) else ([], 1)) := by
  have h400 := h.le
  unfold P_congr_Quotient
  rw [validate, h.valid]
  simp only [Option.bind_some, Option.bind_none, decide_true, decide_false, Bool.not_true, Bool.not_false, Bool.true_and, Bool.and_true, Bool.false_eq_true, if_true, if_false, not_true_eq_false, not_false_eq_true, ite_true, ite_false, Bool.not_eq_true, decide_eq_true_eq, decide_eq_false_iff_not, Bool.not_eq_true', Bool.not_eq_false', Option.getD_some, Option.getD_none, Option.isSome_some, Option.isSome_none, Option.isNone_some, Option.isNone_none, eq_self, forall_const, true_implies, false_implies, implies_true]
  rw [is_spec h.toTab]
  simp only [Option.bind_some]
  by_cases hC : CongL n T 0 p
  · rw [decide_eq_true hC, if_pos hC]
    simp only [Bool.not_true, Bool.true_eq_false, Bool.false_eq_true, if_false]
    obtain ⟨hl, hv, hcl⟩ := hC
    rw [firsts hv]
    simp only [Option.bind_some]
    have hlen : (fstL p p.length).length = ncl p := by
      have := fst_len (p := p) (k := p.length) (Nat.le_refl _)
      rw [List.take_length] at this; exact this
    have hle := ncl_le p
    rw [hlen, mkz_ok (by omega) (by omega)]
    simp only [Option.bind_some]
    have hf : ∀ c, c < ncl p → fpt p c < n := fun c hc => by rw [← hl]; exact (fpt_spec hv hc).2.1
    have gf : ∀ c : Nat, c < ncl p → gi (fstL p p.length) (c : Int) = some (fpt p c : Int) := fun c hc => by
      rw [gi_lt 0 (by omega), (fpt_spec hv hc).1]
    have hval : ∀ i j, i < ncl p → j < ncl p → gi p (T (fpt p i) (fpt p j) : Int) = some (quoT T p i j : Int) := fun i j hi hj => by
      have hk : T (fpt p i) (fpt p j) < p.length := by rw [hl]; exact h.lt _ _ (hf i hi) (hf j hj)
      have := ncl_lt hv hk
      rw [gi_lt 0 hk]; unfold quoT; congr 1; omega
    obtain ⟨y, hy, h1, h2⟩ := forS_inv (n := ncl p) (f := fun k x => P_congr_Quotient_l29 p (fstL p p.length) t k x) (x := List.replicate (ncl p) [])
      (fun k X => X.length = ncl p ∧ ∀ i, i < k → X.getD i [] = tab (ncl p) fun j => (quoT T p i j : Int)) ⟨by simp, fun i hi => by omega⟩ (by
        rintro i X hi ⟨h1, h2⟩
        unfold P_congr_Quotient_l29
        rw [gf i hi, hlen, mkz_ok (by omega) (by omega)]
        simp only [Option.bind_some]
        rw [gi_lt [] (by omega)]
        simp only [Option.bind_some, Int.toNat_natCast]
        obtain ⟨y, hy, q1, q2, q3, q4⟩ := forS_inv (n := ncl p) (f := fun k x => P_congr_Quotient_l76 i p (fstL p p.length) t (fpt p i : Int) k x) (x := X.set i (List.replicate (ncl p) 0))
          (fun j Y => Y.length = ncl p ∧ (∀ q, q ≠ i → Y.getD q [] = X.getD q []) ∧ (Y.getD i []).length = ncl p ∧ ∀ q, q < j → (Y.getD i []).getD q 0 = (quoT T p i q : Int))
          ⟨by simp [h1], fun q hq => by rw [getD_set', if_neg (fun h => hq h.1.symm)], by rw [getD_set', if_pos ⟨rfl, by omega⟩]; simp, fun q hq => by omega⟩ (by
            rintro j Y hj ⟨q1, q2, q3, q4⟩
            unfold P_congr_Quotient_l76
            rw [gf j hj, gi_lt [] (by omega)]
            simp only [Option.bind_some]
            rw [h.gi1 (hf i hi)]; simp only [Option.bind_some]
            rw [h.gi2 (hf i hi) (hf j hj)]; simp only [Option.bind_some]
            rw [hval i j hi hj]; simp only [Option.bind_some]
            rw [si_lt (by omega)]
            refine ⟨_, rfl, by simpa using q1, fun q hq => ?_, ?_, fun q hq => ?_⟩
            · rw [Int.toNat_natCast, getD_set', if_neg (fun h => hq h.1.symm)]; exact q2 q hq
            · rw [Int.toNat_natCast, getD_set', if_pos ⟨rfl, by omega⟩]; simpa using q3
            · rw [Int.toNat_natCast, getD_set', if_pos ⟨rfl, by omega⟩, getD_set']
              split
              · rename_i e; rw [e.1]
              · rename_i e
                exact q4 q (by
                  rcases Nat.lt_or_ge q j with h | h
                  · exact h
                  · exact absurd ⟨by omega, by omega⟩ e))
        rw [hy]
        refine ⟨_, rfl, q1, fun q hq => ?_⟩
        by_cases e : q = i
        · subst e
          exact list_ext 0 (by simpa using q3) fun w hw => by rw [q4 w (by omega), tab_getD (by omega)]
        · rw [q2 q e]; exact h2 q (by omega))
    rw [hy]
    simp only [Option.bind_some, Option.some.injEq, Prod.mk.injEq, and_true]
    exact list_ext [] (by simp [quoL, h1]) fun i hi => by rw [h2 i (by omega)]; unfold quoL; rw [tab_getD (by omega)]
  · rw [decide_eq_false hC, if_neg hC]
    rfl

end Go.Proofs.Ytmdpejgnkoneoaa.Mt
set_option maxRecDepth 100000
set_option maxHeartbeats 4000000
namespace Go.Proofs.Ytmdpejgnkoneoaa.Pu
open Go Go.AM Go.Proofs.Ytmdpejgnkoneoaa.Code

noncomputable def P_subdirect_meet_l8 (but : Int) (list : List (List Int)) (k10 : Nat) (x9 : List Int) : Option ((List Int)) :=
 Option.bind (gi list (k10 : Int)) fun x21 =>
 if !decide ((k10 : Int) = but) then
  Option.bind (P_partition_Meet x9 x21) fun r31 =>
  some r31
 else
  some x9
noncomputable def P_subdirect_meet (n : Int) (list : List (List Int)) (but : Int) : Option ((List Int)) :=
 Option.bind (P_partition_Trivial n) fun r1 =>
 Option.bind (forS list.length (fun k x => P_subdirect_meet_l8 but list k x) r1) fun z14 =>
 some z14
theorem R_subdirect_meet {G : List Frag} {W H : AH} {v_1 : AV} {n : Int} {list : List (List Int)} {but : Int} (hst : St G W H) (h_1 : Rp.rv W v_1 list) {r : (List Int)} (hp : P_subdirect_meet n list but = some r) :
  wpc E0 N_subdirect_meet [.int .i64 n, v_1, .int .i64 but] H fun rv H' => ∃ W', Wle W W' ∧ ∃ (g0 : Frag), St (g0 :: G) W' H' ∧ OwS W' rv g0 (r : List Int) := by
 refine enterN (F := f_subdirect_meet) rfl (Nat.le_of_ble_eq_true rfl) fun s hl hg => ?_
 replace hl : s.length = 27 := hl
 have g0 : gt s 0 = .int .i64 n := hg 0 (Nat.le_of_ble_eq_true rfl)
 have g1 : gt s 1 = v_1 := hg 1 (Nat.le_of_ble_eq_true rfl)
 have g2 : gt s 2 = .int .i64 but := hg 2 (Nat.le_of_ble_eq_true rfl)
 clear hg
 unfold P_subdirect_meet at hp
 show wp E0 c_subdirect_meet s H _
 unfold c_subdirect_meet
 refine AM.wp_seq hp0 (AM.wp_reg hp0 ?_)
 refine wpo_seg hp0 1 (fun s H' => s.length = 27 ∧ gt s 0 = .int .i64 n ∧ gt s 1 = v_1 ∧ gt s 2 = .int .i64 but ∧ H = H') (by simp only [↓runs, isCall, ↓reduceIte, ↓gd_true, ↓gd_false, evs, AV.cells, Nat.reduceEqDiff, Nat.reduceLT, reduceCtorEq, Nat.reduceAdd, sy, g0, g1, g2, hl]) ?_
 rintro s _ ⟨hl, g0, g1, g2, rfl⟩
 refine wpo_nil (then_n ?_)
 refine AM.wp_seq hp0 (AM.wp_reg hp0 ?_)
 refine wpo_seg hp0 1 (fun s H' => s.length = 27 ∧ gt s 1 = v_1 ∧ gt s 2 = .int .i64 but ∧ gt s 10 = .int .i64 n ∧ H = H') (by simp only [↓runs, isCall, ↓reduceIte, ↓gd_true, ↓gd_false, evs, AV.cells, Nat.reduceEqDiff, Nat.reduceLT, reduceCtorEq, Nat.reduceAdd, sy, g0, g1, g2, hl]) ?_
 rintro s _ ⟨hl, g1, g2, g10, rfl⟩
 obtain ⟨r1, e2, hp⟩ := bn hp
 refine wpo_callK hp0 rfl (ys := [.int .i64 n]) (by simp only [evs, List.map_cons, List.map_nil, ev_t, ev_c, g10]) (R_partition_Trivial hst e2) ?_
 rintro rv3 H ⟨W, w4, fg5, hst, o6⟩
 replace h_1 := Rp.mono w4 h_1
 refine wpo_seg hp0 1 (fun s H' => s.length = 27 ∧ gt s 1 = v_1 ∧ gt s 2 = .int .i64 but ∧ gt s 7 = rv3 ∧ H = H') (by simp only [↓runs, isCall, ↓reduceIte, ↓gd_true, ↓gd_false, evs, AV.cells, Nat.reduceEqDiff, Nat.reduceLT, reduceCtorEq, Nat.reduceAdd, sy, gt_other, g1, g2, g10, hl]) ?_
 rintro s _ ⟨hl, g1, g2, g7, rfl⟩
 refine wpo_nil (then_n ?_)
 refine AM.wp_seq hp0 (AM.wp_seq hp0 (AM.wp_reg hp0 ?_))
 have f7 := fz_ln h_1
 refine wpo_seg hp0 3 (fun s H' => s.length = 27 ∧ gt s 2 = .int .i64 but ∧ gt s 7 = rv3 ∧ gt s 12 = v_1 ∧ gt s 13 = .int .i64 (list.length : Int) ∧ gt s 14 = .int .i64 0 ∧ H = H') (by simp only [↓runs, isCall, ↓reduceIte, ↓gd_true, ↓gd_false, evs, AV.cells, Nat.reduceEqDiff, Nat.reduceLT, reduceCtorEq, Nat.reduceAdd, sy, f7, g1, g2, g7, hl]) ?_
 rintro s _ ⟨hl, g2, g7, g12, g13, g14, rfl⟩
 refine wpo_nil (then_n ?_)
 obtain ⟨z14, e15, hp⟩ := bn hp
 refine rangeS_ref hp0 27 list.length (fun k x => P_subdirect_meet_l8 but list k x) (fun _ x s H' => ∃ (W' : AH) (w7 : AV) (q7 : Frag), s.length = 27 ∧ gt s 7 = w7 ∧ gt s 2 = .int .i64 but ∧ gt s 12 = v_1 ∧  Wle W W' ∧ St (q7 :: G) W' H' ∧ OwS W' w7 q7 (x : List Int)) e15 (fz_big h_1) rfl ?_ ?_ hl g14 g13 ?_ ?_
 ·intro k x s H d v hd h; rcases hd with rfl | rfl | rfl <;> simpa only [gt_other, pt_length, Nat.reduceEqDiff, not_false_eq_true] using h
 ·exact ⟨W, _, _, hl, g7, g2, g12, .refl _, hst, o6⟩
 ·intro k10 x9 y11 s H hk hI hl g14 g13 hy12
  change P_subdirect_meet_l8 but list k10 x9 = some y11 at hy12
  unfold P_subdirect_meet_l8 at hy12
  obtain ⟨W, v18, fg19, hl, g7, g2, g12, w17, hst, o20⟩ := hI
  replace h_1 := Rp.mono w17 h_1
  refine AM.wp_seq hp0 (AM.wp_reg hp0 ?_)
  obtain ⟨x21, e22, hy12⟩ := bn hy12
  obtain ⟨p23, y24, f25, f26, h27⟩ := fz_at (k := .i64) hst h_1 e22 rfl
  refine wpo_seg hp0 5 (fun s H' => s.length = 27 ∧ gt s 2 = .int .i64 but ∧ gt s 7 = v18 ∧ gt s 8 = .int .i64 (k10 : Int) ∧ gt s 9 = y24 ∧ gt s 12 = v_1 ∧ gt s 13 = .int .i64 (list.length : Int) ∧ gt s 14 = .int .i64 (k10 : Int) ∧ H = H') (by simp only [↓runs, isCall, ↓reduceIte, ↓gd_true, ↓gd_false, evs, AV.cells, Nat.reduceEqDiff, Nat.reduceLT, reduceCtorEq, Nat.reduceAdd, sy, f25, f26, g2, g7, g12, g13, g14, hl]) ?_
  rintro s _ ⟨hl, g2, g7, g8, g9, g12, g13, g14, rfl⟩
  refine wpo_nil (then_n ?_)
  refine AM.wp_seq hp0 (AM.wp_reg hp0 ?_)
  refine wpo_seg hp0 3 (fun s H' => s.length = 27 ∧ gt s 2 = .int .i64 but ∧ gt s 7 = v18 ∧ gt s 9 = y24 ∧ gt s 12 = v_1 ∧ gt s 13 = .int .i64 (list.length : Int) ∧ gt s 14 = .int .i64 (k10 : Int) ∧ gt s 21 = .bool (!decide ((k10 : Int) = but)) ∧ H = H') (by simp only [↓runs, isCall, ↓reduceIte, ↓gd_true, ↓gd_false, evs, AV.cells, Nat.reduceEqDiff, Nat.reduceLT, reduceCtorEq, Nat.reduceAdd, sy, g2, g7, g8, g9, g12, g13, g14, hl]) ?_
  rintro s _ ⟨hl, g2, g7, g9, g12, g13, g14, g21, rfl⟩
  refine wpo_nil (then_n ?_)
  rcases Bool.eq_false_or_eq_true (!decide ((k10 : Int) = but)) with c28 | c28
  ·replace hy12 := ifT c28 hy12
   refine AM.wp_condT (by simp only [ev_t, ev_c, g21, c28]) ?_
   refine AM.wp_reg hp0 ?_
   refine wpo_seg hp0 2 (fun s H' => s.length = 27 ∧ gt s 2 = .int .i64 but ∧ gt s 7 = v18 ∧ gt s 12 = v_1 ∧ gt s 13 = .int .i64 (list.length : Int) ∧ gt s 14 = .int .i64 (k10 : Int) ∧ gt s 22 = v18 ∧ gt s 23 = y24 ∧ H = H') (by simp only [↓runs, isCall, ↓reduceIte, ↓gd_true, ↓gd_false, evs, AV.cells, Nat.reduceEqDiff, Nat.reduceLT, reduceCtorEq, Nat.reduceAdd, sy, g2, g7, g9, g12, g13, g14, g21, hl]) ?_
   rintro s _ ⟨hl, g2, g7, g12, g13, g14, g22, g23, rfl⟩
   obtain ⟨W, w30, hst, h29⟩ := ow_frz hst o20
   replace h_1 := Rp.mono w30 h_1
   replace h27 := Rp.mono w30 h27
   obtain ⟨r31, e32, hy12⟩ := bn hy12
   refine wpo_callK hp0 rfl (ys := [v18, y24]) (by simp only [evs, List.map_cons, List.map_nil, ev_t, ev_c, g22, g23]) (R_partition_Meet hst h29 h27 e32) ?_
   rintro rv33 H ⟨W, w34, fg35, hst, o36⟩
   replace h_1 := Rp.mono w34 h_1
   replace h27 := Rp.mono w34 h27
   replace h29 := Rp.mono w34 h29
   refine wpo_seg hp0 1 (fun s H' => s.length = 27 ∧ gt s 2 = .int .i64 but ∧ gt s 7 = rv33 ∧ gt s 12 = v_1 ∧ gt s 13 = .int .i64 (list.length : Int) ∧ gt s 14 = .int .i64 (k10 : Int) ∧ H = H') (by simp only [↓runs, isCall, ↓reduceIte, ↓gd_true, ↓gd_false, evs, AV.cells, Nat.reduceEqDiff, Nat.reduceLT, reduceCtorEq, Nat.reduceAdd, sy, gt_other, g2, g7, g12, g13, g14, g22, g23, hl]) ?_
   rintro s _ ⟨hl, g2, g7, g12, g13, g14, rfl⟩
   refine wpo_nil ?_
   refine rnd_n ?_
   obtain rfl := Option.some.inj hy12
   exact ⟨hl, g14, g13, ⟨W, _, _, hl, g7, g2, g12, ((w17.trans w30).trans w34), hst, o36⟩⟩
  ·replace hy12 := ifF c28 hy12
   refine AM.wp_condF (by simp only [ev_t, ev_c, g21, c28]) ?_
   refine AM.wp_skip ?_
   refine rnd_n ?_
   obtain rfl := Option.some.inj hy12
   exact ⟨hl, g14, g13, ⟨W, _, _, hl, g7, g2, g12, w17, hst, o20⟩⟩
 ·rintro s H hI _
  obtain ⟨W, v38, fg39, hl, g7, g2, g12, w37, hst, o40⟩ := hI
  replace h_1 := Rp.mono w37 h_1
  refine then_n ?_
  refine AM.wp_seq hp0 (AM.wp_reg hp0 ?_)
  refine wpo_seg hp0 2 (fun s H' => s.length = 27 ∧ gt s 6 = v38 ∧ H = H') (by simp only [↓runs, isCall, ↓reduceIte, ↓gd_true, ↓gd_false, evs, AV.cells, Nat.reduceEqDiff, Nat.reduceLT, reduceCtorEq, Nat.reduceAdd, sy, g2, g7, g12, hl]) ?_
  rintro s _ ⟨hl, g6, rfl⟩
  refine wpo_nil (then_n ?_)
  refine AM.wp_ret ?_
  obtain rfl := Option.some.inj hp
  refine body_ret (vs := [v38]) (by simp only [rvs, f_subdirect_meet, Option.map_some, g6]) ?_
  exact ⟨W, (w4.trans w37), _, hst, o40⟩

end Go.Proofs.Ytmdpejgnkoneoaa.Pu
set_option maxRecDepth 100000
set_option maxHeartbeats 4000000
namespace Go.Proofs.Ytmdpejgnkoneoaa.Pu
open Go Go.AM Go.Proofs.Ytmdpejgnkoneoaa.Code

noncomputable def P_subdirect_Check_l7 (list : List (List Int)) (t : List (List Int)) (k9 : Nat) : Option (Lp (Unit) (Bool)) :=
 Option.bind (gi list (k9 : Int)) fun x16 =>
 Option.bind (P_congr_Quotient t x16) fun r23 =>
 Option.bind (
  if !decide (r23.2 = 0) then
   some true
  else
   Option.bind (P_subdirect_monolith r23.1) fun r32 =>
   some r32.isNone) fun z29 =>
 if z29 then
  some (.ex false)
 else
  some (.go ())
noncomputable def P_subdirect_Check_l57 (list : List (List Int)) (t : List (List Int)) (k59 : Nat) : Option (Lp (Unit) (Bool)) :=
 Option.bind (P_subdirect_meet (t.length : Int) list (k59 : Int)) fun r67 =>
 Option.bind (P_subdirect_discrete r67) fun r75 =>
 if r75 then
  some (.ex false)
 else
  some (.go ())
noncomputable def P_subdirect_Check (t : List (List Int)) (list : List (List Int)) : Option (Bool) :=
 Option.bind (P_mult_Validate t) fun r1 =>
 if !decide (r1 = 0) then
  some false
 else
  Option.bind (forR list.length (fun k x => P_subdirect_Check_l7 list t k) ()) fun z13 =>
  match z13 with
  | .inl x40 =>
   Option.bind (P_subdirect_meet (t.length : Int) list (-1)) fun r43 =>
   Option.bind (P_subdirect_discrete r43) fun r51 =>
   if !r51 then
    some false
   else
    Option.bind (forR list.length (fun k x => P_subdirect_Check_l57 list t k) ()) fun z63 =>
    match z63 with
    | .inl x80 =>
     some true
    | .inr b => some b
  | .inr b => some b
theorem R_subdirect_Check {G : List Frag} {W H : AH} {v_0 v_1 : AV} {t : List (List Int)} {list : List (List Int)} (hst : St G W H) (h_0 : Rp.rv W v_0 t) (h_1 : Rp.rv W v_1 list) {r : Bool} (hp : P_subdirect_Check t list = some r) :
  wpc E0 N_subdirect_Check [v_0, v_1] H fun rv H' => ∃ W', Wle W W' ∧ St G W' H' ∧ rv = .bool r := by
 refine enterN (F := f_subdirect_Check) rfl (Nat.le_of_ble_eq_true rfl) fun s hl hg => ?_
 replace hl : s.length = 51 := hl
 have g0 : gt s 0 = v_0 := hg 0 (Nat.le_of_ble_eq_true rfl)
 have g1 : gt s 1 = v_1 := hg 1 (Nat.le_of_ble_eq_true rfl)
 clear hg
 unfold P_subdirect_Check at hp
 show wp E0 c_subdirect_Check s H _
 unfold c_subdirect_Check
 refine AM.wp_seq hp0 (AM.wp_reg hp0 ?_)
 refine wpo_seg hp0 1 (fun s H' => s.length = 51 ∧ gt s 0 = v_0 ∧ gt s 1 = v_1 ∧ H = H') (by simp only [↓runs, isCall, ↓reduceIte, ↓gd_true, ↓gd_false, evs, AV.cells, Nat.reduceEqDiff, Nat.reduceLT, reduceCtorEq, Nat.reduceAdd, sy, g0, g1, hl]) ?_
 rintro s _ ⟨hl, g0, g1, rfl⟩
 refine wpo_nil (then_n ?_)
 refine AM.wp_seq hp0 (AM.wp_seq hp0 (AM.wp_reg hp0 ?_))
 refine wpo_seg hp0 1 (fun s H' => s.length = 51 ∧ gt s 0 = v_0 ∧ gt s 1 = v_1 ∧ gt s 10 = v_0 ∧ H = H') (by simp only [↓runs, isCall, ↓reduceIte, ↓gd_true, ↓gd_false, evs, AV.cells, Nat.reduceEqDiff, Nat.reduceLT, reduceCtorEq, Nat.reduceAdd, sy, g0, g1, hl]) ?_
 rintro s _ ⟨hl, g0, g1, g10, rfl⟩
 obtain ⟨r1, e2, hp⟩ := bn hp
 refine wpo_callK hp0 rfl (ys := [v_0]) (by simp only [evs, List.map_cons, List.map_nil, ev_t, ev_c, g10]) (R_mult_Validate hst h_0 e2) ?_
 rintro rv3 H ⟨W, w4, hst, rfl⟩
 replace h_0 := Rp.mono w4 h_0
 replace h_1 := Rp.mono w4 h_1
 refine wpo_seg hp0 1 (fun s H' => s.length = 51 ∧ gt s 0 = v_0 ∧ gt s 1 = v_1 ∧ gt s 12 = .bool (!decide (r1 = 0)) ∧ H = H') (by simp only [↓runs, isCall, ↓reduceIte, ↓gd_true, ↓gd_false, evs, AV.cells, Nat.reduceEqDiff, Nat.reduceLT, reduceCtorEq, Nat.reduceAdd, sy, gt_other, g0, g1, g10, hl]) ?_
 rintro s _ ⟨hl, g0, g1, g12, rfl⟩
 refine wpo_nil (then_n ?_)
 rcases Bool.eq_false_or_eq_true (!decide (r1 = 0)) with c5 | c5
 ·replace hp := ifT c5 hp
  refine AM.wp_condT (by simp only [ev_t, ev_c, g12, c5]) ?_
  refine AM.wp_seq hp0 (AM.wp_reg hp0 ?_)
  refine wpo_seg hp0 1 (fun s H' => s.length = 51 ∧ gt s 4 = .bool false ∧ H = H') (by simp only [↓runs, isCall, ↓reduceIte, ↓gd_true, ↓gd_false, evs, AV.cells, Nat.reduceEqDiff, Nat.reduceLT, reduceCtorEq, Nat.reduceAdd, sy, g0, g1, g12, hl]) ?_
  rintro s _ ⟨hl, g4, rfl⟩
  refine wpo_nil (then_n ?_)
  refine AM.wp_ret ?_
  refine then_r ?_
  obtain rfl := Option.some.inj hp
  refine body_ret (vs := [.bool false]) (by simp only [rvs, f_subdirect_Check, Option.map_some, g4]) ?_
  exact ⟨W, w4, hst, rfl⟩
 ·replace hp := ifF c5 hp
  refine AM.wp_condF (by simp only [ev_t, ev_c, g12, c5]) ?_
  refine AM.wp_skip ?_
  refine then_n ?_
  refine AM.wp_seq hp0 (AM.wp_seq hp0 (AM.wp_reg hp0 ?_))
  have f6 := fz_ln h_1
  refine wpo_seg hp0 3 (fun s H' => s.length = 51 ∧ gt s 0 = v_0 ∧ gt s 1 = v_1 ∧ gt s 13 = v_1 ∧ gt s 14 = .int .i64 (list.length : Int) ∧ gt s 15 = .int .i64 0 ∧ H = H') (by simp only [↓runs, isCall, ↓reduceIte, ↓gd_true, ↓gd_false, evs, AV.cells, Nat.reduceEqDiff, Nat.reduceLT, reduceCtorEq, Nat.reduceAdd, sy, f6, g0, g1, g12, hl]) ?_
  rintro s _ ⟨hl, g0, g1, g13, g14, g15, rfl⟩
  refine wpo_nil (then_n ?_)
  obtain ⟨z13, e14, hp⟩ := bn hp
  refine range_ref hp0 51 list.length (fun k x => P_subdirect_Check_l7 list t k) (fun _ x s H' => ∃ (W' : AH), s.length = 51 ∧ gt s 0 = v_0 ∧ gt s 1 = v_1 ∧ gt s 13 = v_1 ∧  Wle W W' ∧ St G W' H') (fun _ x s H' => ∃ (W' : AH), s.length = 51 ∧ gt s 0 = v_0 ∧ gt s 1 = v_1 ∧  Wle W W' ∧ St G W' H') e14 (fz_big h_1) rfl ?_ ?_ hl g15 g14 ?_ ?_
  ·intro k x s H d v hd h; rcases hd with rfl | rfl | rfl <;> simpa only [gt_other, pt_length, Nat.reduceEqDiff, not_false_eq_true] using h
  ·exact ⟨W, hl, g0, g1, g13, .refl _, hst⟩
  ·intro k9 x8 y10 s H hk hI hl g15 g14 hy11 hx12
   change P_subdirect_Check_l7 list t k9 = some y10 at hy11
   unfold P_subdirect_Check_l7 at hy11
   obtain ⟨W, hl, g0, g1, g13, w15, hst⟩ := hI
   replace h_0 := Rp.mono w15 h_0
   replace h_1 := Rp.mono w15 h_1
   refine AM.wp_seq hp0 (AM.wp_reg hp0 ?_)
   obtain ⟨x16, e17, hy11⟩ := bn hy11
   obtain ⟨p18, y19, f20, f21, h22⟩ := fz_at (k := .i64) hst h_1 e17 rfl
   refine wpo_seg hp0 3 (fun s H' => s.length = 51 ∧ gt s 0 = v_0 ∧ gt s 1 = v_1 ∧ gt s 6 = y19 ∧ gt s 13 = v_1 ∧ gt s 14 = .int .i64 (list.length : Int) ∧ gt s 15 = .int .i64 (k9 : Int) ∧ H = H') (by simp only [↓runs, isCall, ↓reduceIte, ↓gd_true, ↓gd_false, evs, AV.cells, Nat.reduceEqDiff, Nat.reduceLT, reduceCtorEq, Nat.reduceAdd, sy, f20, f21, g0, g1, g13, g14, g15, hl]) ?_
   rintro s _ ⟨hl, g0, g1, g6, g13, g14, g15, rfl⟩
   refine wpo_nil (then_n ?_)
   refine AM.wp_seq hp0 (AM.wp_reg hp0 ?_)
   refine wpo_seg hp0 2 (fun s H' => s.length = 51 ∧ gt s 0 = v_0 ∧ gt s 1 = v_1 ∧ gt s 13 = v_1 ∧ gt s 14 = .int .i64 (list.length : Int) ∧ gt s 15 = .int .i64 (k9 : Int) ∧ gt s 20 = v_0 ∧ gt s 21 = y19 ∧ H = H') (by simp only [↓runs, isCall, ↓reduceIte, ↓gd_true, ↓gd_false, evs, AV.cells, Nat.reduceEqDiff, Nat.reduceLT, reduceCtorEq, Nat.reduceAdd, sy, g0, g1, g6, g13, g14, g15, hl]) ?_
   rintro s _ ⟨hl, g0, g1, g13, g14, g15, g20, g21, rfl⟩
   obtain ⟨r23, e24, hy11⟩ := bn hy11
   refine wpo_callK hp0 rfl (ys := [v_0, y19]) (by simp only [evs, List.map_cons, List.map_nil, ev_t, ev_c, g20, g21]) (R_congr_Quotient hst h_0 h22 e24) ?_
   rintro rv25 H ⟨W, w26, v27, hst, rfl, h28⟩
   replace h_0 := Rp.mono w26 h_0
   replace h_1 := Rp.mono w26 h_1
   replace h22 := Rp.mono w26 h22
   refine wpo_seg hp0 5 (fun s H' => s.length = 51 ∧ gt s 0 = v_0 ∧ gt s 1 = v_1 ∧ gt s 7 = v27 ∧ gt s 8 = .int .i64 r23.2 ∧ gt s 13 = v_1 ∧ gt s 14 = .int .i64 (list.length : Int) ∧ gt s 15 = .int .i64 (k9 : Int) ∧ H = H') (by simp only [↓runs, isCall, ↓reduceIte, ↓gd_true, ↓gd_false, evs, AV.cells, Nat.reduceEqDiff, Nat.reduceLT, reduceCtorEq, Nat.reduceAdd, sy, gt_other, g0, g1, g13, g14, g15, g20, g21, hl]) ?_
   rintro s _ ⟨hl, g0, g1, g7, g8, g13, g14, g15, rfl⟩
   refine wpo_nil (then_n ?_)
   refine AM.wp_seq hp0 ?_
   obtain ⟨z29, hj30, hy11⟩ := bn hy11
   refine AM.wp_regK hp0 (fun s H' => ∃ (W' : AH), s.length = 51 ∧ gt s 31 = .bool z29 ∧ gt s 0 = v_0 ∧ gt s 1 = v_1 ∧ gt s 13 = v_1 ∧ gt s 14 = .int .i64 (list.length : Int) ∧ gt s 15 = .int .i64 (k9 : Int) ∧  Wle W W' ∧ St G W' H') ?_ ?_
   ·rcases Bool.eq_false_or_eq_true (!decide (r23.2 = 0)) with c31 | c31
    ·replace hj30 := ifT c31 hj30
     refine wpo_seg hp0 7 (fun s H' => s.length = 51 ∧ gt s 0 = v_0 ∧ gt s 1 = v_1 ∧ gt s 13 = v_1 ∧ gt s 14 = .int .i64 (list.length : Int) ∧ gt s 15 = .int .i64 (k9 : Int) ∧ gt s 31 = .bool true ∧ H = H') (by simp only [↓runs, isCall, ↓reduceIte, ↓gd_true, ↓gd_false, evs, AV.cells, Nat.reduceEqDiff, Nat.reduceLT, reduceCtorEq, Nat.reduceAdd, sy, c31, g0, g1, g7, g8, g13, g14, g15, hl]) ?_
     rintro s _ ⟨hl, g0, g1, g13, g14, g15, g31, rfl⟩
     refine wpo_nil ?_
     obtain rfl := Option.some.inj hj30
     exact ⟨W, hl, g31, g0, g1, g13, g14, g15, .refl _, hst⟩
    ·replace hj30 := ifF c31 hj30
     refine wpo_seg hp0 4 (fun s H' => s.length = 51 ∧ gt s 0 = v_0 ∧ gt s 1 = v_1 ∧ gt s 13 = v_1 ∧ gt s 14 = .int .i64 (list.length : Int) ∧ gt s 15 = .int .i64 (k9 : Int) ∧ gt s 27 = .bool false ∧ gt s 28 = v27 ∧ H = H') (by simp only [↓runs, isCall, ↓reduceIte, ↓gd_true, ↓gd_false, evs, AV.cells, Nat.reduceEqDiff, Nat.reduceLT, reduceCtorEq, Nat.reduceAdd, sy, c31, g0, g1, g7, g8, g13, g14, g15, hl]) ?_
     rintro s _ ⟨hl, g0, g1, g13, g14, g15, g27, g28, rfl⟩
     obtain ⟨r32, e33, hj30⟩ := bn hj30
     refine wpo_callK hp0 (by simp only [wanted, g27, beq_self_eq_true]) (ys := [v27]) (by simp only [evs, List.map_cons, List.map_nil, ev_t, ev_c, g28]) (R_subdirect_monolith hst h28 e33) ?_
     rintro rv34 H ⟨W, w35, hst, h36⟩
     replace h_0 := Rp.mono w35 h_0
     replace h_1 := Rp.mono w35 h_1
     replace h22 := Rp.mono w35 h22
     replace h28 := Rp.mono w35 h28
     have f37 := nl_eq h36
     refine wpo_seg hp0 2 (fun s H' => s.length = 51 ∧ gt s 0 = v_0 ∧ gt s 1 = v_1 ∧ gt s 13 = v_1 ∧ gt s 14 = .int .i64 (list.length : Int) ∧ gt s 15 = .int .i64 (k9 : Int) ∧ gt s 31 = .bool r32.isNone ∧ H = H') (by simp only [↓runs, isCall, ↓reduceIte, ↓gd_true, ↓gd_false, evs, AV.cells, Nat.reduceEqDiff, Nat.reduceLT, reduceCtorEq, Nat.reduceAdd, sy, gt_other, f37, g0, g1, g13, g14, g15, g27, g28, hl]) ?_
     rintro s _ ⟨hl, g0, g1, g13, g14, g15, g31, rfl⟩
     refine wpo_nil ?_
     obtain rfl := Option.some.inj hj30
     exact ⟨W, hl, g31, g0, g1, g13, g14, g15, w35, hst⟩
   ·rintro s H ⟨W, hl, g31, g0, g1, g13, g14, g15, w38, hst⟩
    replace h_0 := Rp.mono w38 h_0
    replace h_1 := Rp.mono w38 h_1
    refine then_n ?_
    rcases Bool.eq_false_or_eq_true (z29) with c39 | c39
    ·replace hy11 := ifT c39 hy11
     refine AM.wp_condT (by simp only [ev_t, ev_c, g31, c39]) ?_
     refine AM.wp_seq hp0 (AM.wp_reg hp0 ?_)
     refine wpo_seg hp0 1 (fun s H' => s.length = 51 ∧ gt s 4 = .bool false ∧ H = H') (by simp only [↓runs, isCall, ↓reduceIte, ↓gd_true, ↓gd_false, evs, AV.cells, Nat.reduceEqDiff, Nat.reduceLT, reduceCtorEq, Nat.reduceAdd, sy, g0, g1, g13, g14, g15, g31, hl]) ?_
     rintro s _ ⟨hl, g4, rfl⟩
     refine wpo_nil (then_n ?_)
     refine AM.wp_ret ?_
     refine rnd_r ?_
     refine then_r ?_
     obtain rfl := Option.some.inj hy11
     have hx := hx12 _ rfl
     subst hx
     dsimp only at hp
     obtain rfl := Option.some.inj hp
     refine body_ret (vs := [.bool false]) (by simp only [rvs, f_subdirect_Check, Option.map_some, g4]) ?_
     exact ⟨W, (((w4.trans w15).trans w26).trans w38), hst, rfl⟩
    ·replace hy11 := ifF c39 hy11
     refine AM.wp_condF (by simp only [ev_t, ev_c, g31, c39]) ?_
     refine AM.wp_skip ?_
     refine rnd_n ?_
     obtain rfl := Option.some.inj hy11
     exact ⟨_, rfl, hl, g15, g14, ⟨W, hl, g0, g1, g13, ((w15.trans w26).trans w38), hst⟩⟩
  ·rintro x40 s Hn hz hI
   replace hI : (fun s H' => ∃ (W' : AH), s.length = 51 ∧ gt s 0 = v_0 ∧ gt s 1 = v_1 ∧  Wle W W' ∧ St G W' H') s Hn := by
    rcases hI with ⟨hI, -⟩ | ⟨_, hI⟩
    ·obtain ⟨W2, hl, g0, g1, g13, w2, hst2⟩ := hI
     exact ⟨W2, hl, g0, g1, w2, hst2⟩
    ·exact hI
   obtain ⟨H, rfl⟩ : ∃ K, K = Hn := ⟨_, rfl⟩
   subst hz
   dsimp only at hp hI
   obtain ⟨W, hl, g0, g1, w41, hst⟩ := hI
   replace h_0 := Rp.mono w41 h_0
   replace h_1 := Rp.mono w41 h_1
   refine then_n ?_
   refine AM.wp_seq hp0 (AM.wp_seq hp0 (AM.wp_reg hp0 ?_))
   have f42 := fz_ln h_0
   refine wpo_seg hp0 3 (fun s H' => s.length = 51 ∧ gt s 0 = v_0 ∧ gt s 1 = v_1 ∧ gt s 34 = .int .i64 (t.length : Int) ∧ gt s 35 = v_1 ∧ H = H') (by simp only [↓runs, isCall, ↓reduceIte, ↓gd_true, ↓gd_false, evs, AV.cells, Nat.reduceEqDiff, Nat.reduceLT, reduceCtorEq, Nat.reduceAdd, sy, f42, g0, g1, hl]) ?_
   rintro s _ ⟨hl, g0, g1, g34, g35, rfl⟩
   obtain ⟨r43, e44, hp⟩ := bn hp
   refine wpo_callK hp0 rfl (ys := [.int .i64 (t.length : Int), v_1, .int .i64 (-1)]) (by simp only [evs, List.map_cons, List.map_nil, ev_t, ev_c, g34, g35]) (R_subdirect_meet hst h_1 e44) ?_
   rintro rv45 H ⟨W, w46, fg47, hst, o48⟩
   replace h_0 := Rp.mono w46 h_0
   replace h_1 := Rp.mono w46 h_1
   refine wpo_seg hp0 0 (fun s H' => s.length = 51 ∧ gt s 0 = v_0 ∧ gt s 1 = v_1 ∧ gt s 36 = rv45 ∧ H = H') (by simp only [↓runs, isCall, ↓reduceIte, ↓gd_true, ↓gd_false, evs, AV.cells, Nat.reduceEqDiff, Nat.reduceLT, reduceCtorEq, Nat.reduceAdd, sy, gt_other, g0, g1, g34, g35, hl]) ?_
   rintro s _ ⟨hl, g0, g1, g36, rfl⟩
   obtain ⟨W, w50, hst, h49⟩ := ow_frz hst o48
   replace h_0 := Rp.mono w50 h_0
   replace h_1 := Rp.mono w50 h_1
   obtain ⟨r51, e52, hp⟩ := bn hp
   refine wpo_callK hp0 rfl (ys := [rv45]) (by simp only [evs, List.map_cons, List.map_nil, ev_t, ev_c, g36]) (R_subdirect_discrete hst h49 e52) ?_
   rintro rv53 H ⟨W, w54, hst, rfl⟩
   replace h_0 := Rp.mono w54 h_0
   replace h_1 := Rp.mono w54 h_1
   replace h49 := Rp.mono w54 h49
   refine wpo_seg hp0 1 (fun s H' => s.length = 51 ∧ gt s 0 = v_0 ∧ gt s 1 = v_1 ∧ gt s 38 = .bool (!r51) ∧ H = H') (by simp only [↓runs, isCall, ↓reduceIte, ↓gd_true, ↓gd_false, evs, AV.cells, Nat.reduceEqDiff, Nat.reduceLT, reduceCtorEq, Nat.reduceAdd, sy, gt_other, g0, g1, g36, hl]) ?_
   rintro s _ ⟨hl, g0, g1, g38, rfl⟩
   refine wpo_nil (then_n ?_)
   rcases Bool.eq_false_or_eq_true (!r51) with c55 | c55
   ·replace hp := ifT c55 hp
    refine AM.wp_condT (by simp only [ev_t, ev_c, g38, c55]) ?_
    refine AM.wp_seq hp0 (AM.wp_reg hp0 ?_)
    refine wpo_seg hp0 1 (fun s H' => s.length = 51 ∧ gt s 4 = .bool false ∧ H = H') (by simp only [↓runs, isCall, ↓reduceIte, ↓gd_true, ↓gd_false, evs, AV.cells, Nat.reduceEqDiff, Nat.reduceLT, reduceCtorEq, Nat.reduceAdd, sy, g0, g1, g38, hl]) ?_
    rintro s _ ⟨hl, g4, rfl⟩
    refine wpo_nil (then_n ?_)
    refine AM.wp_ret ?_
    refine then_r ?_
    obtain rfl := Option.some.inj hp
    refine body_ret (vs := [.bool false]) (by simp only [rvs, f_subdirect_Check, Option.map_some, g4]) ?_
    exact ⟨W, ((((w4.trans w41).trans w46).trans w50).trans w54), hst, rfl⟩
   ·replace hp := ifF c55 hp
    refine AM.wp_condF (by simp only [ev_t, ev_c, g38, c55]) ?_
    refine AM.wp_skip ?_
    refine then_n ?_
    refine AM.wp_seq hp0 (AM.wp_seq hp0 (AM.wp_reg hp0 ?_))
    have f56 := fz_ln h_1
    refine wpo_seg hp0 3 (fun s H' => s.length = 51 ∧ gt s 0 = v_0 ∧ gt s 1 = v_1 ∧ gt s 40 = .int .i64 (list.length : Int) ∧ gt s 41 = .int .i64 0 ∧ H = H') (by simp only [↓runs, isCall, ↓reduceIte, ↓gd_true, ↓gd_false, evs, AV.cells, Nat.reduceEqDiff, Nat.reduceLT, reduceCtorEq, Nat.reduceAdd, sy, f56, g0, g1, g38, hl]) ?_
    rintro s _ ⟨hl, g0, g1, g40, g41, rfl⟩
    refine wpo_nil (then_n ?_)
    obtain ⟨z63, e64, hp⟩ := bn hp
    refine range_ref hp0 51 list.length (fun k x => P_subdirect_Check_l57 list t k) (fun _ x s H' => ∃ (W' : AH), s.length = 51 ∧ gt s 0 = v_0 ∧ gt s 1 = v_1 ∧  Wle W W' ∧ St G W' H') (fun _ x s H' => ∃ (W' : AH), s.length = 51 ∧  Wle W W' ∧ St G W' H') e64 (fz_big h_1) rfl ?_ ?_ hl g41 g40 ?_ ?_
    ·intro k x s H d v hd h; rcases hd with rfl | rfl | rfl <;> simpa only [gt_other, pt_length, Nat.reduceEqDiff, not_false_eq_true] using h
    ·exact ⟨W, hl, g0, g1, .refl _, hst⟩
    ·intro k59 x58 y60 s H hk hI hl g41 g40 hy61 hx62
     change P_subdirect_Check_l57 list t k59 = some y60 at hy61
     unfold P_subdirect_Check_l57 at hy61
     obtain ⟨W, hl, g0, g1, w65, hst⟩ := hI
     replace h_0 := Rp.mono w65 h_0
     replace h_1 := Rp.mono w65 h_1
     refine AM.wp_seq hp0 (AM.wp_reg hp0 ?_)
     refine wpo_seg hp0 2 (fun s H' => s.length = 51 ∧ gt s 0 = v_0 ∧ gt s 1 = v_1 ∧ gt s 9 = .int .i64 (k59 : Int) ∧ gt s 40 = .int .i64 (list.length : Int) ∧ gt s 41 = .int .i64 (k59 : Int) ∧ H = H') (by simp only [↓runs, isCall, ↓reduceIte, ↓gd_true, ↓gd_false, evs, AV.cells, Nat.reduceEqDiff, Nat.reduceLT, reduceCtorEq, Nat.reduceAdd, sy, g0, g1, g40, g41, hl]) ?_
     rintro s _ ⟨hl, g0, g1, g9, g40, g41, rfl⟩
     refine wpo_nil (then_n ?_)
     refine AM.wp_seq hp0 (AM.wp_reg hp0 ?_)
     have f66 := fz_ln h_0
     refine wpo_seg hp0 4 (fun s H' => s.length = 51 ∧ gt s 0 = v_0 ∧ gt s 1 = v_1 ∧ gt s 40 = .int .i64 (list.length : Int) ∧ gt s 41 = .int .i64 (k59 : Int) ∧ gt s 45 = .int .i64 (t.length : Int) ∧ gt s 46 = v_1 ∧ gt s 47 = .int .i64 (k59 : Int) ∧ H = H') (by simp only [↓runs, isCall, ↓reduceIte, ↓gd_true, ↓gd_false, evs, AV.cells, Nat.reduceEqDiff, Nat.reduceLT, reduceCtorEq, Nat.reduceAdd, sy, f66, g0, g1, g9, g40, g41, hl]) ?_
     rintro s _ ⟨hl, g0, g1, g40, g41, g45, g46, g47, rfl⟩
     obtain ⟨r67, e68, hy61⟩ := bn hy61
     refine wpo_callK hp0 rfl (ys := [.int .i64 (t.length : Int), v_1, .int .i64 (k59 : Int)]) (by simp only [evs, List.map_cons, List.map_nil, ev_t, ev_c, g45, g46, g47]) (R_subdirect_meet hst h_1 e68) ?_
     rintro rv69 H ⟨W, w70, fg71, hst, o72⟩
     replace h_0 := Rp.mono w70 h_0
     replace h_1 := Rp.mono w70 h_1
     refine wpo_seg hp0 0 (fun s H' => s.length = 51 ∧ gt s 0 = v_0 ∧ gt s 1 = v_1 ∧ gt s 40 = .int .i64 (list.length : Int) ∧ gt s 41 = .int .i64 (k59 : Int) ∧ gt s 48 = rv69 ∧ H = H') (by simp only [↓runs, isCall, ↓reduceIte, ↓gd_true, ↓gd_false, evs, AV.cells, Nat.reduceEqDiff, Nat.reduceLT, reduceCtorEq, Nat.reduceAdd, sy, gt_other, g0, g1, g40, g41, g45, g46, g47, hl]) ?_
     rintro s _ ⟨hl, g0, g1, g40, g41, g48, rfl⟩
     obtain ⟨W, w74, hst, h73⟩ := ow_frz hst o72
     replace h_0 := Rp.mono w74 h_0
     replace h_1 := Rp.mono w74 h_1
     obtain ⟨r75, e76, hy61⟩ := bn hy61
     refine wpo_callK hp0 rfl (ys := [rv69]) (by simp only [evs, List.map_cons, List.map_nil, ev_t, ev_c, g48]) (R_subdirect_discrete hst h73 e76) ?_
     rintro rv77 H ⟨W, w78, hst, rfl⟩
     replace h_0 := Rp.mono w78 h_0
     replace h_1 := Rp.mono w78 h_1
     replace h73 := Rp.mono w78 h73
     refine wpo_seg hp0 0 (fun s H' => s.length = 51 ∧ gt s 0 = v_0 ∧ gt s 1 = v_1 ∧ gt s 40 = .int .i64 (list.length : Int) ∧ gt s 41 = .int .i64 (k59 : Int) ∧ gt s 49 = .bool r75 ∧ H = H') (by simp only [↓runs, isCall, ↓reduceIte, ↓gd_true, ↓gd_false, evs, AV.cells, Nat.reduceEqDiff, Nat.reduceLT, reduceCtorEq, Nat.reduceAdd, sy, gt_other, g0, g1, g40, g41, g48, hl]) ?_
     rintro s _ ⟨hl, g0, g1, g40, g41, g49, rfl⟩
     refine wpo_nil (then_n ?_)
     rcases Bool.eq_false_or_eq_true (r75) with c79 | c79
     ·replace hy61 := ifT c79 hy61
      refine AM.wp_condT (by simp only [ev_t, ev_c, g49, c79]) ?_
      refine AM.wp_seq hp0 (AM.wp_reg hp0 ?_)
      refine wpo_seg hp0 1 (fun s H' => s.length = 51 ∧ gt s 4 = .bool false ∧ H = H') (by simp only [↓runs, isCall, ↓reduceIte, ↓gd_true, ↓gd_false, evs, AV.cells, Nat.reduceEqDiff, Nat.reduceLT, reduceCtorEq, Nat.reduceAdd, sy, g0, g1, g40, g41, g49, hl]) ?_
      rintro s _ ⟨hl, g4, rfl⟩
      refine wpo_nil (then_n ?_)
      refine AM.wp_ret ?_
      refine rnd_r ?_
      refine then_r ?_
      obtain rfl := Option.some.inj hy61
      have hx := hx62 _ rfl
      subst hx
      dsimp only at hp
      obtain rfl := Option.some.inj hp
      refine body_ret (vs := [.bool false]) (by simp only [rvs, f_subdirect_Check, Option.map_some, g4]) ?_
      exact ⟨W, ((((((((w4.trans w41).trans w46).trans w50).trans w54).trans w65).trans w70).trans w74).trans w78), hst, rfl⟩
     ·replace hy61 := ifF c79 hy61
      refine AM.wp_condF (by simp only [ev_t, ev_c, g49, c79]) ?_
      refine AM.wp_skip ?_
      refine rnd_n ?_
      obtain rfl := Option.some.inj hy61
      exact ⟨_, rfl, hl, g41, g40, ⟨W, hl, g0, g1, (((w65.trans w70).trans w74).trans w78), hst⟩⟩
    ·rintro x80 s Hn hz hI
     replace hI : (fun s H' => ∃ (W' : AH), s.length = 51 ∧  Wle W W' ∧ St G W' H') s Hn := by
      rcases hI with ⟨hI, -⟩ | ⟨_, hI⟩
      ·obtain ⟨W2, hl, g0, g1, w2, hst2⟩ := hI
       exact ⟨W2, hl, w2, hst2⟩
      ·exact hI
     obtain ⟨H, rfl⟩ : ∃ K, K = Hn := ⟨_, rfl⟩
     subst hz
     dsimp only at hp hI
     obtain ⟨W, hl, w81, hst⟩ := hI
     replace h_0 := Rp.mono w81 h_0
     replace h_1 := Rp.mono w81 h_1
     refine then_n ?_
     refine AM.wp_seq hp0 (AM.wp_reg hp0 ?_)
     refine wpo_seg hp0 1 (fun s H' => s.length = 51 ∧ gt s 4 = .bool true ∧ H = H') (by simp only [↓runs, isCall, ↓reduceIte, ↓gd_true, ↓gd_false, evs, AV.cells, Nat.reduceEqDiff, Nat.reduceLT, reduceCtorEq, Nat.reduceAdd, sy, hl]) ?_
     rintro s _ ⟨hl, g4, rfl⟩
     refine wpo_nil (then_n ?_)
     refine AM.wp_ret ?_
     obtain rfl := Option.some.inj hp
     refine body_ret (vs := [.bool true]) (by simp only [rvs, f_subdirect_Check, Option.map_some, g4]) ?_
     exact ⟨W, (((((w4.trans w41).trans w46).trans w50).trans w54).trans w81), hst, rfl⟩

end Go.Proofs.Ytmdpejgnkoneoaa.Pu
set_option maxRecDepth 100000
set_option maxHeartbeats 4000000
namespace Go.Proofs.Ytmdpejgnkoneoaa.Pu
open Go Go.AM Go.Proofs.Ytmdpejgnkoneoaa.Code

end Go.Proofs.Ytmdpejgnkoneoaa.Pu
set_option maxRecDepth 100000
set_option maxHeartbeats 4000000
namespace Go.Proofs.Ytmdpejgnkoneoaa.Pu
open Go Go.AM Go.Proofs.Ytmdpejgnkoneoaa.Code

end Go.Proofs.Ytmdpejgnkoneoaa.Pu
namespace Go.Proofs.Ytmdpejgnkoneoaa.Mt
open Go Go.AM Go.AM.Par Go.AM.Cg Go.AM.Lx Go.Proofs.Ytmdpejgnkoneoaa.Pu

def InfTo (list : List (List Int)) (b : Int) (k x y : Nat) : Prop := ∀ j, j < k → (j : Int) ≠ b → (list.getD j []).getD x 0 = (list.getD j []).getD y 0
theorem inf_step {list : List (List Int)} {b : Int} {k x y : Nat} (hb : (k : Int) ≠ b) : (InfTo list b k x y ∧ (list.getD k []).getD x 0 = (list.getD k []).getD y 0) ↔ InfTo list b (k + 1) x y := by
  constructor
  · rintro ⟨h1, h2⟩ j hj hjb
    rcases Nat.lt_or_ge j k with h | h
    · exact h1 j h hjb
    · have : j = k := by omega
      subst this; exact h2
  · intro h; exact ⟨fun j hj => h j (by omega), h k (by omega) hb⟩
theorem inf_skip {list : List (List Int)} {b : Int} {k x y : Nat} (hb : (k : Int) = b) : InfTo list b k x y ↔ InfTo list b (k + 1) x y := by
  constructor
  · intro h1 j hj hjb
    rcases Nat.lt_or_ge j k with h | h
    · exact h1 j h hjb
    · have : j = k := by omega
      subst this; exact absurd hb hjb
  · intro h j hj; exact h j (by omega)
theorem smeet {n : Nat} {list : List (List Int)} (hn : n ≤ 4096) (hl : ∀ k, k < list.length → (list.getD k []).length = n ∧ validP (list.getD k []) = true) (b : Int) :
    ∃ r, P_subdirect_meet (n : Int) list b = some r ∧ IsP n (InfTo list b list.length) r := by
  unfold P_subdirect_meet
  rw [trivial' hn]
  simp only [Option.bind_some]
  obtain ⟨y, hy, hQ⟩ := forS_inv (n := list.length) (f := fun k x => P_subdirect_meet_l8 b list k x) (x := List.replicate n 0) (fun k X => IsP n (InfTo list b k) X)
    ((rep_isP n).mono fun x y _ _ => ⟨fun _ j hj => by omega, fun _ => trivial⟩) (by
      intro k X hk hX
      unfold P_subdirect_meet_l8
      rw [gi_lt [] hk]
      simp only [Option.bind_some]
      by_cases hb : (k : Int) = b
      · have c1 : decide ((k : Int) = b) = true := decide_eq_true hb
        simp only [c1, Bool.not_true, Bool.false_eq_true, if_false]
        exact ⟨_, rfl, hX.mono fun x y _ _ => inf_skip hb⟩
      · have c1 : decide ((k : Int) = b) = false := decide_eq_false hb
        simp only [c1, Bool.not_false, if_true]
        obtain ⟨h1, h2⟩ := hl k hk
        have hs := IsP.self h2
        rw [h1] at hs
        obtain ⟨r, hr, hR⟩ := meet hX hs hn
        rw [hr]
        exact ⟨_, rfl, hR.mono fun x y _ _ => inf_step hb⟩)
  rw [hy]
  exact ⟨_, rfl, hQ⟩
def SI (n : Nat) (T : Nat → Nat → Nat) : Prop := 2 ≤ n ∧ ¬ Disc n (Mon n T)
def Fac (n : Nat) (T : Nat → Nat → Nat) (p : List Int) : Prop := CongL n T 0 p ∧ SI (ncl p) (quoT T p)
def ChkP (n : Nat) (T : Nat → Nat → Nat) (list : List (List Int)) : Prop := (∀ k, k < list.length → Fac n T (list.getD k [])) ∧ Disc n (InfTo list (-1) list.length) ∧ ∀ k, k < list.length → ¬ Disc n (InfTo list (k : Int) list.length)

open Classical in
theorem check {n : Nat} {T : Nat → Nat → Nat} {t : List (List Int)} (h : Sg t n T) (list : List (List Int)) : P_subdirect_Check t list = some (decide (ChkP n T list)) := by
  have h400 := h.le
  unfold P_subdirect_Check
  rw [validate, h.valid, h.len]
  simp only [Option.bind_some, Option.bind_none, decide_true, decide_false, Bool.not_true, Bool.not_false, Bool.true_and, Bool.and_true, Bool.false_eq_true, if_true, if_false, not_true_eq_false, not_false_eq_true, ite_true, ite_false, Bool.not_eq_true, decide_eq_true_eq, decide_eq_false_iff_not, Bool.not_eq_true', Bool.not_eq_false', Option.getD_some, Option.getD_none, Option.isSome_some, Option.isSome_none, Option.isNone_some, Option.isNone_none, eq_self, forall_const, true_implies, false_implies, implies_true]
  rw [look_const (ok := fun k => Fac n T (list.getD k [])) (b := false) fun k hk => by
    unfold P_subdirect_Check_l7
    rw [gi_lt [] hk]
    simp only [Option.bind_some]
    rw [quotient h]
    by_cases hC : CongL n T 0 (list.getD k [])
    · rw [if_pos hC]
      simp only [Option.bind_some, Option.bind_none, decide_true, decide_false, Bool.not_true, Bool.not_false, Bool.true_and, Bool.and_true, Bool.false_eq_true, if_true, if_false, not_true_eq_false, not_false_eq_true, ite_true, ite_false, Bool.not_eq_true, decide_eq_true_eq, decide_eq_false_iff_not, Bool.not_eq_true', Bool.not_eq_false', Option.getD_some, Option.getD_none, Option.isSome_some, Option.isSome_none, Option.isNone_some, Option.isNone_none, eq_self, forall_const, true_implies, false_implies, implies_true]
      rcases monolith (quo_tab h hC) with ⟨a, b⟩ | ⟨p, a, b, c, d⟩
      · rw [a, if_neg (fun hF : Fac n T (list.getD k []) => by
          rcases b with b | b
          · have := hF.2.1; omega
          · exact hF.2.2 b)]
        rfl
      · rw [a, if_pos (show Fac n T (list.getD k []) from ⟨hC, b, c⟩)]
        rfl
    · rw [if_neg hC, if_neg (fun hF : Fac n T (list.getD k []) => hC hF.1)]
      rfl]
  by_cases hA : ∀ k, k < list.length → Fac n T (list.getD k [])
  · have hl : ∀ k, k < list.length → (list.getD k []).length = n ∧ validP (list.getD k []) = true := fun k hk => ⟨(hA k hk).1.1, (hA k hk).1.2.1⟩
    rw [if_pos hA]
    obtain ⟨r, e, hr⟩ := smeet (by omega) hl (-1)
    simp only [Option.bind_some]
    rw [e]
    simp only [Option.bind_some]
    rw [discrete hr (by omega)]
    simp only [Option.bind_some]
    by_cases hD : Disc n (InfTo list (-1) list.length)
    · rw [decide_eq_true hD]
      simp only [Bool.not_true, Bool.false_eq_true, if_false, Bool.true_eq_false, reduceCtorEq]
      rw [look_const (ok := fun k => ¬ Disc n (InfTo list (k : Int) list.length)) (b := false) fun k hk => by
        unfold P_subdirect_Check_l57
        obtain ⟨r, e, hr⟩ := smeet (by omega) hl (k : Int)
        rw [h.len, e]
        simp only [Option.bind_some]
        rw [discrete hr (by omega)]
        simp only [Option.bind_some]
        by_cases hd : Disc n (InfTo list (k : Int) list.length)
        · rw [decide_eq_true hd, if_neg (show ¬ ¬ Disc n (InfTo list (k : Int) list.length) from fun h => h hd)]; rfl
        · rw [decide_eq_false hd, if_pos hd]; rfl]
      by_cases hB : ∀ k, k < list.length → ¬ Disc n (InfTo list (k : Int) list.length)
      · rw [if_pos hB, decide_eq_true (show ChkP n T list from ⟨hA, hD, hB⟩)]; rfl
      · rw [if_neg hB, decide_eq_false (fun hc : ChkP n T list => hB hc.2.2)]; rfl
    · rw [decide_eq_false hD, decide_eq_false (fun hc : ChkP n T list => hD hc.2.1)]
      rfl
  · rw [if_neg hA, decide_eq_false (fun hc : ChkP n T list => hA hc.1)]
    rfl

end Go.Proofs.Ytmdpejgnkoneoaa.Mt
set_option maxRecDepth 100000
set_option maxHeartbeats 4000000
namespace Go.Proofs.Ytmdpejgnkoneoaa.Pu
open Go Go.AM Go.Proofs.Ytmdpejgnkoneoaa.Code

noncomputable def P_semigrouplaw22_klein : Option ((List (List Int))) :=
 some ([[0, 1, 2, 3], [1, 0, 3, 2], [2, 3, 0, 1], [3, 2, 1, 0]])
theorem R_semigrouplaw22_klein {G : List Frag} {W H : AH} (hst : St G W H) {r : (List (List Int))} (hp : P_semigrouplaw22_klein = some r) :
  wpc E0 N_semigrouplaw22_klein [] H fun rv H' => ∃ W', Wle W W' ∧ ∃ (g0 : Frag), St (g0 :: G) W' H' ∧ OwS W' rv g0 (r : List (List Int)) := by
 refine enterN (F := f_semigrouplaw22_klein) rfl (Nat.le_of_ble_eq_true rfl) fun s hl hg => ?_
 replace hl : s.length = 6 := hl
 clear hg
 unfold P_semigrouplaw22_klein at hp
 show wp E0 c_semigrouplaw22_klein s H _
 unfold c_semigrouplaw22_klein
 refine AM.wp_seq hp0 (AM.wp_reg hp0 ?_)
 refine wpo_seg hp0 1 (fun s H' => s.length = 6 ∧ H = H') (by simp only [↓runs, isCall, ↓reduceIte, ↓gd_true, ↓gd_false, evs, AV.cells, Nat.reduceEqDiff, Nat.reduceLT, reduceCtorEq, Nat.reduceAdd, sy, hl]) ?_
 rintro s _ ⟨hl, rfl⟩
 refine wpo_nil (then_n ?_)
 refine AM.wp_seq hp0 (AM.wp_reg hp0 ?_)
 obtain ⟨v1, l2, H3, fg4, W, f6, f7, f8, w5, hst, o9⟩ := ow_lit' (n := 1) (k := 4) (z := [.int .i64 0, .int .i64 0, .int .i64 0, .int .i64 0]) (ys := [.int .i64 0, .int .i64 1, .int .i64 2, .int .i64 3]) (M := ([0, 1, 2, 3] : List (Int))) [(0, 1, .int .i64 0), (1, 1, .int .i64 1), (2, 1, .int .i64 2), (3, 1, .int .i64 3)] rfl rfl hst (sc_cons (show Rp.rv _ (.int .i64 0) (0 : Int) from rfl) (sc_cons (show Rp.rv _ (.int .i64 1) (1 : Int) from rfl) (sc_cons (show Rp.rv _ (.int .i64 2) (2 : Int) from rfl) (sc_cons (show Rp.rv _ (.int .i64 3) (3 : Int) from rfl) (sc_nil))))) ((List.forall_mem_cons.2 ⟨rfl, (List.forall_mem_cons.2 ⟨rfl, (List.forall_mem_cons.2 ⟨rfl, (List.forall_mem_cons.2 ⟨rfl, fun _ h => (List.not_mem_nil h).elim⟩)⟩)⟩)⟩)) rfl rfl rfl (by decide)
 obtain ⟨v10, l11, H12, fg13, W, f15, f16, f17, w14, hst, o18⟩ := ow_lit' (n := 1) (k := 4) (z := [.int .i64 0, .int .i64 0, .int .i64 0, .int .i64 0]) (ys := [.int .i64 1, .int .i64 0, .int .i64 3, .int .i64 2]) (M := ([1, 0, 3, 2] : List (Int))) [(0, 1, .int .i64 1), (1, 1, .int .i64 0), (2, 1, .int .i64 3), (3, 1, .int .i64 2)] rfl rfl hst (sc_cons (show Rp.rv _ (.int .i64 1) (1 : Int) from rfl) (sc_cons (show Rp.rv _ (.int .i64 0) (0 : Int) from rfl) (sc_cons (show Rp.rv _ (.int .i64 3) (3 : Int) from rfl) (sc_cons (show Rp.rv _ (.int .i64 2) (2 : Int) from rfl) (sc_nil))))) ((List.forall_mem_cons.2 ⟨rfl, (List.forall_mem_cons.2 ⟨rfl, (List.forall_mem_cons.2 ⟨rfl, (List.forall_mem_cons.2 ⟨rfl, fun _ h => (List.not_mem_nil h).elim⟩)⟩)⟩)⟩)) rfl rfl rfl (by decide)
 replace o9 := o9.mono w14
 obtain ⟨v19, l20, H21, fg22, W, f24, f25, f26, w23, hst, o27⟩ := ow_lit' (n := 1) (k := 4) (z := [.int .i64 0, .int .i64 0, .int .i64 0, .int .i64 0]) (ys := [.int .i64 2, .int .i64 3, .int .i64 0, .int .i64 1]) (M := ([2, 3, 0, 1] : List (Int))) [(0, 1, .int .i64 2), (1, 1, .int .i64 3), (2, 1, .int .i64 0), (3, 1, .int .i64 1)] rfl rfl hst (sc_cons (show Rp.rv _ (.int .i64 2) (2 : Int) from rfl) (sc_cons (show Rp.rv _ (.int .i64 3) (3 : Int) from rfl) (sc_cons (show Rp.rv _ (.int .i64 0) (0 : Int) from rfl) (sc_cons (show Rp.rv _ (.int .i64 1) (1 : Int) from rfl) (sc_nil))))) ((List.forall_mem_cons.2 ⟨rfl, (List.forall_mem_cons.2 ⟨rfl, (List.forall_mem_cons.2 ⟨rfl, (List.forall_mem_cons.2 ⟨rfl, fun _ h => (List.not_mem_nil h).elim⟩)⟩)⟩)⟩)) rfl rfl rfl (by decide)
 replace o9 := o9.mono w23
 replace o18 := o18.mono w23
 obtain ⟨v28, l29, H30, fg31, W, f34, f35, f36, w33, hst, o37⟩ := ow_lit' (n := 1) (k := 4) (z := [.int .i64 0, .int .i64 0, .int .i64 0, .int .i64 0]) (ys := [.int .i64 3, .int .i64 2, .int .i64 1, .int .i64 0]) (M := ([3, 2, 1, 0] : List (Int))) [(0, 1, .int .i64 3), (1, 1, .int .i64 2), (2, 1, .int .i64 1), (3, 1, .int .i64 0)] rfl rfl hst (sc_cons (show Rp.rv _ (.int .i64 3) (3 : Int) from rfl) (sc_cons (show Rp.rv _ (.int .i64 2) (2 : Int) from rfl) (sc_cons (show Rp.rv _ (.int .i64 1) (1 : Int) from rfl) (sc_cons (show Rp.rv _ (.int .i64 0) (0 : Int) from rfl) (sc_nil))))) ((List.forall_mem_cons.2 ⟨rfl, (List.forall_mem_cons.2 ⟨rfl, (List.forall_mem_cons.2 ⟨rfl, (List.forall_mem_cons.2 ⟨rfl, fun _ h => (List.not_mem_nil h).elim⟩)⟩)⟩)⟩)) rfl rfl rfl (by decide)
 replace o9 := o9.mono w33
 replace o18 := o18.mono w33
 replace o27 := o27.mono w33
 replace hst := hst.p3
 obtain ⟨W, w39, hst, h38⟩ := ow_frz hst o9
 replace o18 := o18.mono w39
 replace o27 := o27.mono w39
 replace o37 := o37.mono w39
 replace hst := hst.p2
 obtain ⟨W, w41, hst, h40⟩ := ow_frz hst o18
 replace h38 := Rp.mono w41 h38
 replace o27 := o27.mono w41
 replace o37 := o37.mono w41
 replace hst := hst.p1
 obtain ⟨W, w43, hst, h42⟩ := ow_frz hst o27
 replace h38 := Rp.mono w43 h38
 replace h40 := Rp.mono w43 h40
 replace o37 := o37.mono w43
 obtain ⟨W, w45, hst, h44⟩ := ow_frz hst o37
 replace h38 := Rp.mono w45 h38
 replace h40 := Rp.mono w45 h40
 replace h42 := Rp.mono w45 h42
 obtain ⟨v46, l47, H48, fg49, W, f51, f52, f53, w50, hst, o54⟩ := ow_lit' (n := 1) (k := 4) (z := [.nils, .nils, .nils, .nils]) (ys := [v1, v10, v19, v28]) (M := ([[0, 1, 2, 3], [1, 0, 3, 2], [2, 3, 0, 1], [3, 2, 1, 0]] : List (List Int))) [(0, 1, v1), (1, 1, v10), (2, 1, v19), (3, 1, v28)] rfl rfl hst (sc_cons (show Rp.rv _ (v1) ([0, 1, 2, 3] : List Int) from h38) (sc_cons (show Rp.rv _ (v10) ([1, 0, 3, 2] : List Int) from h40) (sc_cons (show Rp.rv _ (v19) ([2, 3, 0, 1] : List Int) from h42) (sc_cons (show Rp.rv _ (v28) ([3, 2, 1, 0] : List Int) from h44) (sc_nil))))) ((List.forall_mem_cons.2 ⟨(Rp.cells (show Rp.rv W (v1) ([0, 1, 2, 3] : List Int) from h38)), (List.forall_mem_cons.2 ⟨(Rp.cells (show Rp.rv W (v10) ([1, 0, 3, 2] : List Int) from h40)), (List.forall_mem_cons.2 ⟨(Rp.cells (show Rp.rv W (v19) ([2, 3, 0, 1] : List Int) from h42)), (List.forall_mem_cons.2 ⟨(Rp.cells (show Rp.rv W (v28) ([3, 2, 1, 0] : List Int) from h44)), fun _ h => (List.not_mem_nil h).elim⟩)⟩)⟩)⟩)) rfl rfl rfl (by decide)
 replace h38 := Rp.mono w50 h38
 replace h40 := Rp.mono w50 h40
 replace h42 := Rp.mono w50 h42
 replace h44 := Rp.mono w50 h44
 refine wpo_seg hp0 6 (fun s H' => s.length = 6 ∧ gt s 0 = v46 ∧ H48 = H') (by simp only [↓runs, isCall, ↓reduceIte, ↓gd_true, ↓gd_false, evs, AV.cells, Nat.reduceEqDiff, Nat.reduceLT, reduceCtorEq, Nat.reduceAdd, sy, f6, f7, f8, f15, f16, f17, f24, f25, f26, f34, f35, f36, f51, f52, f53, hl]) ?_
 rintro s _ ⟨hl, g0, rfl⟩
 refine wpo_nil (then_n ?_)
 refine AM.wp_ret ?_
 obtain rfl := Option.some.inj hp
 refine body_ret (vs := [v46]) (by simp only [rvs, f_semigrouplaw22_klein, Option.map_some, g0]) ?_
 exact ⟨W, ((((((((w5.trans w14).trans w23).trans w33).trans w39).trans w41).trans w43).trans w45).trans w50), _, hst, o54⟩

end Go.Proofs.Ytmdpejgnkoneoaa.Pu
set_option maxRecDepth 100000
set_option maxHeartbeats 4000000
namespace Go.Proofs.Ytmdpejgnkoneoaa.Pu
open Go Go.AM Go.Proofs.Ytmdpejgnkoneoaa.Code

noncomputable def P_semigrouplaw22_awake : Option (Bool) :=
 Option.bind (P_semigrouplaw22_klein) fun r1 =>
 Option.bind (P_subdirect_Irreducible r1) fun r10 =>
 Option.bind (P_subdirect_Irreducible ([[0, 1], [1, 0]])) fun r49 =>
 Option.bind (
  if !r10.2 then
   if r49.2 then
    Option.bind (P_subdirect_Check r1 ([[0, 0, 1, 1], [0, 1, 0, 1]])) fun r98 =>
    some r98
   else
    some false
  else
   some false) fun z55 =>
 some z55
theorem R_semigrouplaw22_awake {G : List Frag} {W H : AH} (hst : St G W H) {r : Bool} (hp : P_semigrouplaw22_awake = some r) :
  wpc E0 N_semigrouplaw22_awake [] H fun rv H' => ∃ W', Wle W W' ∧ St G W' H' ∧ rv = .bool r := by
 refine enterN (F := f_semigrouplaw22_awake) rfl (Nat.le_of_ble_eq_true rfl) fun s hl hg => ?_
 replace hl : s.length = 29 := hl
 clear hg
 unfold P_semigrouplaw22_awake at hp
 show wp E0 c_semigrouplaw22_awake s H _
 unfold c_semigrouplaw22_awake
 refine AM.wp_seq hp0 (AM.wp_reg hp0 ?_)
 refine wpo_seg hp0 1 (fun s H' => s.length = 29 ∧ H = H') (by simp only [↓runs, isCall, ↓reduceIte, ↓gd_true, ↓gd_false, evs, AV.cells, Nat.reduceEqDiff, Nat.reduceLT, reduceCtorEq, Nat.reduceAdd, sy, hl]) ?_
 rintro s _ ⟨hl, rfl⟩
 refine wpo_nil (then_n ?_)
 refine AM.wp_seq hp0 (AM.wp_reg hp0 ?_)
 obtain ⟨r1, e2, hp⟩ := bn hp
 refine wpo_callK hp0 rfl (ys := []) (by simp only [evs, List.map_cons, List.map_nil, ev_t, ev_c]) (R_semigrouplaw22_klein hst e2) ?_
 rintro rv3 H ⟨W, w4, fg5, hst, o6⟩
 refine wpo_seg hp0 0 (fun s H' => s.length = 29 ∧ gt s 6 = rv3 ∧ H = H') (by simp only [↓runs, isCall, ↓reduceIte, ↓gd_true, ↓gd_false, evs, AV.cells, Nat.reduceEqDiff, Nat.reduceLT, reduceCtorEq, Nat.reduceAdd, sy, gt_other, hl]) ?_
 rintro s _ ⟨hl, g6, rfl⟩
 obtain ⟨W, w9, hst, h7⟩ := ow_frz hst o6
 obtain ⟨r10, e11, hp⟩ := bn hp
 refine wpo_callK hp0 rfl (ys := [rv3]) (by simp only [evs, List.map_cons, List.map_nil, ev_t, ev_c, g6]) (R_subdirect_Irreducible hst h7 e11) ?_
 rintro rv12 H ⟨W, w13, v14, hst, rfl, h15⟩
 replace h7 := Rp.mono w13 h7
 refine wpo_seg hp0 5 (fun s H' => s.length = 29 ∧ gt s 2 = .bool r10.2 ∧ H = H') (by simp only [↓runs, isCall, ↓reduceIte, ↓gd_true, ↓gd_false, evs, AV.cells, Nat.reduceEqDiff, Nat.reduceLT, reduceCtorEq, Nat.reduceAdd, sy, gt_other, g6, hl]) ?_
 rintro s _ ⟨hl, g2, rfl⟩
 refine wpo_nil (then_n ?_)
 refine AM.wp_seq hp0 (AM.wp_reg hp0 ?_)
 obtain ⟨v16, l17, H18, fg19, W, f21, f22, f23, w20, hst, o24⟩ := ow_lit' (n := 1) (k := 2) (z := [.int .i64 0, .int .i64 0]) (ys := [.int .i64 0, .int .i64 1]) (M := ([0, 1] : List (Int))) [(0, 1, .int .i64 0), (1, 1, .int .i64 1)] rfl rfl hst (sc_cons (show Rp.rv _ (.int .i64 0) (0 : Int) from rfl) (sc_cons (show Rp.rv _ (.int .i64 1) (1 : Int) from rfl) (sc_nil))) ((List.forall_mem_cons.2 ⟨rfl, (List.forall_mem_cons.2 ⟨rfl, fun _ h => (List.not_mem_nil h).elim⟩)⟩)) rfl rfl rfl (by decide)
 replace h7 := Rp.mono w20 h7
 replace h15 := Rp.mono w20 h15
 obtain ⟨v25, l26, H27, fg28, W, f30, f31, f32, w29, hst, o33⟩ := ow_lit' (n := 1) (k := 2) (z := [.int .i64 0, .int .i64 0]) (ys := [.int .i64 1, .int .i64 0]) (M := ([1, 0] : List (Int))) [(0, 1, .int .i64 1), (1, 1, .int .i64 0)] rfl rfl hst (sc_cons (show Rp.rv _ (.int .i64 1) (1 : Int) from rfl) (sc_cons (show Rp.rv _ (.int .i64 0) (0 : Int) from rfl) (sc_nil))) ((List.forall_mem_cons.2 ⟨rfl, (List.forall_mem_cons.2 ⟨rfl, fun _ h => (List.not_mem_nil h).elim⟩)⟩)) rfl rfl rfl (by decide)
 replace h7 := Rp.mono w29 h7
 replace h15 := Rp.mono w29 h15
 replace o24 := o24.mono w29
 replace hst := hst.p1
 obtain ⟨W, w35, hst, h34⟩ := ow_frz hst o24
 replace h7 := Rp.mono w35 h7
 replace h15 := Rp.mono w35 h15
 replace o33 := o33.mono w35
 obtain ⟨W, w37, hst, h36⟩ := ow_frz hst o33
 replace h7 := Rp.mono w37 h7
 replace h15 := Rp.mono w37 h15
 replace h34 := Rp.mono w37 h34
 obtain ⟨v38, l39, H40, fg41, W, f43, f44, f45, w42, hst, o46⟩ := ow_lit' (n := 1) (k := 2) (z := [.nils, .nils]) (ys := [v16, v25]) (M := ([[0, 1], [1, 0]] : List (List Int))) [(0, 1, v16), (1, 1, v25)] rfl rfl hst (sc_cons (show Rp.rv _ (v16) ([0, 1] : List Int) from h34) (sc_cons (show Rp.rv _ (v25) ([1, 0] : List Int) from h36) (sc_nil))) ((List.forall_mem_cons.2 ⟨(Rp.cells (show Rp.rv W (v16) ([0, 1] : List Int) from h34)), (List.forall_mem_cons.2 ⟨(Rp.cells (show Rp.rv W (v25) ([1, 0] : List Int) from h36)), fun _ h => (List.not_mem_nil h).elim⟩)⟩)) rfl rfl rfl (by decide)
 replace h7 := Rp.mono w42 h7
 replace h15 := Rp.mono w42 h15
 replace h34 := Rp.mono w42 h34
 replace h36 := Rp.mono w42 h36
 refine wpo_seg hp0 3 (fun s H' => s.length = 29 ∧ gt s 2 = .bool r10.2 ∧ gt s 13 = v38 ∧ H40 = H') (by simp only [↓runs, isCall, ↓reduceIte, ↓gd_true, ↓gd_false, evs, AV.cells, Nat.reduceEqDiff, Nat.reduceLT, reduceCtorEq, Nat.reduceAdd, sy, f21, f22, f23, f30, f31, f32, f43, f44, f45, g2, hl]) ?_
 rintro s _ ⟨hl, g2, g13, rfl⟩
 obtain ⟨W, w48, hst, h47⟩ := ow_frz hst o46
 replace h7 := Rp.mono w48 h7
 replace h15 := Rp.mono w48 h15
 replace h34 := Rp.mono w48 h34
 replace h36 := Rp.mono w48 h36
 obtain ⟨r49, e50, hp⟩ := bn hp
 refine wpo_callK hp0 rfl (ys := [v38]) (by simp only [evs, List.map_cons, List.map_nil, ev_t, ev_c, g13]) (R_subdirect_Irreducible hst h47 e50) ?_
 rintro rv51 H ⟨W, w52, v53, hst, rfl, h54⟩
 replace h7 := Rp.mono w52 h7
 replace h15 := Rp.mono w52 h15
 replace h34 := Rp.mono w52 h34
 replace h36 := Rp.mono w52 h36
 replace h47 := Rp.mono w52 h47
 refine wpo_seg hp0 5 (fun s H' => s.length = 29 ∧ gt s 2 = .bool r10.2 ∧ gt s 4 = .bool r49.2 ∧ H = H') (by simp only [↓runs, isCall, ↓reduceIte, ↓gd_true, ↓gd_false, evs, AV.cells, Nat.reduceEqDiff, Nat.reduceLT, reduceCtorEq, Nat.reduceAdd, sy, gt_other, g2, g13, hl]) ?_
 rintro s _ ⟨hl, g2, g4, rfl⟩
 refine wpo_nil (then_n ?_)
 refine AM.wp_seq hp0 ?_
 obtain ⟨z55, hj56, hp⟩ := bn hp
 refine AM.wp_regK hp0 (fun s H' => ∃ (W' : AH), s.length = 29 ∧ gt s 0 = .bool z55 ∧  Wle W W' ∧ St G W' H') ?_ ?_
 ·rcases Bool.eq_false_or_eq_true (!r10.2) with c57 | c57
  ·replace hj56 := ifT c57 hj56
   rcases Bool.eq_false_or_eq_true (r49.2) with c58 | c58
   ·replace hj56 := ifT c58 hj56
    refine wpo_seg hp0 6 (fun s H' => s.length = 29 ∧ gt s 22 = .bool true ∧ H = H') (by simp only [↓runs, isCall, ↓reduceIte, ↓gd_true, ↓gd_false, evs, AV.cells, Nat.reduceEqDiff, Nat.reduceLT, reduceCtorEq, Nat.reduceAdd, sy, c57, c58, g2, g4, hl]) ?_
    rintro s _ ⟨hl, g22, rfl⟩
    refine wpo_callK hp0 (by simp only [wanted, g22, beq_self_eq_true]) (ys := []) (by simp only [evs, List.map_cons, List.map_nil, ev_t, ev_c]) (R_semigrouplaw22_klein hst e2) ?_
    rintro rv59 H ⟨W, w60, fg61, hst, o62⟩
    replace h7 := Rp.mono w60 h7
    replace h15 := Rp.mono w60 h15
    replace h34 := Rp.mono w60 h34
    replace h36 := Rp.mono w60 h36
    replace h47 := Rp.mono w60 h47
    replace h54 := Rp.mono w60 h54
    obtain ⟨v63, l64, H65, fg66, W, f68, f69, f70, w67, hst, o71⟩ := ow_lit' (n := 1) (k := 4) (z := [.int .i64 0, .int .i64 0, .int .i64 0, .int .i64 0]) (ys := [.int .i64 0, .int .i64 0, .int .i64 1, .int .i64 1]) (M := ([0, 0, 1, 1] : List (Int))) [(0, 1, .int .i64 0), (1, 1, .int .i64 0), (2, 1, .int .i64 1), (3, 1, .int .i64 1)] rfl rfl hst (sc_cons (show Rp.rv _ (.int .i64 0) (0 : Int) from rfl) (sc_cons (show Rp.rv _ (.int .i64 0) (0 : Int) from rfl) (sc_cons (show Rp.rv _ (.int .i64 1) (1 : Int) from rfl) (sc_cons (show Rp.rv _ (.int .i64 1) (1 : Int) from rfl) (sc_nil))))) ((List.forall_mem_cons.2 ⟨rfl, (List.forall_mem_cons.2 ⟨rfl, (List.forall_mem_cons.2 ⟨rfl, (List.forall_mem_cons.2 ⟨rfl, fun _ h => (List.not_mem_nil h).elim⟩)⟩)⟩)⟩)) rfl rfl rfl (by decide)
    replace h7 := Rp.mono w67 h7
    replace h15 := Rp.mono w67 h15
    replace h34 := Rp.mono w67 h34
    replace h36 := Rp.mono w67 h36
    replace h47 := Rp.mono w67 h47
    replace h54 := Rp.mono w67 h54
    replace o62 := o62.mono w67
    obtain ⟨v72, l73, H74, fg75, W, f77, f78, f79, w76, hst, o80⟩ := ow_lit' (n := 1) (k := 4) (z := [.int .i64 0, .int .i64 0, .int .i64 0, .int .i64 0]) (ys := [.int .i64 0, .int .i64 1, .int .i64 0, .int .i64 1]) (M := ([0, 1, 0, 1] : List (Int))) [(0, 1, .int .i64 0), (1, 1, .int .i64 1), (2, 1, .int .i64 0), (3, 1, .int .i64 1)] rfl rfl hst (sc_cons (show Rp.rv _ (.int .i64 0) (0 : Int) from rfl) (sc_cons (show Rp.rv _ (.int .i64 1) (1 : Int) from rfl) (sc_cons (show Rp.rv _ (.int .i64 0) (0 : Int) from rfl) (sc_cons (show Rp.rv _ (.int .i64 1) (1 : Int) from rfl) (sc_nil))))) ((List.forall_mem_cons.2 ⟨rfl, (List.forall_mem_cons.2 ⟨rfl, (List.forall_mem_cons.2 ⟨rfl, (List.forall_mem_cons.2 ⟨rfl, fun _ h => (List.not_mem_nil h).elim⟩)⟩)⟩)⟩)) rfl rfl rfl (by decide)
    replace h7 := Rp.mono w76 h7
    replace h15 := Rp.mono w76 h15
    replace h34 := Rp.mono w76 h34
    replace h36 := Rp.mono w76 h36
    replace h47 := Rp.mono w76 h47
    replace h54 := Rp.mono w76 h54
    replace o62 := o62.mono w76
    replace o71 := o71.mono w76
    replace hst := hst.p1
    obtain ⟨W, w82, hst, h81⟩ := ow_frz hst o71
    replace h7 := Rp.mono w82 h7
    replace h15 := Rp.mono w82 h15
    replace h34 := Rp.mono w82 h34
    replace h36 := Rp.mono w82 h36
    replace h47 := Rp.mono w82 h47
    replace h54 := Rp.mono w82 h54
    replace o62 := o62.mono w82
    replace o80 := o80.mono w82
    obtain ⟨W, w84, hst, h83⟩ := ow_frz hst o80
    replace h7 := Rp.mono w84 h7
    replace h15 := Rp.mono w84 h15
    replace h34 := Rp.mono w84 h34
    replace h36 := Rp.mono w84 h36
    replace h47 := Rp.mono w84 h47
    replace h54 := Rp.mono w84 h54
    replace h81 := Rp.mono w84 h81
    replace o62 := o62.mono w84
    obtain ⟨v85, l86, H87, fg88, W, f90, f91, f92, w89, hst, o93⟩ := ow_lit' (n := 1) (k := 2) (z := [.nils, .nils]) (ys := [v63, v72]) (M := ([[0, 0, 1, 1], [0, 1, 0, 1]] : List (List Int))) [(0, 1, v63), (1, 1, v72)] rfl rfl hst (sc_cons (show Rp.rv _ (v63) ([0, 0, 1, 1] : List Int) from h81) (sc_cons (show Rp.rv _ (v72) ([0, 1, 0, 1] : List Int) from h83) (sc_nil))) ((List.forall_mem_cons.2 ⟨(Rp.cells (show Rp.rv W (v63) ([0, 0, 1, 1] : List Int) from h81)), (List.forall_mem_cons.2 ⟨(Rp.cells (show Rp.rv W (v72) ([0, 1, 0, 1] : List Int) from h83)), fun _ h => (List.not_mem_nil h).elim⟩)⟩)) rfl rfl rfl (by decide)
    replace h7 := Rp.mono w89 h7
    replace h15 := Rp.mono w89 h15
    replace h34 := Rp.mono w89 h34
    replace h36 := Rp.mono w89 h36
    replace h47 := Rp.mono w89 h47
    replace h54 := Rp.mono w89 h54
    replace h81 := Rp.mono w89 h81
    replace h83 := Rp.mono w89 h83
    replace o62 := o62.mono w89
    refine wpo_seg hp0 3 (fun s H' => s.length = 29 ∧ gt s 22 = .bool true ∧ gt s 23 = rv59 ∧ gt s 26 = v85 ∧ H87 = H') (by simp only [↓runs, isCall, ↓reduceIte, ↓gd_true, ↓gd_false, evs, AV.cells, Nat.reduceEqDiff, Nat.reduceLT, reduceCtorEq, Nat.reduceAdd, sy, gt_other, f68, f69, f70, f77, f78, f79, f90, f91, f92, g22, hl]) ?_
    rintro s _ ⟨hl, g22, g23, g26, rfl⟩
    replace hst := hst.p1
    obtain ⟨W, w95, hst, h94⟩ := ow_frz hst o62
    replace h7 := Rp.mono w95 h7
    replace h15 := Rp.mono w95 h15
    replace h34 := Rp.mono w95 h34
    replace h36 := Rp.mono w95 h36
    replace h47 := Rp.mono w95 h47
    replace h54 := Rp.mono w95 h54
    replace h81 := Rp.mono w95 h81
    replace h83 := Rp.mono w95 h83
    replace o93 := o93.mono w95
    obtain ⟨W, w97, hst, h96⟩ := ow_frz hst o93
    replace h7 := Rp.mono w97 h7
    replace h15 := Rp.mono w97 h15
    replace h34 := Rp.mono w97 h34
    replace h36 := Rp.mono w97 h36
    replace h47 := Rp.mono w97 h47
    replace h54 := Rp.mono w97 h54
    replace h81 := Rp.mono w97 h81
    replace h83 := Rp.mono w97 h83
    replace h94 := Rp.mono w97 h94
    obtain ⟨r98, e99, hj56⟩ := bn hj56
    refine wpo_callK hp0 (by simp only [wanted, g22, beq_self_eq_true]) (ys := [rv59, v85]) (by simp only [evs, List.map_cons, List.map_nil, ev_t, ev_c, g23, g26]) (R_subdirect_Check hst h94 h96 e99) ?_
    rintro rv100 H ⟨W, w101, hst, rfl⟩
    replace h7 := Rp.mono w101 h7
    replace h15 := Rp.mono w101 h15
    replace h34 := Rp.mono w101 h34
    replace h36 := Rp.mono w101 h36
    replace h47 := Rp.mono w101 h47
    replace h54 := Rp.mono w101 h54
    replace h81 := Rp.mono w101 h81
    replace h83 := Rp.mono w101 h83
    replace h94 := Rp.mono w101 h94
    replace h96 := Rp.mono w101 h96
    refine wpo_seg hp0 2 (fun s H' => s.length = 29 ∧ gt s 0 = .bool r98 ∧ H = H') (by simp only [↓runs, isCall, ↓reduceIte, ↓gd_true, ↓gd_false, evs, AV.cells, Nat.reduceEqDiff, Nat.reduceLT, reduceCtorEq, Nat.reduceAdd, sy, gt_other, g22, g23, g26, hl]) ?_
    rintro s _ ⟨hl, g0, rfl⟩
    refine wpo_nil ?_
    obtain rfl := Option.some.inj hj56
    exact ⟨W, hl, g0, ((((((((w60.trans w67).trans w76).trans w82).trans w84).trans w89).trans w95).trans w97).trans w101), hst⟩
   ·replace hj56 := ifF c58 hj56
    refine wpo_seg hp0 13 (fun s H' => s.length = 29 ∧ gt s 0 = .bool false ∧ H = H') (by simp (maxSteps := 1000000) only [↓runs, isCall, ↓reduceIte, ↓gd_true, ↓gd_false, evs, AV.cells, Nat.reduceEqDiff, Nat.reduceLT, reduceCtorEq, Nat.reduceAdd, sy, c57, c58, g2, g4, hl]) ?_
    rintro s _ ⟨hl, g0, rfl⟩
    refine wpo_nil ?_
    obtain rfl := Option.some.inj hj56
    exact ⟨W, hl, g0, .refl _, hst⟩
  ·replace hj56 := ifF c57 hj56
   refine wpo_seg hp0 13 (fun s H' => s.length = 29 ∧ gt s 0 = .bool false ∧ H = H') (by simp (maxSteps := 1000000) only [↓runs, isCall, ↓reduceIte, ↓gd_true, ↓gd_false, evs, AV.cells, Nat.reduceEqDiff, Nat.reduceLT, reduceCtorEq, Nat.reduceAdd, sy, c57, g2, g4, hl]) ?_
   rintro s _ ⟨hl, g0, rfl⟩
   refine wpo_nil ?_
   obtain rfl := Option.some.inj hj56
   exact ⟨W, hl, g0, .refl _, hst⟩
 ·rintro s H ⟨W, hl, g0, w102, hst⟩
  refine then_n ?_
  refine AM.wp_ret ?_
  obtain rfl := Option.some.inj hp
  refine body_ret (vs := [.bool z55]) (by simp only [rvs, f_semigrouplaw22_awake, Option.map_some, g0]) ?_
  exact ⟨W, ((((((((((w4.trans w9).trans w13).trans w20).trans w29).trans w35).trans w37).trans w42).trans w48).trans w52).trans w102), hst, rfl⟩

end Go.Proofs.Ytmdpejgnkoneoaa.Pu
set_option maxRecDepth 100000
set_option maxHeartbeats 4000000
namespace Go.Proofs.Ytmdpejgnkoneoaa.Pu
open Go Go.AM Go.Proofs.Ytmdpejgnkoneoaa.Code

end Go.Proofs.Ytmdpejgnkoneoaa.Pu
namespace Go.Proofs.Ytmdpejgnkoneoaa.Mt
open Go Go.AM Go.AM.Par Go.AM.Cg Go.AM.Lx Go.Proofs.Ytmdpejgnkoneoaa.Pu

theorem sg_of {t : List (List Int)} {n : Nat} (hl : t.length = n) (h0 : 0 < n) (h1 : n ≤ 400) (hr : ∀ x, x < n → (t.getD x []).length = n) (hv : ∀ x, x < n → ∀ y, y < n → (t.getD x []).getD y 0 = (natT t x y : Int) ∧ natT t x y < n)
    (ha : ∀ x, x < n → ∀ y, y < n → ∀ z, z < n → natT t (natT t x y) z = natT t x (natT t y z)) : Sg t n (natT t) :=
  ⟨⟨hl, h0, h1, hr, fun x y hx hy => (hv x hx y hy).1, fun x y hx hy => (hv x hx y hy).2⟩, fun x y z hx hy hz => ha x hx y hy z hz⟩
abbrev kT : List (List Int) := [[0, 1, 2, 3], [1, 0, 3, 2], [2, 3, 0, 1], [3, 2, 1, 0]]
abbrev zT : List (List Int) := [[0, 1], [1, 0]]
abbrev kP : List Int := [0, 0, 1, 1]
abbrev kQ : List Int := [0, 1, 0, 1]
theorem k_sg : Sg kT 4 (natT kT) := sg_of rfl (by omega) (by omega) (by decide) (by decide) (by decide)
theorem z_sg : Sg zT 2 (natT zT) := sg_of rfl (by omega) (by omega) (by decide) (by decide) (by decide)
theorem congL_of {n : Nat} {T : Nat → Nat → Nat} {p : List Int} (hl : p.length = n) (hv : validP p = true) (h : ∀ x, x < n → ∀ y, y < n → ∀ s, s < n → p.getD x 0 = p.getD y 0 → p.getD (T s x) 0 = p.getD (T s y) 0 ∧ p.getD (T x s) 0 = p.getD (T y s) 0) : CongL n T 0 p :=
  ⟨hl, hv, fun x y s hx hy hs e => ⟨fun _ => (h x hx y hy s hs e).1, fun _ => (h x hx y hy s hs e).2⟩⟩
theorem kP_cong : CongL 4 (natT kT) 0 kP := congL_of rfl (by decide) (by decide)
theorem kQ_cong : CongL 4 (natT kT) 0 kQ := congL_of rfl (by decide) (by decide)
theorem kPQ : ∀ x, x < 4 → ∀ y, y < 4 → kP.getD x 0 = kP.getD y 0 → kQ.getD x 0 = kQ.getD y 0 → x = y := by decide
theorem si_two (T : Nat → Nat → Nat) : SI 2 T := by
  refine ⟨Nat.le_refl _, fun h => ?_⟩
  have := h 0 1 (by omega) (by omega) fun a b ha hb hne => by
    rcases (by omega : (a = 0 ∧ b = 1) ∨ (a = 1 ∧ b = 0)) with ⟨rfl, rfl⟩ | ⟨rfl, rfl⟩
    · exact Gen.has (p := (0, 1)) (by simp)
    · exact Gen.cgr.symm _ _ (Gen.has (p := (1, 0)) (by simp))
  omega
theorem k_disc : Disc 4 (Mon 4 (natT kT)) := fun u v hu hv h => by
  have h1 := h 0 1 (by omega) (by omega) (by omega) _ (kP_cong.cgr k_sg.lt) (fun p hp => by
    simp only [List.mem_singleton] at hp; subst hp; exact (Ker.iff (by omega) (by omega)).2 rfl)
  have h2 := h 0 2 (by omega) (by omega) (by omega) _ (kQ_cong.cgr k_sg.lt) (fun p hp => by
    simp only [List.mem_singleton] at hp; subst hp; exact (Ker.iff (by omega) (by omega)).2 rfl)
  exact kPQ u hu v hv ((Ker.iff hu hv).1 h1) ((Ker.iff hu hv).1 h2)
theorem k_chk : ChkP 4 (natT kT) [kP, kQ] := by
  refine ⟨fun k hk => ?_, fun x y hx hy h => ?_, fun k hk h => ?_⟩
  · rcases (by simp only [List.length_cons, List.length_nil] at hk; omega : k = 0 ∨ k = 1) with rfl | rfl
    · exact ⟨kP_cong, si_two _⟩
    · exact ⟨kQ_cong, si_two _⟩
  · exact kPQ x hx y hy (h 0 (by decide) (by decide)) (h 1 (by decide) (by decide))
  · rcases (by simp only [List.length_cons, List.length_nil] at hk; omega : k = 0 ∨ k = 1) with rfl | rfl
    · have := h 0 2 (by omega) (by omega) fun j hj hne => by
        have : j = 1 := by simp only [List.length_cons, List.length_nil] at hj; omega
        subst this; rfl
      omega
    · have := h 0 1 (by omega) (by omega) fun j hj hne => by
        have : j = 0 := by simp only [List.length_cons, List.length_nil] at hj; omega
        subst this; rfl
      omega
open Classical in
theorem awake : P_semigrouplaw22_awake = some true := by
  unfold P_semigrouplaw22_awake P_semigrouplaw22_klein
  simp only [Option.bind_some]
  rcases irreducible k_sg with ⟨a, _⟩ | ⟨p, _, _, c, _⟩
  · rcases irreducible z_sg with ⟨_, b⟩ | ⟨p, a2, _⟩
    · rcases b with b | b
      · omega
      · exact absurd b (si_two _).2
    · rw [a, a2]
      simp only [Option.bind_some, Bool.not_false, if_true]
      rw [check k_sg, decide_eq_true k_chk]
      rfl
  · exact absurd k_disc c
end Go.Proofs.Ytmdpejgnkoneoaa.Mt
