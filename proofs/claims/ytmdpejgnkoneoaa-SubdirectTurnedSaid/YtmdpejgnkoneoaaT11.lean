/- Part 11 of the proof that the law SubdirectTurned holds: words and lemmas it rests on. No condition. -/
import Derived.Test.YtmdpejgnkoneoaaT5
import Derived.Test.YtmdpejgnkoneoaaT6
import Derived.Test.YtmdpejgnkoneoaaT10
import Derived.Test.YtmdpejgnkoneoaaT7
import Derived.Test.YtmdpejgnkoneoaaT9
set_option linter.unusedSimpArgs false
set_option linter.unusedVariables false
set_option linter.unnecessarySimpa false
set_option linter.unusedSectionVars false
set_option maxRecDepth 100000
set_option maxHeartbeats 4000000
namespace Go.Proofs.Ytmdpejgnkoneoaa.Pu
open Go Go.AM Go.Proofs.Ytmdpejgnkoneoaa.Code

noncomputable def P_semigroupref19_IsCongruence_l40 (k22 : Nat) (k32 : Nat) (p_ : List Int) (side : Int) (t : List (List Int)) (k42 : Nat) : Option (Lp (Unit) (Bool)) :=
 Option.bind (
  Option.bind (gi p_ (k22 : Int)) fun x51 =>
  Option.bind (gi p_ (k32 : Int)) fun x58 =>
  if decide (x51 = x58) then
   if !decide (side = 2) then
    Option.bind (gi t (k42 : Int)) fun x67 =>
    Option.bind (gi x67 (k22 : Int)) fun x74 =>
    Option.bind (gi p_ x74) fun x81 =>
    Option.bind (gi x67 (k32 : Int)) fun x88 =>
    Option.bind (gi p_ x88) fun x95 =>
    if !decide (x81 = x95) then
     some true
    else
     if !decide (side = 1) then
      Option.bind (gi t (k22 : Int)) fun x104 =>
      Option.bind (gi x104 (k42 : Int)) fun x111 =>
      Option.bind (gi p_ x111) fun x118 =>
      Option.bind (gi t (k32 : Int)) fun x125 =>
      Option.bind (gi x125 (k42 : Int)) fun x132 =>
      Option.bind (gi p_ x132) fun x139 =>
      some (!decide (x118 = x139))
     else
      some false
   else
    if !decide (side = 1) then
     Option.bind (gi t (k22 : Int)) fun x147 =>
     Option.bind (gi x147 (k42 : Int)) fun x154 =>
     Option.bind (gi p_ x154) fun x161 =>
     Option.bind (gi t (k32 : Int)) fun x168 =>
     Option.bind (gi x168 (k42 : Int)) fun x175 =>
     Option.bind (gi p_ x175) fun x182 =>
     some (!decide (x161 = x182))
    else
     some false
  else
   some false) fun z49 =>
 if z49 then
  some (.ex false)
 else
  some (.go ())
noncomputable def P_semigroupref19_IsCongruence_l30 (k22 : Nat) (p_ : List Int) (side : Int) (t : List (List Int)) (k32 : Nat) : Option (Lp (Unit) (Bool)) :=
 Option.bind (forR t.length (fun k x => P_semigroupref19_IsCongruence_l40 k22 k32 p_ side t k) ()) fun z46 =>
 match z46 with
 | .inl x191 =>
  some (.go ())
 | .inr b => some (.ex b)
noncomputable def P_semigroupref19_IsCongruence_l20 (p_ : List Int) (side : Int) (t : List (List Int)) (k22 : Nat) : Option (Lp (Unit) (Bool)) :=
 Option.bind (forR t.length (fun k x => P_semigroupref19_IsCongruence_l30 k22 p_ side t k) ()) fun z36 =>
 match z36 with
 | .inl x193 =>
  some (.go ())
 | .inr b => some (.ex b)
noncomputable def P_semigroupref19_IsCongruence (t : List (List Int)) (p_ : List Int) (side : Int) : Option (Bool) :=
 Option.bind (
  Option.bind (P_semigroupref14_Valid t) fun r3 =>
  if !r3 then
   some true
  else
   if !decide ((p_.length : Int) = (t.length : Int)) then
    some true
   else
    Option.bind (P_semigroupref03_Valid p_) fun r11 =>
    if !r11 then
     some true
    else
     if decide (side < 0) then
      some true
     else
      some (decide (2 < side))) fun z1 =>
 if z1 then
  some false
 else
  Option.bind (forR t.length (fun k x => P_semigroupref19_IsCongruence_l20 p_ side t k) ()) fun z26 =>
  match z26 with
  | .inl x195 =>
   some true
  | .inr b => some b
theorem R_semigroupref19_IsCongruence {G : List Frag} {W H : AH} {v_0 v_1 : AV} {t : List (List Int)} {p_ : List Int} {side : Int} (hst : St G W H) (h_0 : Rp.rv W v_0 t) (h_1 : Rp.rv W v_1 p_) {r : Bool} (hp : P_semigroupref19_IsCongruence t p_ side = some r) :
  wpc E0 N_semigroupref19_IsCongruence [v_0, v_1, .int .i64 side] H fun rv H' => ∃ W', Wle W W' ∧ St G W' H' ∧ rv = .bool r := by
 refine enterN (F := f_semigroupref19_IsCongruence) rfl (Nat.le_of_ble_eq_true rfl) fun s hl hg => ?_;replace hl : s.length = 114 := hl;have g0 : gt s 0 = v_0 := hg 0 (Nat.le_of_ble_eq_true rfl);have g1 : gt s 1 = v_1 := hg 1 (Nat.le_of_ble_eq_true rfl);have g2 : gt s 2 = .int .i64 side := hg 2 (Nat.le_of_ble_eq_true rfl);clear hg;unfold P_semigroupref19_IsCongruence at hp;show wp E0 c_semigroupref19_IsCongruence s H _;unfold c_semigroupref19_IsCongruence;refine AM.wp_seq hp0 (AM.wp_reg hp0 ?_);refine wpo_seg hp0 1 (fun s H' => s.length = 114 ∧ gt s 0 = v_0 ∧ gt s 1 = v_1 ∧ gt s 2 = .int .i64 side ∧ H = H') (by simp only [↓runs, isCall, ↓reduceIte, ↓gd_true, ↓gd_false, evs, AV.cells, Nat.reduceEqDiff, Nat.reduceLT, reduceCtorEq, Nat.reduceAdd, sy, g0, g1, g2, hl]) ?_;rintro s _ ⟨hl, g0, g1, g2, rfl⟩;refine wpo_nil (then_n ?_);refine AM.wp_seq hp0 (AM.wp_seq hp0 ?_);obtain ⟨z1, hj2, hp⟩ := bn hp;refine AM.wp_regK hp0 (fun s H' => ∃ (W' : AH), s.length = 114 ∧ gt s 32 = .bool z1 ∧ gt s 0 = v_0 ∧ gt s 1 = v_1 ∧ gt s 2 = .int .i64 side ∧  Wle W W' ∧ St G W' H') ?_ ?_
 ·refine wpo_seg hp0 1 (fun s H' => s.length = 114 ∧ gt s 0 = v_0 ∧ gt s 1 = v_1 ∧ gt s 2 = .int .i64 side ∧ gt s 10 = v_0 ∧ H = H') (by simp only [↓runs, isCall, ↓reduceIte, ↓gd_true, ↓gd_false, evs, AV.cells, Nat.reduceEqDiff, Nat.reduceLT, reduceCtorEq, Nat.reduceAdd, sy, g0, g1, g2, hl]) ?_;rintro s _ ⟨hl, g0, g1, g2, g10, rfl⟩;obtain ⟨r3, e4, hj2⟩ := bn hj2;refine wpo_callK hp0 rfl (ys := [v_0]) (by simp only [evs, List.map_cons, List.map_nil, ev_t, ev_c, g10]) (R_semigroupref14_Valid hst h_0 e4) ?_;rintro rv5 H ⟨W, w6, hst, rfl⟩;replace h_0 := Rp.mono w6 h_0;replace h_1 := Rp.mono w6 h_1;rcases Bool.eq_false_or_eq_true (!r3) with c7 | c7
  ·replace hj2 := ifT c7 hj2;refine wpo_seg hp0 21 (fun s H' => s.length = 114 ∧ gt s 0 = v_0 ∧ gt s 1 = v_1 ∧ gt s 2 = .int .i64 side ∧ gt s 32 = .bool true ∧ H = H') (by simp (maxSteps := 1000000) only [↓runs, isCall, ↓reduceIte, ↓gd_true, ↓gd_false, evs, AV.cells, Nat.reduceEqDiff, Nat.reduceLT, reduceCtorEq, Nat.reduceAdd, sy, gt_other, c7, g0, g1, g2, g10, hl]) ?_;rintro s _ ⟨hl, g0, g1, g2, g32, rfl⟩;refine wpo_nil ?_;obtain rfl := Option.some.inj hj2;exact ⟨W, hl, g32, g0, g1, g2, w6, hst⟩
  ·replace hj2 := ifF c7 hj2;have f8 := fz_ln h_1;have f9 := fz_ln h_0;rcases Bool.eq_false_or_eq_true (!decide ((p_.length : Int) = (t.length : Int))) with c10 | c10
   ·replace hj2 := ifT c10 hj2;refine wpo_seg hp0 21 (fun s H' => s.length = 114 ∧ gt s 0 = v_0 ∧ gt s 1 = v_1 ∧ gt s 2 = .int .i64 side ∧ gt s 32 = .bool true ∧ H = H') (by simp (maxSteps := 1000000) only [↓runs, isCall, ↓reduceIte, ↓gd_true, ↓gd_false, evs, AV.cells, Nat.reduceEqDiff, Nat.reduceLT, reduceCtorEq, Nat.reduceAdd, sy, gt_other, c7, f8, f9, c10, g0, g1, g2, g10, hl]) ?_;rintro s _ ⟨hl, g0, g1, g2, g32, rfl⟩;refine wpo_nil ?_;obtain rfl := Option.some.inj hj2;exact ⟨W, hl, g32, g0, g1, g2, w6, hst⟩
   ·replace hj2 := ifF c10 hj2;refine wpo_seg hp0 10 (fun s H' => s.length = 114 ∧ gt s 0 = v_0 ∧ gt s 1 = v_1 ∧ gt s 2 = .int .i64 side ∧ gt s 20 = .bool false ∧ gt s 21 = v_1 ∧ H = H') (by simp only [↓runs, isCall, ↓reduceIte, ↓gd_true, ↓gd_false, evs, AV.cells, Nat.reduceEqDiff, Nat.reduceLT, reduceCtorEq, Nat.reduceAdd, sy, gt_other, c7, f8, f9, c10, g0, g1, g2, g10, hl]) ?_;rintro s _ ⟨hl, g0, g1, g2, g20, g21, rfl⟩;obtain ⟨r11, e12, hj2⟩ := bn hj2;refine wpo_callK hp0 (by simp only [wanted, g20, beq_self_eq_true]) (ys := [v_1]) (by simp only [evs, List.map_cons, List.map_nil, ev_t, ev_c, g21]) (R_semigroupref03_Valid hst h_1 e12) ?_;rintro rv13 H ⟨W, w14, hst, rfl⟩;replace h_0 := Rp.mono w14 h_0;replace h_1 := Rp.mono w14 h_1;rcases Bool.eq_false_or_eq_true (!r11) with c15 | c15
    ·replace hj2 := ifT c15 hj2;refine wpo_seg hp0 10 (fun s H' => s.length = 114 ∧ gt s 0 = v_0 ∧ gt s 1 = v_1 ∧ gt s 2 = .int .i64 side ∧ gt s 32 = .bool true ∧ H = H') (by simp only [↓runs, isCall, ↓reduceIte, ↓gd_true, ↓gd_false, evs, AV.cells, Nat.reduceEqDiff, Nat.reduceLT, reduceCtorEq, Nat.reduceAdd, sy, gt_other, c15, g0, g1, g2, g20, g21, hl]) ?_;rintro s _ ⟨hl, g0, g1, g2, g32, rfl⟩;refine wpo_nil ?_;obtain rfl := Option.some.inj hj2;exact ⟨W, hl, g32, g0, g1, g2, (w6.trans w14), hst⟩
    ·replace hj2 := ifF c15 hj2;rcases Bool.eq_false_or_eq_true (decide (side < 0)) with c16 | c16
     ·replace hj2 := ifT c16 hj2;refine wpo_seg hp0 10 (fun s H' => s.length = 114 ∧ gt s 0 = v_0 ∧ gt s 1 = v_1 ∧ gt s 2 = .int .i64 side ∧ gt s 32 = .bool true ∧ H = H') (by simp only [↓runs, isCall, ↓reduceIte, ↓gd_true, ↓gd_false, evs, AV.cells, Nat.reduceEqDiff, Nat.reduceLT, reduceCtorEq, Nat.reduceAdd, sy, gt_other, c15, c16, g0, g1, g2, g20, g21, hl]) ?_;rintro s _ ⟨hl, g0, g1, g2, g32, rfl⟩;refine wpo_nil ?_;obtain rfl := Option.some.inj hj2;exact ⟨W, hl, g32, g0, g1, g2, (w6.trans w14), hst⟩
     ·replace hj2 := ifF c16 hj2;refine wpo_seg hp0 10 (fun s H' => s.length = 114 ∧ gt s 0 = v_0 ∧ gt s 1 = v_1 ∧ gt s 2 = .int .i64 side ∧ gt s 32 = .bool (decide (2 < side)) ∧ H = H') (by simp only [↓runs, isCall, ↓reduceIte, ↓gd_true, ↓gd_false, evs, AV.cells, Nat.reduceEqDiff, Nat.reduceLT, reduceCtorEq, Nat.reduceAdd, sy, gt_other, c15, c16, g0, g1, g2, g20, g21, hl]) ?_;rintro s _ ⟨hl, g0, g1, g2, g32, rfl⟩;refine wpo_nil ?_;obtain rfl := Option.some.inj hj2;exact ⟨W, hl, g32, g0, g1, g2, (w6.trans w14), hst⟩
 ·rintro s H ⟨W, hl, g32, g0, g1, g2, w17, hst⟩;replace h_0 := Rp.mono w17 h_0;replace h_1 := Rp.mono w17 h_1;refine then_n ?_;rcases Bool.eq_false_or_eq_true (z1) with c18 | c18
  ·replace hp := ifT c18 hp;refine AM.wp_condT (by simp only [ev_t, ev_c, g32, c18]) ?_;refine AM.wp_seq hp0 (AM.wp_reg hp0 ?_);refine wpo_seg hp0 1 (fun s H' => s.length = 114 ∧ gt s 6 = .bool false ∧ H = H') (by simp only [↓runs, isCall, ↓reduceIte, ↓gd_true, ↓gd_false, evs, AV.cells, Nat.reduceEqDiff, Nat.reduceLT, reduceCtorEq, Nat.reduceAdd, sy, g0, g1, g2, g32, hl]) ?_;rintro s _ ⟨hl, g6, rfl⟩;refine wpo_nil (then_n ?_);refine AM.wp_ret ?_;refine then_r ?_;obtain rfl := Option.some.inj hp;refine body_ret (vs := [.bool false]) (by simp only [rvs, f_semigroupref19_IsCongruence, Option.map_some, g6]) ?_;exact ⟨W, w17, hst, rfl⟩
  ·replace hp := ifF c18 hp;refine AM.wp_condF (by simp only [ev_t, ev_c, g32, c18]) ?_;refine AM.wp_skip ?_;refine then_n ?_;refine AM.wp_seq hp0 (AM.wp_seq hp0 (AM.wp_reg hp0 ?_));have f19 := fz_ln h_0;refine wpo_seg hp0 3 (fun s H' => s.length = 114 ∧ gt s 0 = v_0 ∧ gt s 1 = v_1 ∧ gt s 2 = .int .i64 side ∧ gt s 34 = .int .i64 (t.length : Int) ∧ gt s 35 = .int .i64 0 ∧ H = H') (by simp only [↓runs, isCall, ↓reduceIte, ↓gd_true, ↓gd_false, evs, AV.cells, Nat.reduceEqDiff, Nat.reduceLT, reduceCtorEq, Nat.reduceAdd, sy, f19, g0, g1, g2, g32, hl]) ?_;rintro s _ ⟨hl, g0, g1, g2, g34, g35, rfl⟩;refine wpo_nil (then_n ?_);obtain ⟨z26, e27, hp⟩ := bn hp;refine range_ref hp0 114 t.length (fun k x => P_semigroupref19_IsCongruence_l20 p_ side t k) (fun _ x s H' => s.length = 114 ∧ gt s 0 = v_0 ∧ gt s 1 = v_1 ∧ gt s 2 = .int .i64 side ∧ H = H') (fun _ x s H' => s.length = 114 ∧ H = H') e27 (fz_big h_0) rfl ?_ ?_ hl g35 g34 ?_ ?_
   ·intro k x s H d v hd h; rcases hd with rfl | rfl | rfl <;> simpa only [gt_other, pt_length, Nat.reduceEqDiff, not_false_eq_true] using h
   ·exact ⟨hl, g0, g1, g2, rfl⟩
   ·intro k22 x21 y23 s H hk hI hl g35 g34 hy24 hx25;change P_semigroupref19_IsCongruence_l20 p_ side t k22 = some y23 at hy24;unfold P_semigroupref19_IsCongruence_l20 at hy24;obtain ⟨hl, g0, g1, g2, rfl⟩ := hI;refine AM.wp_seq hp0 (AM.wp_reg hp0 ?_);refine wpo_seg hp0 2 (fun s H' => s.length = 114 ∧ gt s 0 = v_0 ∧ gt s 1 = v_1 ∧ gt s 2 = .int .i64 side ∧ gt s 7 = .int .i64 (k22 : Int) ∧ gt s 34 = .int .i64 (t.length : Int) ∧ gt s 35 = .int .i64 (k22 : Int) ∧ H = H') (by simp only [↓runs, isCall, ↓reduceIte, ↓gd_true, ↓gd_false, evs, AV.cells, Nat.reduceEqDiff, Nat.reduceLT, reduceCtorEq, Nat.reduceAdd, sy, g0, g1, g2, g34, g35, hl]) ?_;rintro s _ ⟨hl, g0, g1, g2, g7, g34, g35, rfl⟩;refine wpo_nil (then_n ?_);refine AM.wp_seq hp0 (AM.wp_reg hp0 ?_);have f29 := fz_ln h_0;refine wpo_seg hp0 3 (fun s H' => s.length = 114 ∧ gt s 0 = v_0 ∧ gt s 1 = v_1 ∧ gt s 2 = .int .i64 side ∧ gt s 7 = .int .i64 (k22 : Int) ∧ gt s 34 = .int .i64 (t.length : Int) ∧ gt s 35 = .int .i64 (k22 : Int) ∧ gt s 39 = .int .i64 (t.length : Int) ∧ gt s 40 = .int .i64 0 ∧ H = H') (by simp only [↓runs, isCall, ↓reduceIte, ↓gd_true, ↓gd_false, evs, AV.cells, Nat.reduceEqDiff, Nat.reduceLT, reduceCtorEq, Nat.reduceAdd, sy, f29, g0, g1, g2, g7, g34, g35, hl]) ?_;rintro s _ ⟨hl, g0, g1, g2, g7, g34, g35, g39, g40, rfl⟩;refine wpo_nil (then_n ?_);obtain ⟨z36, e37, hy24⟩ := bn hy24;refine range_ref hp0 114 t.length (fun k x => P_semigroupref19_IsCongruence_l30 k22 p_ side t k) (fun _ x s H' => s.length = 114 ∧ gt s 0 = v_0 ∧ gt s 1 = v_1 ∧ gt s 2 = .int .i64 side ∧ gt s 7 = .int .i64 (k22 : Int) ∧ gt s 34 = .int .i64 (t.length : Int) ∧ gt s 35 = .int .i64 (k22 : Int) ∧ H = H') (fun _ x s H' => s.length = 114 ∧ gt s 0 = v_0 ∧ gt s 1 = v_1 ∧ gt s 2 = .int .i64 side ∧ gt s 34 = .int .i64 (t.length : Int) ∧ gt s 35 = .int .i64 (k22 : Int) ∧ H = H') e37 (fz_big h_0) rfl ?_ ?_ hl g40 g39 ?_ ?_
    ·intro k x s H d v hd h; rcases hd with rfl | rfl | rfl <;> simpa only [gt_other, pt_length, Nat.reduceEqDiff, not_false_eq_true] using h
    ·exact ⟨hl, g0, g1, g2, g7, g34, g35, rfl⟩
    ·intro k32 x31 y33 s H hk hI hl g40 g39 hy34 hx35;change P_semigroupref19_IsCongruence_l30 k22 p_ side t k32 = some y33 at hy34;unfold P_semigroupref19_IsCongruence_l30 at hy34;obtain ⟨hl, g0, g1, g2, g7, g34, g35, rfl⟩ := hI;refine AM.wp_seq hp0 (AM.wp_reg hp0 ?_);refine wpo_seg hp0 2 (fun s H' => s.length = 114 ∧ gt s 0 = v_0 ∧ gt s 1 = v_1 ∧ gt s 2 = .int .i64 side ∧ gt s 7 = .int .i64 (k22 : Int) ∧ gt s 8 = .int .i64 (k32 : Int) ∧ gt s 34 = .int .i64 (t.length : Int) ∧ gt s 35 = .int .i64 (k22 : Int) ∧ gt s 39 = .int .i64 (t.length : Int) ∧ gt s 40 = .int .i64 (k32 : Int) ∧ H = H') (by simp only [↓runs, isCall, ↓reduceIte, ↓gd_true, ↓gd_false, evs, AV.cells, Nat.reduceEqDiff, Nat.reduceLT, reduceCtorEq, Nat.reduceAdd, sy, g0, g1, g2, g7, g34, g35, g39, g40, hl]) ?_;rintro s _ ⟨hl, g0, g1, g2, g7, g8, g34, g35, g39, g40, rfl⟩;refine wpo_nil (then_n ?_);refine AM.wp_seq hp0 (AM.wp_reg hp0 ?_);have f39 := fz_ln h_0;refine wpo_seg hp0 3 (fun s H' => s.length = 114 ∧ gt s 0 = v_0 ∧ gt s 1 = v_1 ∧ gt s 2 = .int .i64 side ∧ gt s 7 = .int .i64 (k22 : Int) ∧ gt s 8 = .int .i64 (k32 : Int) ∧ gt s 34 = .int .i64 (t.length : Int) ∧ gt s 35 = .int .i64 (k22 : Int) ∧ gt s 39 = .int .i64 (t.length : Int) ∧ gt s 40 = .int .i64 (k32 : Int) ∧ gt s 44 = .int .i64 (t.length : Int) ∧ gt s 45 = .int .i64 0 ∧ H = H') (by simp only [↓runs, isCall, ↓reduceIte, ↓gd_true, ↓gd_false, evs, AV.cells, Nat.reduceEqDiff, Nat.reduceLT, reduceCtorEq, Nat.reduceAdd, sy, f39, g0, g1, g2, g7, g8, g34, g35, g39, g40, hl]) ?_;rintro s _ ⟨hl, g0, g1, g2, g7, g8, g34, g35, g39, g40, g44, g45, rfl⟩;refine wpo_nil (then_n ?_);obtain ⟨z46, e47, hy34⟩ := bn hy34;refine range_ref hp0 114 t.length (fun k x => P_semigroupref19_IsCongruence_l40 k22 k32 p_ side t k) (fun _ x s H' => s.length = 114 ∧ gt s 0 = v_0 ∧ gt s 1 = v_1 ∧ gt s 2 = .int .i64 side ∧ gt s 7 = .int .i64 (k22 : Int) ∧ gt s 8 = .int .i64 (k32 : Int) ∧ gt s 34 = .int .i64 (t.length : Int) ∧ gt s 35 = .int .i64 (k22 : Int) ∧ gt s 39 = .int .i64 (t.length : Int) ∧ gt s 40 = .int .i64 (k32 : Int) ∧ H = H') (fun _ x s H' => s.length = 114 ∧ gt s 0 = v_0 ∧ gt s 1 = v_1 ∧ gt s 2 = .int .i64 side ∧ gt s 7 = .int .i64 (k22 : Int) ∧ gt s 34 = .int .i64 (t.length : Int) ∧ gt s 35 = .int .i64 (k22 : Int) ∧ gt s 39 = .int .i64 (t.length : Int) ∧ gt s 40 = .int .i64 (k32 : Int) ∧ H = H') e47 (fz_big h_0) rfl ?_ ?_ hl g45 g44 ?_ ?_
     ·intro k x s H d v hd h; rcases hd with rfl | rfl | rfl <;> simpa only [gt_other, pt_length, Nat.reduceEqDiff, not_false_eq_true] using h
     ·exact ⟨hl, g0, g1, g2, g7, g8, g34, g35, g39, g40, rfl⟩
     ·intro k42 x41 y43 s H hk hI hl g45 g44 hy44 hx45;change P_semigroupref19_IsCongruence_l40 k22 k32 p_ side t k42 = some y43 at hy44;unfold P_semigroupref19_IsCongruence_l40 at hy44;obtain ⟨hl, g0, g1, g2, g7, g8, g34, g35, g39, g40, rfl⟩ := hI;refine AM.wp_seq hp0 (AM.wp_reg hp0 ?_);refine wpo_seg hp0 2 (fun s H' => s.length = 114 ∧ gt s 0 = v_0 ∧ gt s 1 = v_1 ∧ gt s 2 = .int .i64 side ∧ gt s 7 = .int .i64 (k22 : Int) ∧ gt s 8 = .int .i64 (k32 : Int) ∧ gt s 9 = .int .i64 (k42 : Int) ∧ gt s 34 = .int .i64 (t.length : Int) ∧ gt s 35 = .int .i64 (k22 : Int) ∧ gt s 39 = .int .i64 (t.length : Int) ∧ gt s 40 = .int .i64 (k32 : Int) ∧ gt s 44 = .int .i64 (t.length : Int) ∧ gt s 45 = .int .i64 (k42 : Int) ∧ H = H') (by simp only [↓runs, isCall, ↓reduceIte, ↓gd_true, ↓gd_false, evs, AV.cells, Nat.reduceEqDiff, Nat.reduceLT, reduceCtorEq, Nat.reduceAdd, sy, g0, g1, g2, g7, g8, g34, g35, g39, g40, g44, g45, hl]) ?_;rintro s _ ⟨hl, g0, g1, g2, g7, g8, g9, g34, g35, g39, g40, g44, g45, rfl⟩;refine wpo_nil (then_n ?_);refine AM.wp_seq hp0 ?_;obtain ⟨z49, hj50, hy44⟩ := bn hy44;refine AM.wp_regK hp0 (fun s H' => s.length = 114 ∧ gt s 110 = .bool z49 ∧ gt s 0 = v_0 ∧ gt s 1 = v_1 ∧ gt s 2 = .int .i64 side ∧ gt s 7 = .int .i64 (k22 : Int) ∧ gt s 8 = .int .i64 (k32 : Int) ∧ gt s 34 = .int .i64 (t.length : Int) ∧ gt s 35 = .int .i64 (k22 : Int) ∧ gt s 39 = .int .i64 (t.length : Int) ∧ gt s 40 = .int .i64 (k32 : Int) ∧ gt s 44 = .int .i64 (t.length : Int) ∧ gt s 45 = .int .i64 (k42 : Int) ∧ H = H') ?_ ?_
      ·obtain ⟨x51, e52, hj50⟩ := bn hj50;obtain ⟨p53, _, f55, f56, rfl⟩ := fz_at (k := .i64) hst h_1 e52 rfl;obtain ⟨x58, e59, hj50⟩ := bn hj50;obtain ⟨p60, _, f62, f63, rfl⟩ := fz_at (k := .i64) hst h_1 e59 rfl;rcases Bool.eq_false_or_eq_true (decide (x51 = x58)) with c65 | c65
       ·replace hj50 := ifT c65 hj50;rcases Bool.eq_false_or_eq_true (!decide (side = 2)) with c66 | c66
        ·replace hj50 := ifT c66 hj50;obtain ⟨x67, e68, hj50⟩ := bn hj50;obtain ⟨p69, y70, f71, f72, h73⟩ := fz_at (k := .i64) hst h_0 e68 rfl;obtain ⟨x74, e75, hj50⟩ := bn hj50;obtain ⟨p76, _, f78, f79, rfl⟩ := fz_at (k := .i64) hst h73 e75 rfl;obtain ⟨x81, e82, hj50⟩ := bn hj50;obtain ⟨p83, _, f85, f86, rfl⟩ := fz_at (k := .i64) hst h_1 e82 rfl;obtain ⟨x88, e89, hj50⟩ := bn hj50;obtain ⟨p90, _, f92, f93, rfl⟩ := fz_at (k := .i64) hst h73 e89 rfl;obtain ⟨x95, e96, hj50⟩ := bn hj50;obtain ⟨p97, _, f99, f100, rfl⟩ := fz_at (k := .i64) hst h_1 e96 rfl;rcases Bool.eq_false_or_eq_true (!decide (x81 = x95)) with c102 | c102
         ·replace hj50 := ifT c102 hj50;refine wpo_seg hp0 63 (fun s H' => s.length = 114 ∧ gt s 0 = v_0 ∧ gt s 1 = v_1 ∧ gt s 2 = .int .i64 side ∧ gt s 7 = .int .i64 (k22 : Int) ∧ gt s 8 = .int .i64 (k32 : Int) ∧ gt s 34 = .int .i64 (t.length : Int) ∧ gt s 35 = .int .i64 (k22 : Int) ∧ gt s 39 = .int .i64 (t.length : Int) ∧ gt s 40 = .int .i64 (k32 : Int) ∧ gt s 44 = .int .i64 (t.length : Int) ∧ gt s 45 = .int .i64 (k42 : Int) ∧ gt s 110 = .bool true ∧ H = H') (by simp (maxSteps := 1000000) only [↓runs, isCall, ↓reduceIte, ↓gd_true, ↓gd_false, evs, AV.cells, Nat.reduceEqDiff, Nat.reduceLT, reduceCtorEq, Nat.reduceAdd, sy, f55, f56, f62, f63, c65, c66, f71, f72, f78, f79, f85, f86, f92, f93, f99, f100, c102, g0, g1, g2, g7, g8, g9, g34, g35, g39, g40, g44, g45, hl]) ?_;rintro s _ ⟨hl, g0, g1, g2, g7, g8, g34, g35, g39, g40, g44, g45, g110, rfl⟩;refine wpo_nil ?_;obtain rfl := Option.some.inj hj50;exact ⟨hl, g110, g0, g1, g2, g7, g8, g34, g35, g39, g40, g44, g45, rfl⟩
         ·replace hj50 := ifF c102 hj50;rcases Bool.eq_false_or_eq_true (!decide (side = 1)) with c103 | c103
          ·replace hj50 := ifT c103 hj50;obtain ⟨x104, e105, hj50⟩ := bn hj50;obtain ⟨p106, y107, f108, f109, h110⟩ := fz_at (k := .i64) hst h_0 e105 rfl;obtain ⟨x111, e112, hj50⟩ := bn hj50;obtain ⟨p113, _, f115, f116, rfl⟩ := fz_at (k := .i64) hst h110 e112 rfl;obtain ⟨x118, e119, hj50⟩ := bn hj50;obtain ⟨p120, _, f122, f123, rfl⟩ := fz_at (k := .i64) hst h_1 e119 rfl;obtain ⟨x125, e126, hj50⟩ := bn hj50;obtain ⟨p127, y128, f129, f130, h131⟩ := fz_at (k := .i64) hst h_0 e126 rfl;obtain ⟨x132, e133, hj50⟩ := bn hj50;obtain ⟨p134, _, f136, f137, rfl⟩ := fz_at (k := .i64) hst h131 e133 rfl;obtain ⟨x139, e140, hj50⟩ := bn hj50;obtain ⟨p141, _, f143, f144, rfl⟩ := fz_at (k := .i64) hst h_1 e140 rfl;refine wpo_seg hp0 63 (fun s H' => s.length = 114 ∧ gt s 0 = v_0 ∧ gt s 1 = v_1 ∧ gt s 2 = .int .i64 side ∧ gt s 7 = .int .i64 (k22 : Int) ∧ gt s 8 = .int .i64 (k32 : Int) ∧ gt s 34 = .int .i64 (t.length : Int) ∧ gt s 35 = .int .i64 (k22 : Int) ∧ gt s 39 = .int .i64 (t.length : Int) ∧ gt s 40 = .int .i64 (k32 : Int) ∧ gt s 44 = .int .i64 (t.length : Int) ∧ gt s 45 = .int .i64 (k42 : Int) ∧ gt s 110 = .bool (!decide (x118 = x139)) ∧ H = H') (by simp (maxSteps := 1000000) only [↓runs, isCall, ↓reduceIte, ↓gd_true, ↓gd_false, evs, AV.cells, Nat.reduceEqDiff, Nat.reduceLT, reduceCtorEq, Nat.reduceAdd, sy, f55, f56, f62, f63, c65, c66, f71, f72, f78, f79, f85, f86, f92, f93, f99, f100, c102, c103, f108, f109, f115, f116, f122, f123, f129, f130, f136, f137, f143, f144, g0, g1, g2, g7, g8, g9, g34, g35, g39, g40, g44, g45, hl]) ?_;rintro s _ ⟨hl, g0, g1, g2, g7, g8, g34, g35, g39, g40, g44, g45, g110, rfl⟩;refine wpo_nil ?_;obtain rfl := Option.some.inj hj50;exact ⟨hl, g110, g0, g1, g2, g7, g8, g34, g35, g39, g40, g44, g45, rfl⟩
          ·replace hj50 := ifF c103 hj50;refine wpo_seg hp0 63 (fun s H' => s.length = 114 ∧ gt s 0 = v_0 ∧ gt s 1 = v_1 ∧ gt s 2 = .int .i64 side ∧ gt s 7 = .int .i64 (k22 : Int) ∧ gt s 8 = .int .i64 (k32 : Int) ∧ gt s 34 = .int .i64 (t.length : Int) ∧ gt s 35 = .int .i64 (k22 : Int) ∧ gt s 39 = .int .i64 (t.length : Int) ∧ gt s 40 = .int .i64 (k32 : Int) ∧ gt s 44 = .int .i64 (t.length : Int) ∧ gt s 45 = .int .i64 (k42 : Int) ∧ gt s 110 = .bool false ∧ H = H') (by simp (maxSteps := 1000000) only [↓runs, isCall, ↓reduceIte, ↓gd_true, ↓gd_false, evs, AV.cells, Nat.reduceEqDiff, Nat.reduceLT, reduceCtorEq, Nat.reduceAdd, sy, f55, f56, f62, f63, c65, c66, f71, f72, f78, f79, f85, f86, f92, f93, f99, f100, c102, c103, g0, g1, g2, g7, g8, g9, g34, g35, g39, g40, g44, g45, hl]) ?_;rintro s _ ⟨hl, g0, g1, g2, g7, g8, g34, g35, g39, g40, g44, g45, g110, rfl⟩;refine wpo_nil ?_;obtain rfl := Option.some.inj hj50;exact ⟨hl, g110, g0, g1, g2, g7, g8, g34, g35, g39, g40, g44, g45, rfl⟩
        ·replace hj50 := ifF c66 hj50;rcases Bool.eq_false_or_eq_true (!decide (side = 1)) with c146 | c146
         ·replace hj50 := ifT c146 hj50;obtain ⟨x147, e148, hj50⟩ := bn hj50;obtain ⟨p149, y150, f151, f152, h153⟩ := fz_at (k := .i64) hst h_0 e148 rfl;obtain ⟨x154, e155, hj50⟩ := bn hj50;obtain ⟨p156, _, f158, f159, rfl⟩ := fz_at (k := .i64) hst h153 e155 rfl;obtain ⟨x161, e162, hj50⟩ := bn hj50;obtain ⟨p163, _, f165, f166, rfl⟩ := fz_at (k := .i64) hst h_1 e162 rfl;obtain ⟨x168, e169, hj50⟩ := bn hj50;obtain ⟨p170, y171, f172, f173, h174⟩ := fz_at (k := .i64) hst h_0 e169 rfl;obtain ⟨x175, e176, hj50⟩ := bn hj50;obtain ⟨p177, _, f179, f180, rfl⟩ := fz_at (k := .i64) hst h174 e176 rfl;obtain ⟨x182, e183, hj50⟩ := bn hj50;obtain ⟨p184, _, f186, f187, rfl⟩ := fz_at (k := .i64) hst h_1 e183 rfl;refine wpo_seg hp0 63 (fun s H' => s.length = 114 ∧ gt s 0 = v_0 ∧ gt s 1 = v_1 ∧ gt s 2 = .int .i64 side ∧ gt s 7 = .int .i64 (k22 : Int) ∧ gt s 8 = .int .i64 (k32 : Int) ∧ gt s 34 = .int .i64 (t.length : Int) ∧ gt s 35 = .int .i64 (k22 : Int) ∧ gt s 39 = .int .i64 (t.length : Int) ∧ gt s 40 = .int .i64 (k32 : Int) ∧ gt s 44 = .int .i64 (t.length : Int) ∧ gt s 45 = .int .i64 (k42 : Int) ∧ gt s 110 = .bool (!decide (x161 = x182)) ∧ H = H') (by simp (maxSteps := 1000000) only [↓runs, isCall, ↓reduceIte, ↓gd_true, ↓gd_false, evs, AV.cells, Nat.reduceEqDiff, Nat.reduceLT, reduceCtorEq, Nat.reduceAdd, sy, f55, f56, f62, f63, c65, c66, c146, f151, f152, f158, f159, f165, f166, f172, f173, f179, f180, f186, f187, g0, g1, g2, g7, g8, g9, g34, g35, g39, g40, g44, g45, hl]) ?_;rintro s _ ⟨hl, g0, g1, g2, g7, g8, g34, g35, g39, g40, g44, g45, g110, rfl⟩;refine wpo_nil ?_;obtain rfl := Option.some.inj hj50;exact ⟨hl, g110, g0, g1, g2, g7, g8, g34, g35, g39, g40, g44, g45, rfl⟩
         ·replace hj50 := ifF c146 hj50;refine wpo_seg hp0 63 (fun s H' => s.length = 114 ∧ gt s 0 = v_0 ∧ gt s 1 = v_1 ∧ gt s 2 = .int .i64 side ∧ gt s 7 = .int .i64 (k22 : Int) ∧ gt s 8 = .int .i64 (k32 : Int) ∧ gt s 34 = .int .i64 (t.length : Int) ∧ gt s 35 = .int .i64 (k22 : Int) ∧ gt s 39 = .int .i64 (t.length : Int) ∧ gt s 40 = .int .i64 (k32 : Int) ∧ gt s 44 = .int .i64 (t.length : Int) ∧ gt s 45 = .int .i64 (k42 : Int) ∧ gt s 110 = .bool false ∧ H = H') (by simp (maxSteps := 1000000) only [↓runs, isCall, ↓reduceIte, ↓gd_true, ↓gd_false, evs, AV.cells, Nat.reduceEqDiff, Nat.reduceLT, reduceCtorEq, Nat.reduceAdd, sy, f55, f56, f62, f63, c65, c66, c146, g0, g1, g2, g7, g8, g9, g34, g35, g39, g40, g44, g45, hl]) ?_;rintro s _ ⟨hl, g0, g1, g2, g7, g8, g34, g35, g39, g40, g44, g45, g110, rfl⟩;refine wpo_nil ?_;obtain rfl := Option.some.inj hj50;exact ⟨hl, g110, g0, g1, g2, g7, g8, g34, g35, g39, g40, g44, g45, rfl⟩
       ·replace hj50 := ifF c65 hj50;refine wpo_seg hp0 63 (fun s H' => s.length = 114 ∧ gt s 0 = v_0 ∧ gt s 1 = v_1 ∧ gt s 2 = .int .i64 side ∧ gt s 7 = .int .i64 (k22 : Int) ∧ gt s 8 = .int .i64 (k32 : Int) ∧ gt s 34 = .int .i64 (t.length : Int) ∧ gt s 35 = .int .i64 (k22 : Int) ∧ gt s 39 = .int .i64 (t.length : Int) ∧ gt s 40 = .int .i64 (k32 : Int) ∧ gt s 44 = .int .i64 (t.length : Int) ∧ gt s 45 = .int .i64 (k42 : Int) ∧ gt s 110 = .bool false ∧ H = H') (by simp (maxSteps := 1000000) only [↓runs, isCall, ↓reduceIte, ↓gd_true, ↓gd_false, evs, AV.cells, Nat.reduceEqDiff, Nat.reduceLT, reduceCtorEq, Nat.reduceAdd, sy, f55, f56, f62, f63, c65, g0, g1, g2, g7, g8, g9, g34, g35, g39, g40, g44, g45, hl]) ?_;rintro s _ ⟨hl, g0, g1, g2, g7, g8, g34, g35, g39, g40, g44, g45, g110, rfl⟩;refine wpo_nil ?_;obtain rfl := Option.some.inj hj50;exact ⟨hl, g110, g0, g1, g2, g7, g8, g34, g35, g39, g40, g44, g45, rfl⟩
      ·rintro s _ ⟨hl, g110, g0, g1, g2, g7, g8, g34, g35, g39, g40, g44, g45, rfl⟩;refine then_n ?_;rcases Bool.eq_false_or_eq_true (z49) with c190 | c190
       ·replace hy44 := ifT c190 hy44;refine AM.wp_condT (by simp only [ev_t, ev_c, g110, c190]) ?_;refine AM.wp_seq hp0 (AM.wp_reg hp0 ?_);refine wpo_seg hp0 1 (fun s H' => s.length = 114 ∧ gt s 6 = .bool false ∧ H = H') (by simp only [↓runs, isCall, ↓reduceIte, ↓gd_true, ↓gd_false, evs, AV.cells, Nat.reduceEqDiff, Nat.reduceLT, reduceCtorEq, Nat.reduceAdd, sy, g0, g1, g2, g7, g8, g34, g35, g39, g40, g44, g45, g110, hl]) ?_;rintro s _ ⟨hl, g6, rfl⟩;refine wpo_nil (then_n ?_);refine AM.wp_ret ?_;refine rnd_r ?_;refine rnd_r ?_;refine rnd_r ?_;refine then_r ?_;obtain rfl := Option.some.inj hy44;have hx := hx45 _ rfl;subst hx;dsimp only at hy34;obtain rfl := Option.some.inj hy34;have hx := hx35 _ rfl;subst hx;dsimp only at hy24;obtain rfl := Option.some.inj hy24;have hx := hx25 _ rfl;subst hx;dsimp only at hp;obtain rfl := Option.some.inj hp;refine body_ret (vs := [.bool false]) (by simp only [rvs, f_semigroupref19_IsCongruence, Option.map_some, g6]) ?_;exact ⟨W, w17, hst, rfl⟩
       ·replace hy44 := ifF c190 hy44;refine AM.wp_condF (by simp only [ev_t, ev_c, g110, c190]) ?_;refine AM.wp_skip ?_;refine rnd_n ?_;obtain rfl := Option.some.inj hy44;exact ⟨_, rfl, hl, g45, g44, ⟨hl, g0, g1, g2, g7, g8, g34, g35, g39, g40, rfl⟩⟩
     ·rintro x191 s Hn hz hI;replace hI : (fun s H' => s.length = 114 ∧ gt s 0 = v_0 ∧ gt s 1 = v_1 ∧ gt s 2 = .int .i64 side ∧ gt s 7 = .int .i64 (k22 : Int) ∧ gt s 34 = .int .i64 (t.length : Int) ∧ gt s 35 = .int .i64 (k22 : Int) ∧ gt s 39 = .int .i64 (t.length : Int) ∧ gt s 40 = .int .i64 (k32 : Int) ∧ H = H') s Hn := by
       rcases hI with ⟨hI, -⟩ | ⟨_, hI⟩
       ·obtain ⟨hl, g0, g1, g2, g7, g8, g34, g35, g39, g40, e2⟩ := hI;exact ⟨hl, g0, g1, g2, g7, g34, g35, g39, g40, e2⟩
       ·exact hI
      subst hz;dsimp only at hy34 hI;obtain ⟨hl, g0, g1, g2, g7, g34, g35, g39, g40, rfl⟩ := hI;refine rnd_n ?_;obtain rfl := Option.some.inj hy34;exact ⟨_, rfl, hl, g40, g39, ⟨hl, g0, g1, g2, g7, g34, g35, rfl⟩⟩
    ·rintro x193 s Hn hz hI;replace hI : (fun s H' => s.length = 114 ∧ gt s 0 = v_0 ∧ gt s 1 = v_1 ∧ gt s 2 = .int .i64 side ∧ gt s 34 = .int .i64 (t.length : Int) ∧ gt s 35 = .int .i64 (k22 : Int) ∧ H = H') s Hn := by
      rcases hI with ⟨hI, -⟩ | ⟨_, hI⟩
      ·obtain ⟨hl, g0, g1, g2, g7, g34, g35, e2⟩ := hI;exact ⟨hl, g0, g1, g2, g34, g35, e2⟩
      ·exact hI
     subst hz;dsimp only at hy24 hI;obtain ⟨hl, g0, g1, g2, g34, g35, rfl⟩ := hI;refine rnd_n ?_;obtain rfl := Option.some.inj hy24;exact ⟨_, rfl, hl, g35, g34, ⟨hl, g0, g1, g2, rfl⟩⟩
   ·rintro x195 s Hn hz hI;replace hI : (fun s H' => s.length = 114 ∧ H = H') s Hn := by
     rcases hI with ⟨hI, -⟩ | ⟨_, hI⟩
     ·obtain ⟨hl, g0, g1, g2, e2⟩ := hI;exact ⟨hl, e2⟩
     ·exact hI
    subst hz;dsimp only at hp hI;obtain ⟨hl, rfl⟩ := hI;refine then_n ?_;refine AM.wp_seq hp0 (AM.wp_reg hp0 ?_);refine wpo_seg hp0 1 (fun s H' => s.length = 114 ∧ gt s 6 = .bool true ∧ H = H') (by simp only [↓runs, isCall, ↓reduceIte, ↓gd_true, ↓gd_false, evs, AV.cells, Nat.reduceEqDiff, Nat.reduceLT, reduceCtorEq, Nat.reduceAdd, sy, hl]) ?_;rintro s _ ⟨hl, g6, rfl⟩;refine wpo_nil (then_n ?_);refine AM.wp_ret ?_;obtain rfl := Option.some.inj hp;refine body_ret (vs := [.bool true]) (by simp only [rvs, f_semigroupref19_IsCongruence, Option.map_some, g6]) ?_;exact ⟨W, w17, hst, rfl⟩

end Go.Proofs.Ytmdpejgnkoneoaa.Pu
namespace Go.Proofs.Ytmdpejgnkoneoaa.Mt
open Go Go.AM Go.AM.Par Go.AM.Cg Go.AM.Lx Go.Proofs.Ytmdpejgnkoneoaa.Pu

def fstL (p : List Int) (k : Nat) : List Int := ((List.range k).filter (newB p)).map fun (i : Nat) => (i : Int)
theorem fst_new {p : List Int} {k : Nat} (h : isNew p k) : fstL p (k + 1) = fstL p k ++ [(k : Int)] := by
  unfold fstL; rw [List.range_succ, List.filter_append, List.filter_cons_of_pos (newB_iff.2 h)]; simp
theorem fst_old {p : List Int} {k : Nat} (h : ¬ isNew p k) : fstL p (k + 1) = fstL p k := by
  unfold fstL; rw [List.range_succ, List.filter_append, List.filter_cons_of_neg (fun h2 => h (newB_iff.1 h2))]; simp
theorem fst_len {p : List Int} : ∀ {k : Nat}, k ≤ p.length → (fstL p k).length = (nub (p.take k)).length
  | 0, _ => by simp [fstL, nub]
  | k + 1, h => by
    have ih := fst_len (p := p) (k := k) (by omega)
    by_cases hn : isNew p k
    · rw [fst_new hn, nub_new (by omega) hn]; simp [ih]
    · rw [fst_old hn, nub_old (by omega) hn]; exact ih
theorem fst_at {p : List Int} (hc : canonI p = p) : ∀ {k : Nat}, k ≤ p.length → ∀ c, c < (fstL p k).length → ∃ f : Nat, f < k ∧ (fstL p k).getD c 0 = (f : Int) ∧ p.getD f 0 = (c : Int)
  | 0, _, c, h => by simp [fstL] at h
  | k + 1, h, c, hcl => by
    by_cases hn : isNew p k
    · rw [fst_new hn] at hcl ⊢
      rcases Nat.lt_or_ge c (fstL p k).length with h5 | h5
      · obtain ⟨f, a, b, d⟩ := fst_at hc (k := k) (by omega) c h5
        exact ⟨f, by omega, by rw [List.getD_eq_getElem?_getD, List.getElem?_append_left h5, ← List.getD_eq_getElem?_getD]; exact b, d⟩
      · have : c = (fstL p k).length := by simp at hcl; omega
        subst this
        refine ⟨k, by omega, by simp [List.getD_eq_getElem?_getD], ?_⟩
        have := canonI_new (L := p) (k := k) (by omega) hn
        rw [hc] at this
        rw [this, fst_len (by omega)]
    · rw [fst_old hn] at hcl ⊢
      obtain ⟨f, a, b, d⟩ := fst_at hc (k := k) (by omega) c hcl
      exact ⟨f, by omega, b, d⟩
theorem firsts {p : List Int} (hv : validP p = true) : P_congr_firsts p = some (fstL p p.length) := by
  obtain ⟨hl, hc⟩ := validP_iff.1 hv
  unfold P_congr_firsts
  obtain ⟨y, hy, hQ⟩ := forS_inv (n := p.length) (f := fun k x => P_congr_firsts_l2 p k x) (x := []) (fun k x => x = fstL p k) (by simp [fstL]) (by
    rintro k _ hk rfl
    unfold P_congr_firsts_l2
    rw [gi_lt 0 hk]
    simp only [Option.bind_some]
    have h1 := fst_len (p := p) (k := k) (by omega)
    have h2 := nub_le p k (by omega)
    by_cases hn : isNew p k
    · have h3 := canonI_new hk hn
      rw [hc] at h3
      rw [if_pos (by rw [h3, h1]; simp), pus_ok (by simp; omega) (by omega)]
      exact ⟨_, rfl, (fst_new hn).symm⟩
    · have : ∃ i, i < k ∧ p.getD i 0 = p.getD k 0 := Classical.byContradiction fun hc => hn fun i hi e => hc ⟨i, hi, e⟩
      obtain ⟨i, hi, e⟩ := this
      have h3 := canonI_lt (L := p) (k := i) (by omega) hi (by omega)
      rw [hc, e] at h3
      rw [if_neg (by rw [h1]; simp only [decide_eq_true_eq]; omega)]
      exact ⟨_, rfl, (fst_old hn).symm⟩)
  rw [hy, hQ]; rfl

def CongL (n : Nat) (T : Nat → Nat → Nat) (sd : Int) (p : List Int) : Prop := p.length = n ∧ validP p = true ∧
  ∀ x y s, x < n → y < n → s < n → p.getD x 0 = p.getD y 0 → (sd ≠ 2 → p.getD (T s x) 0 = p.getD (T s y) 0) ∧ (sd ≠ 1 → p.getD (T x s) 0 = p.getD (T y s) 0)

theorem cmp2 {β : Type} {sd : Int} {A B C D : Option Int} {a b c d : Int} (hA : A = some a) (hB : B = some b) (hC : C = some c) (hD : D = some d) (f : Bool → Option β) :
    Option.bind (if !decide (sd = 2) then A.bind fun x => B.bind fun y => if !decide (x = y) then some true else if !decide (sd = 1) then C.bind fun z => D.bind fun w => some (!decide (z = w)) else some false
      else if !decide (sd = 1) then C.bind fun z => D.bind fun w => some (!decide (z = w)) else some false) f = f (!decide ((sd ≠ 2 → a = b) ∧ (sd ≠ 1 → c = d))) := by
  subst hA hB hC hD
  by_cases h2 : sd = 2
  · have h1 : ¬ sd = 1 := by omega
    by_cases e : c = d <;> simp [h2, e]
  · by_cases h1 : sd = 1
    · by_cases e : a = b <;> simp [h1, e]
    · by_cases e : a = b <;> by_cases e2 : c = d <;> simp [h1, h2, e, e2]

open Classical in
theorem is_spec {t : List (List Int)} {n : Nat} {T : Nat → Nat → Nat} (h : Tab t n T) (p : List Int) (sd : Int) : P_congr_is t p sd = some (decide (CongL n T sd p)) := by
  unfold P_congr_is
  rw [h.len, valid]
  by_cases hl : p.length = n
  · by_cases hv : validP p = true
    · rw [if_neg (by simp only [hl]; simp)]
      simp only [hv, Option.bind_some, Bool.not_true, Bool.false_eq_true, if_false]
      rw [firsts hv]
      simp only [Option.bind_some]
      have hself := IsP.self hv
      rw [hl] at hself
      obtain ⟨hvl, hvc⟩ := validP_iff.1 hv
      -- the first point of a class
      have fp : ∀ x, x < n → ∃ f : Nat, f < n ∧ gi (fstL p p.length) (p.getD x 0) = some (f : Int) ∧ p.getD f 0 = p.getD x 0 := fun x hx => by
        have hb := canonI_lt (L := p) (k := x) (m := p.length) (by omega) (by omega) (Nat.le_refl _)
        rw [hvc] at hb
        have hfl := fst_len (p := p) (k := p.length) (Nat.le_refl _)
        obtain ⟨f, a, b, c⟩ := fst_at hvc (Nat.le_refl _) (p.getD x 0).toNat (by omega)
        refine ⟨f, by omega, ?_, by rw [c]; omega⟩
        rw [gi_int 0 hb.1 (by omega), b]
      rw [look_const (ok := fun x => ∀ f s, f < n → p.getD f 0 = p.getD x 0 → gi (fstL p p.length) (p.getD x 0) = some (f : Int) → s < n → (sd ≠ 2 → p.getD (T s x) 0 = p.getD (T s f) 0) ∧ (sd ≠ 1 → p.getD (T x s) 0 = p.getD (T f s) 0)) (b := false) fun x hx => by
        have hx' : x < n := by omega
        unfold P_congr_is_l19
        rw [gi_lt 0 hx]
        simp only [Option.bind_some]
        obtain ⟨f, hf, e1, e2⟩ := fp x hx'
        rw [e1]
        simp only [Option.bind_some]
        rw [look_const (ok := fun s => (sd ≠ 2 → p.getD (T s x) 0 = p.getD (T s f) 0) ∧ (sd ≠ 1 → p.getD (T x s) 0 = p.getD (T f s) 0)) (b := false) fun s hs => by
          have hs' : s < n := by rw [← h.len]; exact hs
          have l1 := h.lt s x hs' hx'; have l2 := h.lt s f hs' hf; have l3 := h.lt x s hx' hs'; have l4 := h.lt f s hf hs'
          unfold P_congr_is_l43
          simp only [h.gi1 hs', h.gi1 hx', h.gi1 hf, Option.bind_some, h.gi2 hs' hx', h.gi2 hs' hf, h.gi2 hx' hs', h.gi2 hf hs']
          rw [cmp2 (gi_lt 0 (by omega)) (gi_lt 0 (by omega)) (gi_lt 0 (by omega)) (gi_lt 0 (by omega))]
          by_cases hh : (sd ≠ 2 → p.getD (T s x) 0 = p.getD (T s f) 0) ∧ (sd ≠ 1 → p.getD (T x s) 0 = p.getD (T f s) 0)
          · rw [if_pos hh, decide_eq_true hh]; rfl
          · rw [if_neg hh, decide_eq_false hh]; rfl]
        rw [h.len]
        by_cases hh : ∀ k, k < n → (sd ≠ 2 → p.getD (T k x) 0 = p.getD (T k f) 0) ∧ (sd ≠ 1 → p.getD (T x k) 0 = p.getD (T f k) 0)
        · rw [if_pos hh, if_pos fun f' s hf' e3 e4 hs => by
            have : f = f' := by have := Option.some.inj e4; omega
            subst this; exact hh s hs]
          rfl
        · rw [if_neg hh, if_neg fun h2 => hh fun k hk => h2 f k hf e2 rfl hk]
          rfl]
      by_cases hC : CongL n T sd p
      · rw [decide_eq_true hC, if_pos fun x hx f s hf e1 e2 hs => hC.2.2 x f s (by omega) hf hs e1.symm]
        rfl
      · rw [decide_eq_false hC, if_neg fun hh => hC ⟨hl, hv, fun x y s hx hy hs e => by
          obtain ⟨f, hf, e1, e2⟩ := fp x hx
          obtain ⟨g, hg, e3, e4⟩ := fp y hy
          have : f = g := by rw [e, e3] at e1; have := Option.some.inj e1; omega
          subst this
          have a := hh x (by omega) f s hf e2 e1 hs
          have b := hh y (by omega) f s hf e4 e3 hs
          exact ⟨fun q => (a.1 q).trans (b.1 q).symm, fun q => (a.2 q).trans (b.2 q).symm⟩⟩]
        rfl
    · rw [if_neg (by simp only [hl]; simp)]
      have hC : ¬ CongL n T sd p := fun hC => hv hC.2.1
      rw [decide_eq_false hC]
      have : validP p = false := by simpa using hv
      simp only [this, Option.bind_some, Bool.not_false, if_true]
  · rw [if_pos (by simp only [Bool.not_eq_true', decide_eq_false_iff_not]; omega)]
    have hC : ¬ CongL n T sd p := fun hC => hl hC.1
    rw [decide_eq_false hC]
    rfl

open Classical in
theorem ref_isCong {t : List (List Int)} {n : Nat} {T : Nat → Nat → Nat} (h : Sg t n T) (p : List Int) (sd : Int) : P_semigroupref19_IsCongruence t p sd = some (decide (CongL n T sd p ∧ 0 ≤ sd ∧ sd ≤ 2)) := by
  unfold P_semigroupref19_IsCongruence
  rw [ref_Valid, h.valid, h.len, ref_valid]
  simp only [Option.bind_some, decide_true, Bool.not_true, Bool.false_eq_true, if_false]
  by_cases hg : p.length = n ∧ validP p = true ∧ 0 ≤ sd ∧ sd ≤ 2
  · obtain ⟨hl, hv, h0, h2⟩ := hg
    rw [if_neg (by simp only [hl]; simp)]
    have c1 : decide (sd < 0) = false := by simp only [decide_eq_false_iff_not]; omega
    have c2 : decide (2 < sd) = false := by simp only [decide_eq_false_iff_not]; omega
    simp only [hv, c1, c2, Option.bind_some, Bool.not_true, Bool.false_eq_true, if_false]
    rw [look_const (ok := fun x => ∀ y s, y < n → s < n → p.getD x 0 = p.getD y 0 → (sd ≠ 2 → p.getD (T s x) 0 = p.getD (T s y) 0) ∧ (sd ≠ 1 → p.getD (T x s) 0 = p.getD (T y s) 0)) (b := false) fun x hx => by
      have hx' : x < n := hx
      unfold P_semigroupref19_IsCongruence_l20
      rw [look_const (ok := fun y => ∀ s, s < n → p.getD x 0 = p.getD y 0 → (sd ≠ 2 → p.getD (T s x) 0 = p.getD (T s y) 0) ∧ (sd ≠ 1 → p.getD (T x s) 0 = p.getD (T y s) 0)) (b := false) fun y hy => by
        have hy' : y < n := by rw [← h.len]; exact hy
        unfold P_semigroupref19_IsCongruence_l30
        rw [look_const (ok := fun s => p.getD x 0 = p.getD y 0 → (sd ≠ 2 → p.getD (T s x) 0 = p.getD (T s y) 0) ∧ (sd ≠ 1 → p.getD (T x s) 0 = p.getD (T y s) 0)) (b := false) fun s hs => by
          have hs' : s < n := by rw [← h.len]; exact hs
          have l1 := h.lt s x hs' hx'; have l2 := h.lt s y hs' hy'; have l3 := h.lt x s hx' hs'; have l4 := h.lt y s hy' hs'
          unfold P_semigroupref19_IsCongruence_l40
          have gp : ∀ k : Nat, k < n → gi p (k : Int) = some (p.getD k 0) := fun k hk => gi_lt 0 (by omega)
          simp only [h.gi1 hs', h.gi1 hx', h.gi1 hy', Option.bind_some, h.gi2 hs' hx', h.gi2 hs' hy', h.gi2 hx' hs', h.gi2 hy' hs', gp x hx', gp y hy']
          by_cases e : p.getD x 0 = p.getD y 0
          · rw [if_pos (by simp only [e, decide_true])]
            rw [cmp2 (gp _ l1) (gp _ l2) (gp _ l3) (gp _ l4)]
            by_cases hh : (sd ≠ 2 → p.getD (T s x) 0 = p.getD (T s y) 0) ∧ (sd ≠ 1 → p.getD (T x s) 0 = p.getD (T y s) 0)
            · have hk : (p.getD x 0 = p.getD y 0 → (sd ≠ 2 → p.getD (T s x) 0 = p.getD (T s y) 0) ∧ (sd ≠ 1 → p.getD (T x s) 0 = p.getD (T y s) 0)) := fun _ => hh
              rw [decide_eq_true hh, if_pos hk]; rfl
            · have hk : ¬ (p.getD x 0 = p.getD y 0 → (sd ≠ 2 → p.getD (T s x) 0 = p.getD (T s y) 0) ∧ (sd ≠ 1 → p.getD (T x s) 0 = p.getD (T y s) 0)) := fun h2 => hh (h2 e)
              rw [decide_eq_false hh, if_neg hk]; rfl
          · rw [if_neg (by simp only [e, decide_false]; exact Bool.false_ne_true), if_pos (fun h2 => absurd h2 e)]
            rfl]
        rw [h.len]
        by_cases hh : ∀ s, s < n → p.getD x 0 = p.getD y 0 → (sd ≠ 2 → p.getD (T s x) 0 = p.getD (T s y) 0) ∧ (sd ≠ 1 → p.getD (T x s) 0 = p.getD (T y s) 0)
        · rw [if_pos hh, if_pos hh]; rfl
        · rw [if_neg hh, if_neg hh]; rfl]
      rw [h.len]
      by_cases hh : ∀ y, y < n → ∀ s, s < n → p.getD x 0 = p.getD y 0 → (sd ≠ 2 → p.getD (T s x) 0 = p.getD (T s y) 0) ∧ (sd ≠ 1 → p.getD (T x s) 0 = p.getD (T y s) 0)
      · rw [if_pos hh, if_pos fun y s hy hs => hh y hy s hs]; rfl
      · rw [if_neg hh, if_neg fun h2 => hh fun y hy s hs => h2 y s hy hs]; rfl]
    by_cases hC : CongL n T sd p
    · rw [decide_eq_true (⟨hC, h0, h2⟩ : CongL n T sd p ∧ 0 ≤ sd ∧ sd ≤ 2), if_pos fun x hx y s hy hs e => hC.2.2 x y s hx hy hs e]
      rfl
    · rw [decide_eq_false fun h3 => hC h3.1, if_neg fun hh => hC ⟨hl, hv, fun x y s hx hy hs e => hh x hx y s hy hs e⟩]
      rfl
  · have hn : ¬ (CongL n T sd p ∧ 0 ≤ sd ∧ sd ≤ 2) := fun h3 => hg ⟨h3.1.1, h3.1.2.1, h3.2⟩
    rw [decide_eq_false hn]
    by_cases hl : p.length = n
    · rw [if_neg (by simp only [hl]; simp)]
      cases hv : validP p with
      | false => simp only [Bool.not_false, if_true, Option.bind_some]
      | true =>
        simp only [Option.bind_some, Bool.not_true, Bool.false_eq_true, if_false]
        by_cases c1 : sd < 0
        · simp only [decide_eq_true c1, if_true, Option.bind_some]
        · have c2 : 2 < sd := by
            refine Classical.byContradiction fun c2 => hg ⟨hl, hv, by omega, by omega⟩
          simp only [decide_eq_false c1, decide_eq_true c2, if_true, Option.bind_some, Bool.false_eq_true, if_false]
    · rw [if_pos (by simp only [Bool.not_eq_true', decide_eq_false_iff_not]; omega)]
      simp only [Option.bind_some, if_true]

theorem CongL.cgr {n : Nat} {T : Nat → Nat → Nat} {sd : Int} {p : List Int} (hT : ∀ x y, x < n → y < n → T x y < n) (h : CongL n T sd p) : Cgr n T sd (Ker n p) := by
  refine ⟨Ker.refl p, fun _ _ => Ker.symm, fun _ _ _ => Ker.trans, fun hs s x y h1 hx hy h2 => ?_, fun hs s x y h1 hx hy h2 => ?_⟩
  · exact (Ker.iff (hT _ _ h1 hx) (hT _ _ h1 hy)).2 ((h.2.2 x y s hx hy h1 ((Ker.iff hx hy).1 h2)).1 hs)
  · exact (Ker.iff (hT _ _ hx h1) (hT _ _ hy h1)).2 ((h.2.2 x y s hx hy h1 ((Ker.iff hx hy).1 h2)).2 hs)

def fpt (p : List Int) (c : Nat) : Nat := ((fstL p p.length).getD c 0).toNat
def ncl (p : List Int) : Nat := (nub p).length
theorem fpt_spec {p : List Int} (hv : validP p = true) {c : Nat} (hc : c < ncl p) : (fstL p p.length).getD c 0 = (fpt p c : Int) ∧ fpt p c < p.length ∧ p.getD (fpt p c) 0 = (c : Int) ∧ isNew p (fpt p c) := by
  obtain ⟨hl, hcn⟩ := validP_iff.1 hv
  have hlen := fst_len (p := p) (k := p.length) (Nat.le_refl _)
  rw [List.take_length] at hlen
  obtain ⟨f, a, b, d⟩ := fst_at hcn (Nat.le_refl _) c (by unfold ncl at hc; omega)
  have e : fpt p c = f := by unfold fpt; rw [b]; simp
  refine ⟨by rw [b, e], by omega, by rw [e]; exact d, ?_⟩
  have hm : (fstL p p.length).getD c 0 ∈ fstL p p.length := getD_mem (by unfold ncl at hc; omega)
  rw [b] at hm
  unfold fstL at hm
  obtain ⟨i, hi, hie⟩ := List.mem_map.1 hm
  have : i = f := by omega
  subst this
  rw [e]
  exact newB_iff.1 (List.mem_filter.1 hi).2
theorem ncl_lt {p : List Int} (hv : validP p = true) {k : Nat} (hk : k < p.length) : 0 ≤ p.getD k 0 ∧ p.getD k 0 < ncl p := by
  have := canonI_lt (L := p) (k := k) (m := p.length) hk hk (Nat.le_refl _)
  rw [(validP_iff.1 hv).2, List.take_length] at this
  exact this
theorem ncl_le (p : List Int) : ncl p ≤ p.length := by
  have := nub_le p p.length (Nat.le_refl _)
  rwa [List.take_length] at this
theorem ncl_pos {p : List Int} (hv : validP p = true) (h : 0 < p.length) : 0 < ncl p := by
  have := ncl_lt hv h; omega

def quoT (T : Nat → Nat → Nat) (p : List Int) (i j : Nat) : Nat := (p.getD (T (fpt p i) (fpt p j)) 0).toNat
def quoL (T : Nat → Nat → Nat) (p : List Int) : List (List Int) := tab (ncl p) fun i => tab (ncl p) fun j => (quoT T p i j : Int)

theorem quo_tab {n : Nat} {T : Nat → Nat → Nat} {t : List (List Int)} (h : Sg t n T) {p : List Int} (hC : CongL n T 0 p) : Sg (quoL T p) (ncl p) (quoT T p) := by
  obtain ⟨hl, hv, hcl⟩ := hC
  have hf : ∀ c, c < ncl p → fpt p c < n := fun c hc => by rw [← hl]; exact (fpt_spec hv hc).2.1
  have hlt : ∀ x y, x < ncl p → y < ncl p → (p.getD (T (fpt p x) (fpt p y)) 0 = (quoT T p x y : Int)) ∧ quoT T p x y < ncl p := fun x y hx hy => by
    have := ncl_lt hv (k := T (fpt p x) (fpt p y)) (by rw [hl]; exact h.lt _ _ (hf x hx) (hf y hy))
    unfold quoT; omega
  refine ⟨⟨by simp [quoL], ncl_pos hv (by rw [hl]; exact h.pos), Nat.le_trans (ncl_le p) (by rw [hl]; exact h.le), fun x hx => by unfold quoL; rw [tab_getD hx]; simp, fun x y hx hy => by unfold quoL; rw [tab_getD hx, tab_getD hy], fun x y hx hy => (hlt x y hx hy).2⟩, fun x y z hx hy hz => ?_⟩
  have fx := hf x hx; have fy := hf y hy; have fz := hf z hz
  obtain ⟨a1, a2⟩ := hlt x y hx hy
  obtain ⟨b1, b2⟩ := hlt y z hy hz
  have txy := h.lt _ _ fx fy; have tyz := h.lt _ _ fy fz
  have c1 := (fpt_spec hv a2).2.2.1
  have c2 := (fpt_spec hv b2).2.2.1
  have e1 : p.getD (T (fpt p (quoT T p x y)) (fpt p z)) 0 = p.getD (T (T (fpt p x) (fpt p y)) (fpt p z)) 0 := (hcl _ _ (fpt p z) (hf _ a2) txy fz (c1.trans a1.symm)).2 (by omega)
  have e2 : p.getD (T (fpt p x) (fpt p (quoT T p y z))) 0 = p.getD (T (fpt p x) (T (fpt p y) (fpt p z))) 0 := (hcl _ _ (fpt p x) (hf _ b2) tyz fx (c2.trans b1.symm)).1 (by omega)
  have h1 := (hlt _ z a2 hz).1
  have h2 := (hlt x _ hx b2).1
  rw [e1, h.assoc _ _ _ fx fy fz, ← e2, h2] at h1
  omega

open Classical in
theorem quotient {n : Nat} {T : Nat → Nat → Nat} {t : List (List Int)} (h : Sg t n T) (p : List Int) : P_congr_Quotient t p = some (if CongL n T 0 p then (quoL T p, 0) else ([], 1)) := by
  have h400 := h.le
  unfold P_congr_Quotient
  rw [validate, h.valid]
  simp only [Option.bind_some, Option.bind_none, decide_true, decide_false, Bool.not_true, Bool.not_false, Bool.true_and, Bool.and_true, Bool.false_eq_true, if_true, if_false, not_true_eq_false, not_false_eq_true, ite_true, ite_false, Bool.not_eq_true, decide_eq_true_eq, decide_eq_false_iff_not, Bool.not_eq_true', Bool.not_eq_false', Option.getD_some, Option.getD_none, Option.isSome_some, Option.isSome_none, Option.isNone_some, Option.isNone_none, eq_self, forall_const, true_implies, false_implies, implies_true]
  rw [is_spec h.toTab]
  simp only [Option.bind_some]
  by_cases hC : CongL n T 0 p
  · rw [decide_eq_true hC, if_pos hC]
    simp only [Bool.not_true, Bool.true_eq_false, Bool.false_eq_true, if_false]
    obtain ⟨hl, hv, hcl⟩ := hC
    rw [firsts hv]
    simp only [Option.bind_some]
    have hlen : (fstL p p.length).length = ncl p := by
      have := fst_len (p := p) (k := p.length) (Nat.le_refl _)
      rw [List.take_length] at this; exact this
    have hle := ncl_le p
    rw [hlen, mkz_ok (by omega) (by omega)]
    simp only [Option.bind_some]
    have hf : ∀ c, c < ncl p → fpt p c < n := fun c hc => by rw [← hl]; exact (fpt_spec hv hc).2.1
    have gf : ∀ c : Nat, c < ncl p → gi (fstL p p.length) (c : Int) = some (fpt p c : Int) := fun c hc => by
      rw [gi_lt 0 (by omega), (fpt_spec hv hc).1]
    have hval : ∀ i j, i < ncl p → j < ncl p → gi p (T (fpt p i) (fpt p j) : Int) = some (quoT T p i j : Int) := fun i j hi hj => by
      have hk : T (fpt p i) (fpt p j) < p.length := by rw [hl]; exact h.lt _ _ (hf i hi) (hf j hj)
      have := ncl_lt hv hk
      rw [gi_lt 0 hk]; unfold quoT; congr 1; omega
    obtain ⟨y, hy, h1, h2⟩ := forS_inv (n := ncl p) (f := fun k x => P_congr_Quotient_l29 p (fstL p p.length) t k x) (x := List.replicate (ncl p) [])
      (fun k X => X.length = ncl p ∧ ∀ i, i < k → X.getD i [] = tab (ncl p) fun j => (quoT T p i j : Int)) ⟨by simp, fun i hi => by omega⟩ (by
        rintro i X hi ⟨h1, h2⟩
        unfold P_congr_Quotient_l29
        rw [gf i hi, hlen, mkz_ok (by omega) (by omega)]
        simp only [Option.bind_some]
        rw [gi_lt [] (by omega)]
        simp only [Option.bind_some, Int.toNat_natCast]
        obtain ⟨y, hy, q1, q2, q3, q4⟩ := forS_inv (n := ncl p) (f := fun k x => P_congr_Quotient_l76 i p (fstL p p.length) t (fpt p i : Int) k x) (x := X.set i (List.replicate (ncl p) 0))
          (fun j Y => Y.length = ncl p ∧ (∀ q, q ≠ i → Y.getD q [] = X.getD q []) ∧ (Y.getD i []).length = ncl p ∧ ∀ q, q < j → (Y.getD i []).getD q 0 = (quoT T p i q : Int))
          ⟨by simp [h1], fun q hq => by rw [getD_set', if_neg (fun h => hq h.1.symm)], by rw [getD_set', if_pos ⟨rfl, by omega⟩]; simp, fun q hq => by omega⟩ (by
            rintro j Y hj ⟨q1, q2, q3, q4⟩
            unfold P_congr_Quotient_l76
            rw [gf j hj, gi_lt [] (by omega)]
            simp only [Option.bind_some]
            rw [h.gi1 (hf i hi)]; simp only [Option.bind_some]
            rw [h.gi2 (hf i hi) (hf j hj)]; simp only [Option.bind_some]
            rw [hval i j hi hj]; simp only [Option.bind_some]
            rw [si_lt (by omega)]
            refine ⟨_, rfl, by simpa using q1, fun q hq => ?_, ?_, fun q hq => ?_⟩
            · rw [Int.toNat_natCast, getD_set', if_neg (fun h => hq h.1.symm)]; exact q2 q hq
            · rw [Int.toNat_natCast, getD_set', if_pos ⟨rfl, by omega⟩]; simpa using q3
            · rw [Int.toNat_natCast, getD_set', if_pos ⟨rfl, by omega⟩, getD_set']
              split
              · rename_i e; rw [e.1]
              · rename_i e
                exact q4 q (by
                  rcases Nat.lt_or_ge q j with h | h
                  · exact h
                  · exact absurd ⟨by omega, by omega⟩ e))
        rw [hy]
        refine ⟨_, rfl, q1, fun q hq => ?_⟩
        by_cases e : q = i
        · subst e
          exact list_ext 0 (by simpa using q3) fun w hw => by rw [q4 w (by omega), tab_getD (by omega)]
        · rw [q2 q e]; exact h2 q (by omega))
    rw [hy]
    simp only [Option.bind_some, Option.some.injEq, Prod.mk.injEq, and_true]
    exact list_ext [] (by simp [quoL, h1]) fun i hi => by rw [h2 i (by omega)]; unfold quoL; rw [tab_getD (by omega)]
  · rw [decide_eq_false hC, if_neg hC]
    rfl

def clsL (p : List Int) (c : Int) (k : Nat) : List Int := ((List.range k).filter fun i => p.getD i 0 == c).map fun (i : Nat) => (i : Int)
theorem clsL_succ (p : List Int) (c : Int) (k : Nat) : clsL p c (k + 1) = clsL p c k ++ if p.getD k 0 = c then [(k : Int)] else [] := by
  unfold clsL
  rw [List.range_succ, List.filter_append, List.map_append]
  congr 1
  by_cases e : p.getD k 0 = c
  · rw [if_pos e, List.filter_cons_of_pos (by simpa using e)]; simp
  · rw [if_neg e, List.filter_cons_of_neg (by simpa using e)]; simp
theorem clsL_pre (p : List Int) (c : Int) : ∀ (m k : Nat), k ≤ m → ∃ r, clsL p c m = clsL p c k ++ r
  | 0, k, h => ⟨[], by have : k = 0 := by omega
                       subst this; simp⟩
  | m + 1, k, h => by
    rcases Nat.lt_or_ge k (m + 1) with h5 | h5
    · obtain ⟨r, e⟩ := clsL_pre p c m k (by omega)
      exact ⟨_, by rw [clsL_succ, e, List.append_assoc]⟩
    · have : k = m + 1 := by omega
      subst this; exact ⟨[], by simp⟩
theorem clsL_nil {p : List Int} {c : Int} : ∀ {k : Nat}, (∀ i, i < k → p.getD i 0 ≠ c) → clsL p c k = []
  | 0, _ => by simp [clsL]
  | k + 1, h => by rw [clsL_succ, clsL_nil fun i hi => h i (by omega), if_neg (h k (by omega))]; rfl
theorem clsL_len (p : List Int) (c : Int) (k : Nat) : (clsL p c k).length ≤ k := by
  unfold clsL; rw [List.length_map]; exact Nat.le_trans (List.length_filter_le _ _) (by simp)
theorem clsL_head {p : List Int} (hv : validP p = true) {c : Nat} (hc : c < ncl p) : gi (clsL p (c : Int) p.length) 0 = some (fpt p c : Int) := by
  obtain ⟨h1, h2, h3, h4⟩ := fpt_spec hv hc
  obtain ⟨r, e⟩ := clsL_pre p (c : Int) p.length (fpt p c + 1) h2
  rw [e, clsL_succ, if_pos h3, clsL_nil fun i hi e => h4 i hi (by rw [h3]; exact e)]
  simp [gi]

theorem classes {p : List Int} (hv : validP p = true) : P_semigroupref03_Classes p = some (tab (ncl p) fun c => clsL p (c : Int) p.length) := by
  obtain ⟨hl, hc⟩ := validP_iff.1 hv
  unfold P_semigroupref03_Classes
  rw [ref_count hv]
  have hle := ncl_le p
  have e0 : ((nub p).length : Int) = (ncl p : Int) := rfl
  simp only [Option.bind_some]
  rw [e0, mkz_ok (by omega) (by omega)]
  simp only [Option.bind_some]
  obtain ⟨y, hy, h1, h2⟩ := forS_inv (n := p.length) (f := fun k x => P_semigroupref03_Classes_l14 p k x) (x := List.replicate (ncl p) []) (fun k X => X.length = ncl p ∧ ∀ c, c < ncl p → X.getD c [] = clsL p (c : Int) k)
    ⟨by simp, fun c hc => by simp [clsL, List.getD_eq_getElem?_getD, hc]⟩ (by
      rintro k X hk ⟨h1, h2⟩
      have hb := ncl_lt hv hk
      have hlen := clsL_len p (p.getD k 0) k
      unfold P_semigroupref03_Classes_l14
      rw [gi_lt 0 hk]
      simp only [Option.bind_some]
      have hcast : (((p.getD k 0).toNat : Nat) : Int) = p.getD k 0 := by omega
      rw [gi_int [] hb.1 (by omega), h2 _ (by omega), hcast]
      simp only [Option.bind_some]
      rw [pus_ok (by simp only [List.length_cons, List.length_nil]; omega) (by omega)]
      refine ⟨_, rfl, by simpa using h1, fun c hc => ?_⟩
      rw [getD_set', clsL_succ]
      by_cases e : p.getD k 0 = (c : Int)
      · rw [if_pos ⟨by omega, by omega⟩, if_pos e, e]
      · rw [if_neg (fun h => e (by omega)), if_neg e, h2 c hc]; simp)
  rw [hy]
  simp only [Option.bind_some, Option.some.injEq]
  exact list_ext [] (by simp [h1]) fun i hi => by rw [h2 i (by omega), tab_getD (by omega)]

theorem ref_quotient {n : Nat} {T : Nat → Nat → Nat} {t : List (List Int)} (h : Sg t n T) {p : List Int} (hC : CongL n T 0 p) : P_semigroupref19_Quotient t p = some (quoL T p) := by
  have h400 := h.le
  obtain ⟨hl, hv, hcl⟩ := hC
  unfold P_semigroupref19_Quotient
  rw [classes hv]
  simp only [Option.bind_some, tab_length]
  have hle := ncl_le p
  have hf : ∀ c, c < ncl p → fpt p c < n := fun c hc => by rw [← hl]; exact (fpt_spec hv hc).2.1
  have gc : ∀ c : Nat, c < ncl p → gi (tab (ncl p) fun c => clsL p (c : Int) p.length) (c : Int) = some (clsL p (c : Int) p.length) := fun c hc => by
    rw [gi_lt [] (by simpa using hc), tab_getD hc]
  have hval : ∀ i j, i < ncl p → j < ncl p → gi p (T (fpt p i) (fpt p j) : Int) = some (quoT T p i j : Int) := fun i j hi hj => by
    have hk : T (fpt p i) (fpt p j) < p.length := by rw [hl]; exact h.lt _ _ (hf i hi) (hf j hj)
    have := ncl_lt hv hk
    rw [gi_lt 0 hk]; unfold quoT; congr 1; omega
  have push : ∀ {α : Type} (b : Nat) (f : Nat → α) (k : Nat), k < ncl p → b ≤ 1000 → pus b (tab k f) [f k] = some (tab (k + 1) f) := fun b f k hk hb => by
    rw [pus_ok (by simp; omega) hb]
    simp [tab, List.range_succ]
  obtain ⟨y, hy, hQ⟩ := forS_inv (n := ncl p) (f := fun k x => P_semigroupref19_Quotient_l7 p (tab (ncl p) fun c => clsL p (c : Int) p.length) t k x) (x := []) (fun k X => X = tab k fun i => tab (ncl p) fun j => (quoT T p i j : Int)) (by simp [tab]) (by
    rintro i _ hi rfl
    unfold P_semigroupref19_Quotient_l7
    rw [gc i hi]
    simp only [Option.bind_some, tab_length]
    obtain ⟨z, hz, hR⟩ := forS_inv (n := ncl p) (f := fun k x => P_semigroupref19_Quotient_l29 p (tab (ncl p) fun c => clsL p (c : Int) p.length) t (clsL p (i : Int) p.length) k x) (x := []) (fun k X => X = tab k fun j => (quoT T p i j : Int)) (by simp [tab]) (by
      rintro j _ hj rfl
      unfold P_semigroupref19_Quotient_l29
      rw [gc j hj]; simp only [Option.bind_some]
      rw [clsL_head hv hi]; simp only [Option.bind_some]
      rw [h.gi1 (hf i hi)]; simp only [Option.bind_some]
      rw [clsL_head hv hj]; simp only [Option.bind_some]
      rw [h.gi2 (hf i hi) (hf j hj)]; simp only [Option.bind_some]
      rw [hval i j hi hj]; simp only [Option.bind_some]
      rw [push 8 (fun j => (quoT T p i j : Int)) j hj (by omega)]
      exact ⟨_, rfl, rfl⟩)
    rw [hz, hR]
    simp only [Option.bind_some]
    rw [push 24 (fun i => tab (ncl p) fun j => (quoT T p i j : Int)) i hi (by omega)]
    exact ⟨_, rfl, rfl⟩)
  rw [hy, hQ]; rfl
end Go.Proofs.Ytmdpejgnkoneoaa.Mt
set_option maxRecDepth 100000
set_option maxHeartbeats 4000000
namespace Go.Proofs.Ytmdpejgnkoneoaa.Pu
open Go Go.AM Go.Proofs.Ytmdpejgnkoneoaa.Code

noncomputable def P_subdirect_meet_l8 (but : Int) (list : List (List Int)) (k10 : Nat) (x9 : List Int) : Option ((List Int)) :=
 Option.bind (gi list (k10 : Int)) fun x21 =>
 if !decide ((k10 : Int) = but) then
  Option.bind (P_partition_Meet x9 x21) fun r31 =>
  some r31
 else
  some x9
noncomputable def P_subdirect_meet (n : Int) (list : List (List Int)) (but : Int) : Option ((List Int)) :=
 Option.bind (P_partition_Trivial n) fun r1 =>
 Option.bind (forS list.length (fun k x => P_subdirect_meet_l8 but list k x) r1) fun z14 =>
 some z14
theorem R_subdirect_meet {G : List Frag} {W H : AH} {v_1 : AV} {n : Int} {list : List (List Int)} {but : Int} (hst : St G W H) (h_1 : Rp.rv W v_1 list) {r : (List Int)} (hp : P_subdirect_meet n list but = some r) :
  wpc E0 N_subdirect_meet [.int .i64 n, v_1, .int .i64 but] H fun rv H' => ∃ W', Wle W W' ∧ ∃ (g0 : Frag), St (g0 :: G) W' H' ∧ OwS W' rv g0 (r : List Int) := by
 refine enterN (F := f_subdirect_meet) rfl (Nat.le_of_ble_eq_true rfl) fun s hl hg => ?_;replace hl : s.length = 27 := hl;have g0 : gt s 0 = .int .i64 n := hg 0 (Nat.le_of_ble_eq_true rfl);have g1 : gt s 1 = v_1 := hg 1 (Nat.le_of_ble_eq_true rfl);have g2 : gt s 2 = .int .i64 but := hg 2 (Nat.le_of_ble_eq_true rfl);clear hg;unfold P_subdirect_meet at hp;show wp E0 c_subdirect_meet s H _;unfold c_subdirect_meet;refine AM.wp_seq hp0 (AM.wp_reg hp0 ?_);refine wpo_seg hp0 1 (fun s H' => s.length = 27 ∧ gt s 0 = .int .i64 n ∧ gt s 1 = v_1 ∧ gt s 2 = .int .i64 but ∧ H = H') (by simp only [↓runs, isCall, ↓reduceIte, ↓gd_true, ↓gd_false, evs, AV.cells, Nat.reduceEqDiff, Nat.reduceLT, reduceCtorEq, Nat.reduceAdd, sy, g0, g1, g2, hl]) ?_;rintro s _ ⟨hl, g0, g1, g2, rfl⟩;refine wpo_nil (then_n ?_);refine AM.wp_seq hp0 (AM.wp_reg hp0 ?_);refine wpo_seg hp0 1 (fun s H' => s.length = 27 ∧ gt s 1 = v_1 ∧ gt s 2 = .int .i64 but ∧ gt s 10 = .int .i64 n ∧ H = H') (by simp only [↓runs, isCall, ↓reduceIte, ↓gd_true, ↓gd_false, evs, AV.cells, Nat.reduceEqDiff, Nat.reduceLT, reduceCtorEq, Nat.reduceAdd, sy, g0, g1, g2, hl]) ?_;rintro s _ ⟨hl, g1, g2, g10, rfl⟩;obtain ⟨r1, e2, hp⟩ := bn hp;refine wpo_callK hp0 rfl (ys := [.int .i64 n]) (by simp only [evs, List.map_cons, List.map_nil, ev_t, ev_c, g10]) (R_partition_Trivial hst e2) ?_;rintro rv3 H ⟨W, w4, fg5, hst, o6⟩;replace h_1 := Rp.mono w4 h_1;refine wpo_seg hp0 1 (fun s H' => s.length = 27 ∧ gt s 1 = v_1 ∧ gt s 2 = .int .i64 but ∧ gt s 7 = rv3 ∧ H = H') (by simp only [↓runs, isCall, ↓reduceIte, ↓gd_true, ↓gd_false, evs, AV.cells, Nat.reduceEqDiff, Nat.reduceLT, reduceCtorEq, Nat.reduceAdd, sy, gt_other, g1, g2, g10, hl]) ?_;rintro s _ ⟨hl, g1, g2, g7, rfl⟩;refine wpo_nil (then_n ?_);refine AM.wp_seq hp0 (AM.wp_seq hp0 (AM.wp_reg hp0 ?_));have f7 := fz_ln h_1;refine wpo_seg hp0 3 (fun s H' => s.length = 27 ∧ gt s 2 = .int .i64 but ∧ gt s 7 = rv3 ∧ gt s 12 = v_1 ∧ gt s 13 = .int .i64 (list.length : Int) ∧ gt s 14 = .int .i64 0 ∧ H = H') (by simp only [↓runs, isCall, ↓reduceIte, ↓gd_true, ↓gd_false, evs, AV.cells, Nat.reduceEqDiff, Nat.reduceLT, reduceCtorEq, Nat.reduceAdd, sy, f7, g1, g2, g7, hl]) ?_;rintro s _ ⟨hl, g2, g7, g12, g13, g14, rfl⟩;refine wpo_nil (then_n ?_);obtain ⟨z14, e15, hp⟩ := bn hp;refine rangeS_ref hp0 27 list.length (fun k x => P_subdirect_meet_l8 but list k x) (fun _ x s H' => ∃ (W' : AH) (w7 : AV) (q7 : Frag), s.length = 27 ∧ gt s 7 = w7 ∧ gt s 2 = .int .i64 but ∧ gt s 12 = v_1 ∧  Wle W W' ∧ St (q7 :: G) W' H' ∧ OwS W' w7 q7 (x : List Int)) e15 (fz_big h_1) rfl ?_ ?_ hl g14 g13 ?_ ?_
 ·intro k x s H d v hd h; rcases hd with rfl | rfl | rfl <;> simpa only [gt_other, pt_length, Nat.reduceEqDiff, not_false_eq_true] using h
 ·exact ⟨W, _, _, hl, g7, g2, g12, .refl _, hst, o6⟩
 ·intro k10 x9 y11 s H hk hI hl g14 g13 hy12;change P_subdirect_meet_l8 but list k10 x9 = some y11 at hy12;unfold P_subdirect_meet_l8 at hy12;obtain ⟨W, v18, fg19, hl, g7, g2, g12, w17, hst, o20⟩ := hI;replace h_1 := Rp.mono w17 h_1;refine AM.wp_seq hp0 (AM.wp_reg hp0 ?_);obtain ⟨x21, e22, hy12⟩ := bn hy12;obtain ⟨p23, y24, f25, f26, h27⟩ := fz_at (k := .i64) hst h_1 e22 rfl;refine wpo_seg hp0 5 (fun s H' => s.length = 27 ∧ gt s 2 = .int .i64 but ∧ gt s 7 = v18 ∧ gt s 8 = .int .i64 (k10 : Int) ∧ gt s 9 = y24 ∧ gt s 12 = v_1 ∧ gt s 13 = .int .i64 (list.length : Int) ∧ gt s 14 = .int .i64 (k10 : Int) ∧ H = H') (by simp only [↓runs, isCall, ↓reduceIte, ↓gd_true, ↓gd_false, evs, AV.cells, Nat.reduceEqDiff, Nat.reduceLT, reduceCtorEq, Nat.reduceAdd, sy, f25, f26, g2, g7, g12, g13, g14, hl]) ?_;rintro s _ ⟨hl, g2, g7, g8, g9, g12, g13, g14, rfl⟩;refine wpo_nil (then_n ?_);refine AM.wp_seq hp0 (AM.wp_reg hp0 ?_);refine wpo_seg hp0 3 (fun s H' => s.length = 27 ∧ gt s 2 = .int .i64 but ∧ gt s 7 = v18 ∧ gt s 9 = y24 ∧ gt s 12 = v_1 ∧ gt s 13 = .int .i64 (list.length : Int) ∧ gt s 14 = .int .i64 (k10 : Int) ∧ gt s 21 = .bool (!decide ((k10 : Int) = but)) ∧ H = H') (by simp only [↓runs, isCall, ↓reduceIte, ↓gd_true, ↓gd_false, evs, AV.cells, Nat.reduceEqDiff, Nat.reduceLT, reduceCtorEq, Nat.reduceAdd, sy, g2, g7, g8, g9, g12, g13, g14, hl]) ?_;rintro s _ ⟨hl, g2, g7, g9, g12, g13, g14, g21, rfl⟩;refine wpo_nil (then_n ?_);rcases Bool.eq_false_or_eq_true (!decide ((k10 : Int) = but)) with c28 | c28
  ·replace hy12 := ifT c28 hy12;refine AM.wp_condT (by simp only [ev_t, ev_c, g21, c28]) ?_;refine AM.wp_reg hp0 ?_;refine wpo_seg hp0 2 (fun s H' => s.length = 27 ∧ gt s 2 = .int .i64 but ∧ gt s 7 = v18 ∧ gt s 12 = v_1 ∧ gt s 13 = .int .i64 (list.length : Int) ∧ gt s 14 = .int .i64 (k10 : Int) ∧ gt s 22 = v18 ∧ gt s 23 = y24 ∧ H = H') (by simp only [↓runs, isCall, ↓reduceIte, ↓gd_true, ↓gd_false, evs, AV.cells, Nat.reduceEqDiff, Nat.reduceLT, reduceCtorEq, Nat.reduceAdd, sy, g2, g7, g9, g12, g13, g14, g21, hl]) ?_;rintro s _ ⟨hl, g2, g7, g12, g13, g14, g22, g23, rfl⟩;obtain ⟨W, w30, hst, h29⟩ := ow_frz hst o20;replace h_1 := Rp.mono w30 h_1;replace h27 := Rp.mono w30 h27;obtain ⟨r31, e32, hy12⟩ := bn hy12;refine wpo_callK hp0 rfl (ys := [v18, y24]) (by simp only [evs, List.map_cons, List.map_nil, ev_t, ev_c, g22, g23]) (R_partition_Meet hst h29 h27 e32) ?_;rintro rv33 H ⟨W, w34, fg35, hst, o36⟩;replace h_1 := Rp.mono w34 h_1;replace h27 := Rp.mono w34 h27;replace h29 := Rp.mono w34 h29;refine wpo_seg hp0 1 (fun s H' => s.length = 27 ∧ gt s 2 = .int .i64 but ∧ gt s 7 = rv33 ∧ gt s 12 = v_1 ∧ gt s 13 = .int .i64 (list.length : Int) ∧ gt s 14 = .int .i64 (k10 : Int) ∧ H = H') (by simp only [↓runs, isCall, ↓reduceIte, ↓gd_true, ↓gd_false, evs, AV.cells, Nat.reduceEqDiff, Nat.reduceLT, reduceCtorEq, Nat.reduceAdd, sy, gt_other, g2, g7, g12, g13, g14, g22, g23, hl]) ?_;rintro s _ ⟨hl, g2, g7, g12, g13, g14, rfl⟩;refine wpo_nil ?_;refine rnd_n ?_;obtain rfl := Option.some.inj hy12;exact ⟨hl, g14, g13, ⟨W, _, _, hl, g7, g2, g12, ((w17.trans w30).trans w34), hst, o36⟩⟩
  ·replace hy12 := ifF c28 hy12;refine AM.wp_condF (by simp only [ev_t, ev_c, g21, c28]) ?_;refine AM.wp_skip ?_;refine rnd_n ?_;obtain rfl := Option.some.inj hy12;exact ⟨hl, g14, g13, ⟨W, _, _, hl, g7, g2, g12, w17, hst, o20⟩⟩
 ·rintro s H hI _;obtain ⟨W, v38, fg39, hl, g7, g2, g12, w37, hst, o40⟩ := hI;replace h_1 := Rp.mono w37 h_1;refine then_n ?_;refine AM.wp_seq hp0 (AM.wp_reg hp0 ?_);refine wpo_seg hp0 2 (fun s H' => s.length = 27 ∧ gt s 6 = v38 ∧ H = H') (by simp only [↓runs, isCall, ↓reduceIte, ↓gd_true, ↓gd_false, evs, AV.cells, Nat.reduceEqDiff, Nat.reduceLT, reduceCtorEq, Nat.reduceAdd, sy, g2, g7, g12, hl]) ?_;rintro s _ ⟨hl, g6, rfl⟩;refine wpo_nil (then_n ?_);refine AM.wp_ret ?_;obtain rfl := Option.some.inj hp;refine body_ret (vs := [v38]) (by simp only [rvs, f_subdirect_meet, Option.map_some, g6]) ?_;exact ⟨W, (w4.trans w37), _, hst, o40⟩

end Go.Proofs.Ytmdpejgnkoneoaa.Pu
set_option maxRecDepth 100000
set_option maxHeartbeats 4000000
namespace Go.Proofs.Ytmdpejgnkoneoaa.Pu
open Go Go.AM Go.Proofs.Ytmdpejgnkoneoaa.Code

noncomputable def P_subdirect_Check_l7 (list : List (List Int)) (t : List (List Int)) (k9 : Nat) : Option (Lp (Unit) (Bool)) :=
 Option.bind (gi list (k9 : Int)) fun x16 =>
 Option.bind (P_congr_Quotient t x16) fun r23 =>
 Option.bind (
  if !decide (r23.2 = 0) then
   some true
  else
   Option.bind (P_subdirect_monolith r23.1) fun r32 =>
   some r32.isNone) fun z29 =>
 if z29 then
  some (.ex false)
 else
  some (.go ())
noncomputable def P_subdirect_Check_l57 (list : List (List Int)) (t : List (List Int)) (k59 : Nat) : Option (Lp (Unit) (Bool)) :=
 Option.bind (P_subdirect_meet (t.length : Int) list (k59 : Int)) fun r67 =>
 Option.bind (P_subdirect_discrete r67) fun r75 =>
 if r75 then
  some (.ex false)
 else
  some (.go ())
noncomputable def P_subdirect_Check (t : List (List Int)) (list : List (List Int)) : Option (Bool) :=
 Option.bind (P_mult_Validate t) fun r1 =>
 if !decide (r1 = 0) then
  some false
 else
  Option.bind (forR list.length (fun k x => P_subdirect_Check_l7 list t k) ()) fun z13 =>
  match z13 with
  | .inl x40 =>
   Option.bind (P_subdirect_meet (t.length : Int) list (-1)) fun r43 =>
   Option.bind (P_subdirect_discrete r43) fun r51 =>
   if !r51 then
    some false
   else
    Option.bind (forR list.length (fun k x => P_subdirect_Check_l57 list t k) ()) fun z63 =>
    match z63 with
    | .inl x80 =>
     some true
    | .inr b => some b
  | .inr b => some b
theorem R_subdirect_Check {G : List Frag} {W H : AH} {v_0 v_1 : AV} {t : List (List Int)} {list : List (List Int)} (hst : St G W H) (h_0 : Rp.rv W v_0 t) (h_1 : Rp.rv W v_1 list) {r : Bool} (hp : P_subdirect_Check t list = some r) :
  wpc E0 N_subdirect_Check [v_0, v_1] H fun rv H' => ∃ W', Wle W W' ∧ St G W' H' ∧ rv = .bool r := by
 refine enterN (F := f_subdirect_Check) rfl (Nat.le_of_ble_eq_true rfl) fun s hl hg => ?_;replace hl : s.length = 51 := hl;have g0 : gt s 0 = v_0 := hg 0 (Nat.le_of_ble_eq_true rfl);have g1 : gt s 1 = v_1 := hg 1 (Nat.le_of_ble_eq_true rfl);clear hg;unfold P_subdirect_Check at hp;show wp E0 c_subdirect_Check s H _;unfold c_subdirect_Check;refine AM.wp_seq hp0 (AM.wp_reg hp0 ?_);refine wpo_seg hp0 1 (fun s H' => s.length = 51 ∧ gt s 0 = v_0 ∧ gt s 1 = v_1 ∧ H = H') (by simp only [↓runs, isCall, ↓reduceIte, ↓gd_true, ↓gd_false, evs, AV.cells, Nat.reduceEqDiff, Nat.reduceLT, reduceCtorEq, Nat.reduceAdd, sy, g0, g1, hl]) ?_;rintro s _ ⟨hl, g0, g1, rfl⟩;refine wpo_nil (then_n ?_);refine AM.wp_seq hp0 (AM.wp_seq hp0 (AM.wp_reg hp0 ?_));refine wpo_seg hp0 1 (fun s H' => s.length = 51 ∧ gt s 0 = v_0 ∧ gt s 1 = v_1 ∧ gt s 10 = v_0 ∧ H = H') (by simp only [↓runs, isCall, ↓reduceIte, ↓gd_true, ↓gd_false, evs, AV.cells, Nat.reduceEqDiff, Nat.reduceLT, reduceCtorEq, Nat.reduceAdd, sy, g0, g1, hl]) ?_;rintro s _ ⟨hl, g0, g1, g10, rfl⟩;obtain ⟨r1, e2, hp⟩ := bn hp;refine wpo_callK hp0 rfl (ys := [v_0]) (by simp only [evs, List.map_cons, List.map_nil, ev_t, ev_c, g10]) (R_mult_Validate hst h_0 e2) ?_;rintro rv3 H ⟨W, w4, hst, rfl⟩;replace h_0 := Rp.mono w4 h_0;replace h_1 := Rp.mono w4 h_1;refine wpo_seg hp0 1 (fun s H' => s.length = 51 ∧ gt s 0 = v_0 ∧ gt s 1 = v_1 ∧ gt s 12 = .bool (!decide (r1 = 0)) ∧ H = H') (by simp only [↓runs, isCall, ↓reduceIte, ↓gd_true, ↓gd_false, evs, AV.cells, Nat.reduceEqDiff, Nat.reduceLT, reduceCtorEq, Nat.reduceAdd, sy, gt_other, g0, g1, g10, hl]) ?_;rintro s _ ⟨hl, g0, g1, g12, rfl⟩;refine wpo_nil (then_n ?_);rcases Bool.eq_false_or_eq_true (!decide (r1 = 0)) with c5 | c5
 ·replace hp := ifT c5 hp;refine AM.wp_condT (by simp only [ev_t, ev_c, g12, c5]) ?_;refine AM.wp_seq hp0 (AM.wp_reg hp0 ?_);refine wpo_seg hp0 1 (fun s H' => s.length = 51 ∧ gt s 4 = .bool false ∧ H = H') (by simp only [↓runs, isCall, ↓reduceIte, ↓gd_true, ↓gd_false, evs, AV.cells, Nat.reduceEqDiff, Nat.reduceLT, reduceCtorEq, Nat.reduceAdd, sy, g0, g1, g12, hl]) ?_;rintro s _ ⟨hl, g4, rfl⟩;refine wpo_nil (then_n ?_);refine AM.wp_ret ?_;refine then_r ?_;obtain rfl := Option.some.inj hp;refine body_ret (vs := [.bool false]) (by simp only [rvs, f_subdirect_Check, Option.map_some, g4]) ?_;exact ⟨W, w4, hst, rfl⟩
 ·replace hp := ifF c5 hp;refine AM.wp_condF (by simp only [ev_t, ev_c, g12, c5]) ?_;refine AM.wp_skip ?_;refine then_n ?_;refine AM.wp_seq hp0 (AM.wp_seq hp0 (AM.wp_reg hp0 ?_));have f6 := fz_ln h_1;refine wpo_seg hp0 3 (fun s H' => s.length = 51 ∧ gt s 0 = v_0 ∧ gt s 1 = v_1 ∧ gt s 13 = v_1 ∧ gt s 14 = .int .i64 (list.length : Int) ∧ gt s 15 = .int .i64 0 ∧ H = H') (by simp only [↓runs, isCall, ↓reduceIte, ↓gd_true, ↓gd_false, evs, AV.cells, Nat.reduceEqDiff, Nat.reduceLT, reduceCtorEq, Nat.reduceAdd, sy, f6, g0, g1, g12, hl]) ?_;rintro s _ ⟨hl, g0, g1, g13, g14, g15, rfl⟩;refine wpo_nil (then_n ?_);obtain ⟨z13, e14, hp⟩ := bn hp;refine range_ref hp0 51 list.length (fun k x => P_subdirect_Check_l7 list t k) (fun _ x s H' => ∃ (W' : AH), s.length = 51 ∧ gt s 0 = v_0 ∧ gt s 1 = v_1 ∧ gt s 13 = v_1 ∧  Wle W W' ∧ St G W' H') (fun _ x s H' => ∃ (W' : AH), s.length = 51 ∧ gt s 0 = v_0 ∧ gt s 1 = v_1 ∧  Wle W W' ∧ St G W' H') e14 (fz_big h_1) rfl ?_ ?_ hl g15 g14 ?_ ?_
  ·intro k x s H d v hd h; rcases hd with rfl | rfl | rfl <;> simpa only [gt_other, pt_length, Nat.reduceEqDiff, not_false_eq_true] using h
  ·exact ⟨W, hl, g0, g1, g13, .refl _, hst⟩
  ·intro k9 x8 y10 s H hk hI hl g15 g14 hy11 hx12;change P_subdirect_Check_l7 list t k9 = some y10 at hy11;unfold P_subdirect_Check_l7 at hy11;obtain ⟨W, hl, g0, g1, g13, w15, hst⟩ := hI;replace h_0 := Rp.mono w15 h_0;replace h_1 := Rp.mono w15 h_1;refine AM.wp_seq hp0 (AM.wp_reg hp0 ?_);obtain ⟨x16, e17, hy11⟩ := bn hy11;obtain ⟨p18, y19, f20, f21, h22⟩ := fz_at (k := .i64) hst h_1 e17 rfl;refine wpo_seg hp0 3 (fun s H' => s.length = 51 ∧ gt s 0 = v_0 ∧ gt s 1 = v_1 ∧ gt s 6 = y19 ∧ gt s 13 = v_1 ∧ gt s 14 = .int .i64 (list.length : Int) ∧ gt s 15 = .int .i64 (k9 : Int) ∧ H = H') (by simp only [↓runs, isCall, ↓reduceIte, ↓gd_true, ↓gd_false, evs, AV.cells, Nat.reduceEqDiff, Nat.reduceLT, reduceCtorEq, Nat.reduceAdd, sy, f20, f21, g0, g1, g13, g14, g15, hl]) ?_;rintro s _ ⟨hl, g0, g1, g6, g13, g14, g15, rfl⟩;refine wpo_nil (then_n ?_);refine AM.wp_seq hp0 (AM.wp_reg hp0 ?_);refine wpo_seg hp0 2 (fun s H' => s.length = 51 ∧ gt s 0 = v_0 ∧ gt s 1 = v_1 ∧ gt s 13 = v_1 ∧ gt s 14 = .int .i64 (list.length : Int) ∧ gt s 15 = .int .i64 (k9 : Int) ∧ gt s 20 = v_0 ∧ gt s 21 = y19 ∧ H = H') (by simp only [↓runs, isCall, ↓reduceIte, ↓gd_true, ↓gd_false, evs, AV.cells, Nat.reduceEqDiff, Nat.reduceLT, reduceCtorEq, Nat.reduceAdd, sy, g0, g1, g6, g13, g14, g15, hl]) ?_;rintro s _ ⟨hl, g0, g1, g13, g14, g15, g20, g21, rfl⟩;obtain ⟨r23, e24, hy11⟩ := bn hy11;refine wpo_callK hp0 rfl (ys := [v_0, y19]) (by simp only [evs, List.map_cons, List.map_nil, ev_t, ev_c, g20, g21]) (R_congr_Quotient hst h_0 h22 e24) ?_;rintro rv25 H ⟨W, w26, v27, hst, rfl, h28⟩;replace h_0 := Rp.mono w26 h_0;replace h_1 := Rp.mono w26 h_1;replace h22 := Rp.mono w26 h22;refine wpo_seg hp0 5 (fun s H' => s.length = 51 ∧ gt s 0 = v_0 ∧ gt s 1 = v_1 ∧ gt s 7 = v27 ∧ gt s 8 = .int .i64 r23.2 ∧ gt s 13 = v_1 ∧ gt s 14 = .int .i64 (list.length : Int) ∧ gt s 15 = .int .i64 (k9 : Int) ∧ H = H') (by simp only [↓runs, isCall, ↓reduceIte, ↓gd_true, ↓gd_false, evs, AV.cells, Nat.reduceEqDiff, Nat.reduceLT, reduceCtorEq, Nat.reduceAdd, sy, gt_other, g0, g1, g13, g14, g15, g20, g21, hl]) ?_;rintro s _ ⟨hl, g0, g1, g7, g8, g13, g14, g15, rfl⟩;refine wpo_nil (then_n ?_);refine AM.wp_seq hp0 ?_;obtain ⟨z29, hj30, hy11⟩ := bn hy11;refine AM.wp_regK hp0 (fun s H' => ∃ (W' : AH), s.length = 51 ∧ gt s 31 = .bool z29 ∧ gt s 0 = v_0 ∧ gt s 1 = v_1 ∧ gt s 13 = v_1 ∧ gt s 14 = .int .i64 (list.length : Int) ∧ gt s 15 = .int .i64 (k9 : Int) ∧  Wle W W' ∧ St G W' H') ?_ ?_
   ·rcases Bool.eq_false_or_eq_true (!decide (r23.2 = 0)) with c31 | c31
    ·replace hj30 := ifT c31 hj30;refine wpo_seg hp0 7 (fun s H' => s.length = 51 ∧ gt s 0 = v_0 ∧ gt s 1 = v_1 ∧ gt s 13 = v_1 ∧ gt s 14 = .int .i64 (list.length : Int) ∧ gt s 15 = .int .i64 (k9 : Int) ∧ gt s 31 = .bool true ∧ H = H') (by simp only [↓runs, isCall, ↓reduceIte, ↓gd_true, ↓gd_false, evs, AV.cells, Nat.reduceEqDiff, Nat.reduceLT, reduceCtorEq, Nat.reduceAdd, sy, c31, g0, g1, g7, g8, g13, g14, g15, hl]) ?_;rintro s _ ⟨hl, g0, g1, g13, g14, g15, g31, rfl⟩;refine wpo_nil ?_;obtain rfl := Option.some.inj hj30;exact ⟨W, hl, g31, g0, g1, g13, g14, g15, .refl _, hst⟩
    ·replace hj30 := ifF c31 hj30;refine wpo_seg hp0 4 (fun s H' => s.length = 51 ∧ gt s 0 = v_0 ∧ gt s 1 = v_1 ∧ gt s 13 = v_1 ∧ gt s 14 = .int .i64 (list.length : Int) ∧ gt s 15 = .int .i64 (k9 : Int) ∧ gt s 27 = .bool false ∧ gt s 28 = v27 ∧ H = H') (by simp only [↓runs, isCall, ↓reduceIte, ↓gd_true, ↓gd_false, evs, AV.cells, Nat.reduceEqDiff, Nat.reduceLT, reduceCtorEq, Nat.reduceAdd, sy, c31, g0, g1, g7, g8, g13, g14, g15, hl]) ?_;rintro s _ ⟨hl, g0, g1, g13, g14, g15, g27, g28, rfl⟩;obtain ⟨r32, e33, hj30⟩ := bn hj30;refine wpo_callK hp0 (by simp only [wanted, g27, beq_self_eq_true]) (ys := [v27]) (by simp only [evs, List.map_cons, List.map_nil, ev_t, ev_c, g28]) (R_subdirect_monolith hst h28 e33) ?_;rintro rv34 H ⟨W, w35, hst, h36⟩;replace h_0 := Rp.mono w35 h_0;replace h_1 := Rp.mono w35 h_1;replace h22 := Rp.mono w35 h22;replace h28 := Rp.mono w35 h28;have f37 := nl_eq h36;refine wpo_seg hp0 2 (fun s H' => s.length = 51 ∧ gt s 0 = v_0 ∧ gt s 1 = v_1 ∧ gt s 13 = v_1 ∧ gt s 14 = .int .i64 (list.length : Int) ∧ gt s 15 = .int .i64 (k9 : Int) ∧ gt s 31 = .bool r32.isNone ∧ H = H') (by simp only [↓runs, isCall, ↓reduceIte, ↓gd_true, ↓gd_false, evs, AV.cells, Nat.reduceEqDiff, Nat.reduceLT, reduceCtorEq, Nat.reduceAdd, sy, gt_other, f37, g0, g1, g13, g14, g15, g27, g28, hl]) ?_;rintro s _ ⟨hl, g0, g1, g13, g14, g15, g31, rfl⟩;refine wpo_nil ?_;obtain rfl := Option.some.inj hj30;exact ⟨W, hl, g31, g0, g1, g13, g14, g15, w35, hst⟩
   ·rintro s H ⟨W, hl, g31, g0, g1, g13, g14, g15, w38, hst⟩;replace h_0 := Rp.mono w38 h_0;replace h_1 := Rp.mono w38 h_1;refine then_n ?_;rcases Bool.eq_false_or_eq_true (z29) with c39 | c39
    ·replace hy11 := ifT c39 hy11;refine AM.wp_condT (by simp only [ev_t, ev_c, g31, c39]) ?_;refine AM.wp_seq hp0 (AM.wp_reg hp0 ?_);refine wpo_seg hp0 1 (fun s H' => s.length = 51 ∧ gt s 4 = .bool false ∧ H = H') (by simp only [↓runs, isCall, ↓reduceIte, ↓gd_true, ↓gd_false, evs, AV.cells, Nat.reduceEqDiff, Nat.reduceLT, reduceCtorEq, Nat.reduceAdd, sy, g0, g1, g13, g14, g15, g31, hl]) ?_;rintro s _ ⟨hl, g4, rfl⟩;refine wpo_nil (then_n ?_);refine AM.wp_ret ?_;refine rnd_r ?_;refine then_r ?_;obtain rfl := Option.some.inj hy11;have hx := hx12 _ rfl;subst hx;dsimp only at hp;obtain rfl := Option.some.inj hp;refine body_ret (vs := [.bool false]) (by simp only [rvs, f_subdirect_Check, Option.map_some, g4]) ?_;exact ⟨W, (((w4.trans w15).trans w26).trans w38), hst, rfl⟩
    ·replace hy11 := ifF c39 hy11;refine AM.wp_condF (by simp only [ev_t, ev_c, g31, c39]) ?_;refine AM.wp_skip ?_;refine rnd_n ?_;obtain rfl := Option.some.inj hy11;exact ⟨_, rfl, hl, g15, g14, ⟨W, hl, g0, g1, g13, ((w15.trans w26).trans w38), hst⟩⟩
  ·rintro x40 s Hn hz hI;replace hI : (fun s H' => ∃ (W' : AH), s.length = 51 ∧ gt s 0 = v_0 ∧ gt s 1 = v_1 ∧  Wle W W' ∧ St G W' H') s Hn := by
    rcases hI with ⟨hI, -⟩ | ⟨_, hI⟩
    ·obtain ⟨W2, hl, g0, g1, g13, w2, hst2⟩ := hI;exact ⟨W2, hl, g0, g1, w2, hst2⟩
    ·exact hI
   obtain ⟨H, rfl⟩ : ∃ K, K = Hn := ⟨_, rfl⟩;subst hz;dsimp only at hp hI;obtain ⟨W, hl, g0, g1, w41, hst⟩ := hI;replace h_0 := Rp.mono w41 h_0;replace h_1 := Rp.mono w41 h_1;refine then_n ?_;refine AM.wp_seq hp0 (AM.wp_seq hp0 (AM.wp_reg hp0 ?_));have f42 := fz_ln h_0;refine wpo_seg hp0 3 (fun s H' => s.length = 51 ∧ gt s 0 = v_0 ∧ gt s 1 = v_1 ∧ gt s 34 = .int .i64 (t.length : Int) ∧ gt s 35 = v_1 ∧ H = H') (by simp only [↓runs, isCall, ↓reduceIte, ↓gd_true, ↓gd_false, evs, AV.cells, Nat.reduceEqDiff, Nat.reduceLT, reduceCtorEq, Nat.reduceAdd, sy, f42, g0, g1, hl]) ?_;rintro s _ ⟨hl, g0, g1, g34, g35, rfl⟩;obtain ⟨r43, e44, hp⟩ := bn hp;refine wpo_callK hp0 rfl (ys := [.int .i64 (t.length : Int), v_1, .int .i64 (-1)]) (by simp only [evs, List.map_cons, List.map_nil, ev_t, ev_c, g34, g35]) (R_subdirect_meet hst h_1 e44) ?_;rintro rv45 H ⟨W, w46, fg47, hst, o48⟩;replace h_0 := Rp.mono w46 h_0;replace h_1 := Rp.mono w46 h_1;refine wpo_seg hp0 0 (fun s H' => s.length = 51 ∧ gt s 0 = v_0 ∧ gt s 1 = v_1 ∧ gt s 36 = rv45 ∧ H = H') (by simp only [↓runs, isCall, ↓reduceIte, ↓gd_true, ↓gd_false, evs, AV.cells, Nat.reduceEqDiff, Nat.reduceLT, reduceCtorEq, Nat.reduceAdd, sy, gt_other, g0, g1, g34, g35, hl]) ?_;rintro s _ ⟨hl, g0, g1, g36, rfl⟩;obtain ⟨W, w50, hst, h49⟩ := ow_frz hst o48;replace h_0 := Rp.mono w50 h_0;replace h_1 := Rp.mono w50 h_1;obtain ⟨r51, e52, hp⟩ := bn hp;refine wpo_callK hp0 rfl (ys := [rv45]) (by simp only [evs, List.map_cons, List.map_nil, ev_t, ev_c, g36]) (R_subdirect_discrete hst h49 e52) ?_;rintro rv53 H ⟨W, w54, hst, rfl⟩;replace h_0 := Rp.mono w54 h_0;replace h_1 := Rp.mono w54 h_1;replace h49 := Rp.mono w54 h49;refine wpo_seg hp0 1 (fun s H' => s.length = 51 ∧ gt s 0 = v_0 ∧ gt s 1 = v_1 ∧ gt s 38 = .bool (!r51) ∧ H = H') (by simp only [↓runs, isCall, ↓reduceIte, ↓gd_true, ↓gd_false, evs, AV.cells, Nat.reduceEqDiff, Nat.reduceLT, reduceCtorEq, Nat.reduceAdd, sy, gt_other, g0, g1, g36, hl]) ?_;rintro s _ ⟨hl, g0, g1, g38, rfl⟩;refine wpo_nil (then_n ?_);rcases Bool.eq_false_or_eq_true (!r51) with c55 | c55
   ·replace hp := ifT c55 hp;refine AM.wp_condT (by simp only [ev_t, ev_c, g38, c55]) ?_;refine AM.wp_seq hp0 (AM.wp_reg hp0 ?_);refine wpo_seg hp0 1 (fun s H' => s.length = 51 ∧ gt s 4 = .bool false ∧ H = H') (by simp only [↓runs, isCall, ↓reduceIte, ↓gd_true, ↓gd_false, evs, AV.cells, Nat.reduceEqDiff, Nat.reduceLT, reduceCtorEq, Nat.reduceAdd, sy, g0, g1, g38, hl]) ?_;rintro s _ ⟨hl, g4, rfl⟩;refine wpo_nil (then_n ?_);refine AM.wp_ret ?_;refine then_r ?_;obtain rfl := Option.some.inj hp;refine body_ret (vs := [.bool false]) (by simp only [rvs, f_subdirect_Check, Option.map_some, g4]) ?_;exact ⟨W, ((((w4.trans w41).trans w46).trans w50).trans w54), hst, rfl⟩
   ·replace hp := ifF c55 hp;refine AM.wp_condF (by simp only [ev_t, ev_c, g38, c55]) ?_;refine AM.wp_skip ?_;refine then_n ?_;refine AM.wp_seq hp0 (AM.wp_seq hp0 (AM.wp_reg hp0 ?_));have f56 := fz_ln h_1;refine wpo_seg hp0 3 (fun s H' => s.length = 51 ∧ gt s 0 = v_0 ∧ gt s 1 = v_1 ∧ gt s 40 = .int .i64 (list.length : Int) ∧ gt s 41 = .int .i64 0 ∧ H = H') (by simp only [↓runs, isCall, ↓reduceIte, ↓gd_true, ↓gd_false, evs, AV.cells, Nat.reduceEqDiff, Nat.reduceLT, reduceCtorEq, Nat.reduceAdd, sy, f56, g0, g1, g38, hl]) ?_;rintro s _ ⟨hl, g0, g1, g40, g41, rfl⟩;refine wpo_nil (then_n ?_);obtain ⟨z63, e64, hp⟩ := bn hp;refine range_ref hp0 51 list.length (fun k x => P_subdirect_Check_l57 list t k) (fun _ x s H' => ∃ (W' : AH), s.length = 51 ∧ gt s 0 = v_0 ∧ gt s 1 = v_1 ∧  Wle W W' ∧ St G W' H') (fun _ x s H' => ∃ (W' : AH), s.length = 51 ∧  Wle W W' ∧ St G W' H') e64 (fz_big h_1) rfl ?_ ?_ hl g41 g40 ?_ ?_
    ·intro k x s H d v hd h; rcases hd with rfl | rfl | rfl <;> simpa only [gt_other, pt_length, Nat.reduceEqDiff, not_false_eq_true] using h
    ·exact ⟨W, hl, g0, g1, .refl _, hst⟩
    ·intro k59 x58 y60 s H hk hI hl g41 g40 hy61 hx62;change P_subdirect_Check_l57 list t k59 = some y60 at hy61;unfold P_subdirect_Check_l57 at hy61;obtain ⟨W, hl, g0, g1, w65, hst⟩ := hI;replace h_0 := Rp.mono w65 h_0;replace h_1 := Rp.mono w65 h_1;refine AM.wp_seq hp0 (AM.wp_reg hp0 ?_);refine wpo_seg hp0 2 (fun s H' => s.length = 51 ∧ gt s 0 = v_0 ∧ gt s 1 = v_1 ∧ gt s 9 = .int .i64 (k59 : Int) ∧ gt s 40 = .int .i64 (list.length : Int) ∧ gt s 41 = .int .i64 (k59 : Int) ∧ H = H') (by simp only [↓runs, isCall, ↓reduceIte, ↓gd_true, ↓gd_false, evs, AV.cells, Nat.reduceEqDiff, Nat.reduceLT, reduceCtorEq, Nat.reduceAdd, sy, g0, g1, g40, g41, hl]) ?_;rintro s _ ⟨hl, g0, g1, g9, g40, g41, rfl⟩;refine wpo_nil (then_n ?_);refine AM.wp_seq hp0 (AM.wp_reg hp0 ?_);have f66 := fz_ln h_0;refine wpo_seg hp0 4 (fun s H' => s.length = 51 ∧ gt s 0 = v_0 ∧ gt s 1 = v_1 ∧ gt s 40 = .int .i64 (list.length : Int) ∧ gt s 41 = .int .i64 (k59 : Int) ∧ gt s 45 = .int .i64 (t.length : Int) ∧ gt s 46 = v_1 ∧ gt s 47 = .int .i64 (k59 : Int) ∧ H = H') (by simp only [↓runs, isCall, ↓reduceIte, ↓gd_true, ↓gd_false, evs, AV.cells, Nat.reduceEqDiff, Nat.reduceLT, reduceCtorEq, Nat.reduceAdd, sy, f66, g0, g1, g9, g40, g41, hl]) ?_;rintro s _ ⟨hl, g0, g1, g40, g41, g45, g46, g47, rfl⟩;obtain ⟨r67, e68, hy61⟩ := bn hy61;refine wpo_callK hp0 rfl (ys := [.int .i64 (t.length : Int), v_1, .int .i64 (k59 : Int)]) (by simp only [evs, List.map_cons, List.map_nil, ev_t, ev_c, g45, g46, g47]) (R_subdirect_meet hst h_1 e68) ?_;rintro rv69 H ⟨W, w70, fg71, hst, o72⟩;replace h_0 := Rp.mono w70 h_0;replace h_1 := Rp.mono w70 h_1;refine wpo_seg hp0 0 (fun s H' => s.length = 51 ∧ gt s 0 = v_0 ∧ gt s 1 = v_1 ∧ gt s 40 = .int .i64 (list.length : Int) ∧ gt s 41 = .int .i64 (k59 : Int) ∧ gt s 48 = rv69 ∧ H = H') (by simp only [↓runs, isCall, ↓reduceIte, ↓gd_true, ↓gd_false, evs, AV.cells, Nat.reduceEqDiff, Nat.reduceLT, reduceCtorEq, Nat.reduceAdd, sy, gt_other, g0, g1, g40, g41, g45, g46, g47, hl]) ?_;rintro s _ ⟨hl, g0, g1, g40, g41, g48, rfl⟩;obtain ⟨W, w74, hst, h73⟩ := ow_frz hst o72;replace h_0 := Rp.mono w74 h_0;replace h_1 := Rp.mono w74 h_1;obtain ⟨r75, e76, hy61⟩ := bn hy61;refine wpo_callK hp0 rfl (ys := [rv69]) (by simp only [evs, List.map_cons, List.map_nil, ev_t, ev_c, g48]) (R_subdirect_discrete hst h73 e76) ?_;rintro rv77 H ⟨W, w78, hst, rfl⟩;replace h_0 := Rp.mono w78 h_0;replace h_1 := Rp.mono w78 h_1;replace h73 := Rp.mono w78 h73;refine wpo_seg hp0 0 (fun s H' => s.length = 51 ∧ gt s 0 = v_0 ∧ gt s 1 = v_1 ∧ gt s 40 = .int .i64 (list.length : Int) ∧ gt s 41 = .int .i64 (k59 : Int) ∧ gt s 49 = .bool r75 ∧ H = H') (by simp only [↓runs, isCall, ↓reduceIte, ↓gd_true, ↓gd_false, evs, AV.cells, Nat.reduceEqDiff, Nat.reduceLT, reduceCtorEq, Nat.reduceAdd, sy, gt_other, g0, g1, g40, g41, g48, hl]) ?_;rintro s _ ⟨hl, g0, g1, g40, g41, g49, rfl⟩;refine wpo_nil (then_n ?_);rcases Bool.eq_false_or_eq_true (r75) with c79 | c79
     ·replace hy61 := ifT c79 hy61;refine AM.wp_condT (by simp only [ev_t, ev_c, g49, c79]) ?_;refine AM.wp_seq hp0 (AM.wp_reg hp0 ?_);refine wpo_seg hp0 1 (fun s H' => s.length = 51 ∧ gt s 4 = .bool false ∧ H = H') (by simp only [↓runs, isCall, ↓reduceIte, ↓gd_true, ↓gd_false, evs, AV.cells, Nat.reduceEqDiff, Nat.reduceLT, reduceCtorEq, Nat.reduceAdd, sy, g0, g1, g40, g41, g49, hl]) ?_;rintro s _ ⟨hl, g4, rfl⟩;refine wpo_nil (then_n ?_);refine AM.wp_ret ?_;refine rnd_r ?_;refine then_r ?_;obtain rfl := Option.some.inj hy61;have hx := hx62 _ rfl;subst hx;dsimp only at hp;obtain rfl := Option.some.inj hp;refine body_ret (vs := [.bool false]) (by simp only [rvs, f_subdirect_Check, Option.map_some, g4]) ?_;exact ⟨W, ((((((((w4.trans w41).trans w46).trans w50).trans w54).trans w65).trans w70).trans w74).trans w78), hst, rfl⟩
     ·replace hy61 := ifF c79 hy61;refine AM.wp_condF (by simp only [ev_t, ev_c, g49, c79]) ?_;refine AM.wp_skip ?_;refine rnd_n ?_;obtain rfl := Option.some.inj hy61;exact ⟨_, rfl, hl, g41, g40, ⟨W, hl, g0, g1, (((w65.trans w70).trans w74).trans w78), hst⟩⟩
    ·rintro x80 s Hn hz hI;replace hI : (fun s H' => ∃ (W' : AH), s.length = 51 ∧  Wle W W' ∧ St G W' H') s Hn := by
      rcases hI with ⟨hI, -⟩ | ⟨_, hI⟩
      ·obtain ⟨W2, hl, g0, g1, w2, hst2⟩ := hI;exact ⟨W2, hl, w2, hst2⟩
      ·exact hI
     obtain ⟨H, rfl⟩ : ∃ K, K = Hn := ⟨_, rfl⟩;subst hz;dsimp only at hp hI;obtain ⟨W, hl, w81, hst⟩ := hI;replace h_0 := Rp.mono w81 h_0;replace h_1 := Rp.mono w81 h_1;refine then_n ?_;refine AM.wp_seq hp0 (AM.wp_reg hp0 ?_);refine wpo_seg hp0 1 (fun s H' => s.length = 51 ∧ gt s 4 = .bool true ∧ H = H') (by simp only [↓runs, isCall, ↓reduceIte, ↓gd_true, ↓gd_false, evs, AV.cells, Nat.reduceEqDiff, Nat.reduceLT, reduceCtorEq, Nat.reduceAdd, sy, hl]) ?_;rintro s _ ⟨hl, g4, rfl⟩;refine wpo_nil (then_n ?_);refine AM.wp_ret ?_;obtain rfl := Option.some.inj hp;refine body_ret (vs := [.bool true]) (by simp only [rvs, f_subdirect_Check, Option.map_some, g4]) ?_;exact ⟨W, (((((w4.trans w41).trans w46).trans w50).trans w54).trans w81), hst, rfl⟩

end Go.Proofs.Ytmdpejgnkoneoaa.Pu
set_option maxRecDepth 100000
set_option maxHeartbeats 4000000
namespace Go.Proofs.Ytmdpejgnkoneoaa.Pu
open Go Go.AM Go.Proofs.Ytmdpejgnkoneoaa.Code

noncomputable def P_semigroupref22_meet_l10 (but : Int) (list : List (List Int)) (k12 : Nat) (x11 : List Int) : Option ((List Int)) :=
 Option.bind (gi list (k12 : Int)) fun x23 =>
 if !decide ((k12 : Int) = but) then
  Option.bind (P_semigroupref03_Meet x11 x23) fun r34 =>
  some r34
 else
  some x11
noncomputable def P_semigroupref22_meet (n : Int) (list : List (List Int)) (but : Int) : Option ((List Int)) :=
 Option.bind (mkz (α := Int) 8 n n 0) fun x1 =>
 Option.bind (forS list.length (fun k x => P_semigroupref22_meet_l10 but list k x) x1) fun z16 =>
 some z16
theorem R_semigroupref22_meet {G : List Frag} {W H : AH} {v_1 : AV} {n : Int} {list : List (List Int)} {but : Int} (hst : St G W H) (h_1 : Rp.rv W v_1 list) {r : (List Int)} (hp : P_semigroupref22_meet n list but = some r) :
  wpc E0 N_semigroupref22_meet [.int .i64 n, v_1, .int .i64 but] H fun rv H' => ∃ W', Wle W W' ∧ ∃ (g0 : Frag), St (g0 :: G) W' H' ∧ OwS W' rv g0 (r : List Int) := by
 refine enterN (F := f_semigroupref22_meet) rfl (Nat.le_of_ble_eq_true rfl) fun s hl hg => ?_;replace hl : s.length = 27 := hl;have g0 : gt s 0 = .int .i64 n := hg 0 (Nat.le_of_ble_eq_true rfl);have g1 : gt s 1 = v_1 := hg 1 (Nat.le_of_ble_eq_true rfl);have g2 : gt s 2 = .int .i64 but := hg 2 (Nat.le_of_ble_eq_true rfl);clear hg;unfold P_semigroupref22_meet at hp;show wp E0 c_semigroupref22_meet s H _;unfold c_semigroupref22_meet;refine AM.wp_seq hp0 (AM.wp_reg hp0 ?_);refine wpo_seg hp0 1 (fun s H' => s.length = 27 ∧ gt s 0 = .int .i64 n ∧ gt s 1 = v_1 ∧ gt s 2 = .int .i64 but ∧ H = H') (by simp only [↓runs, isCall, ↓reduceIte, ↓gd_true, ↓gd_false, evs, AV.cells, Nat.reduceEqDiff, Nat.reduceLT, reduceCtorEq, Nat.reduceAdd, sy, g0, g1, g2, hl]) ?_;rintro s _ ⟨hl, g0, g1, g2, rfl⟩;refine wpo_nil (then_n ?_);refine AM.wp_seq hp0 (AM.wp_reg hp0 ?_);obtain ⟨x1, e2, hp⟩ := bn hp;obtain ⟨v3, H4, fg5, W, f7, w6, hst, o8⟩ := ow_mk (kn := .i64) (kc := .i64) hst (show Rp.rv _ (.int .i64 0) (0 : Int) from rfl) [.int .i64 0] rfl e2;replace h_1 := Rp.mono w6 h_1;refine wpo_seg hp0 3 (fun s H' => s.length = 27 ∧ gt s 1 = v_1 ∧ gt s 2 = .int .i64 but ∧ gt s 7 = v3 ∧ H4 = H') (by simp only [↓runs, isCall, ↓reduceIte, ↓gd_true, ↓gd_false, evs, AV.cells, Nat.reduceEqDiff, Nat.reduceLT, reduceCtorEq, Nat.reduceAdd, sy, f7, g0, g1, g2, hl]) ?_;rintro s _ ⟨hl, g1, g2, g7, rfl⟩;refine wpo_nil (then_n ?_);refine AM.wp_seq hp0 (AM.wp_seq hp0 (AM.wp_reg hp0 ?_));have f9 := fz_ln h_1;refine wpo_seg hp0 3 (fun s H' => s.length = 27 ∧ gt s 2 = .int .i64 but ∧ gt s 7 = v3 ∧ gt s 12 = v_1 ∧ gt s 13 = .int .i64 (list.length : Int) ∧ gt s 14 = .int .i64 0 ∧ H4 = H') (by simp only [↓runs, isCall, ↓reduceIte, ↓gd_true, ↓gd_false, evs, AV.cells, Nat.reduceEqDiff, Nat.reduceLT, reduceCtorEq, Nat.reduceAdd, sy, f9, g1, g2, g7, hl]) ?_;rintro s _ ⟨hl, g2, g7, g12, g13, g14, rfl⟩;refine wpo_nil (then_n ?_);obtain ⟨z16, e17, hp⟩ := bn hp;refine rangeS_ref hp0 27 list.length (fun k x => P_semigroupref22_meet_l10 but list k x) (fun _ x s H' => ∃ (W' : AH) (w7 : AV) (q7 : Frag), s.length = 27 ∧ gt s 7 = w7 ∧ gt s 2 = .int .i64 but ∧ gt s 12 = v_1 ∧  Wle W W' ∧ St (q7 :: G) W' H' ∧ OwS W' w7 q7 (x : List Int)) e17 (fz_big h_1) rfl ?_ ?_ hl g14 g13 ?_ ?_
 ·intro k x s H d v hd h; rcases hd with rfl | rfl | rfl <;> simpa only [gt_other, pt_length, Nat.reduceEqDiff, not_false_eq_true] using h
 ·exact ⟨W, _, _, hl, g7, g2, g12, .refl _, hst, o8⟩
 ·intro k12 x11 y13 s H hk hI hl g14 g13 hy14;change P_semigroupref22_meet_l10 but list k12 x11 = some y13 at hy14;unfold P_semigroupref22_meet_l10 at hy14;obtain ⟨W, v20, fg21, hl, g7, g2, g12, w19, hst, o22⟩ := hI;replace h_1 := Rp.mono w19 h_1;refine AM.wp_seq hp0 (AM.wp_reg hp0 ?_);obtain ⟨x23, e24, hy14⟩ := bn hy14;obtain ⟨p25, y26, f27, f28, h29⟩ := fz_at (k := .i64) hst h_1 e24 rfl;refine wpo_seg hp0 5 (fun s H' => s.length = 27 ∧ gt s 2 = .int .i64 but ∧ gt s 7 = v20 ∧ gt s 8 = .int .i64 (k12 : Int) ∧ gt s 9 = y26 ∧ gt s 12 = v_1 ∧ gt s 13 = .int .i64 (list.length : Int) ∧ gt s 14 = .int .i64 (k12 : Int) ∧ H = H') (by simp only [↓runs, isCall, ↓reduceIte, ↓gd_true, ↓gd_false, evs, AV.cells, Nat.reduceEqDiff, Nat.reduceLT, reduceCtorEq, Nat.reduceAdd, sy, f27, f28, g2, g7, g12, g13, g14, hl]) ?_;rintro s _ ⟨hl, g2, g7, g8, g9, g12, g13, g14, rfl⟩;refine wpo_nil (then_n ?_);refine AM.wp_seq hp0 (AM.wp_reg hp0 ?_);refine wpo_seg hp0 3 (fun s H' => s.length = 27 ∧ gt s 2 = .int .i64 but ∧ gt s 7 = v20 ∧ gt s 9 = y26 ∧ gt s 12 = v_1 ∧ gt s 13 = .int .i64 (list.length : Int) ∧ gt s 14 = .int .i64 (k12 : Int) ∧ gt s 21 = .bool (!decide ((k12 : Int) = but)) ∧ H = H') (by simp only [↓runs, isCall, ↓reduceIte, ↓gd_true, ↓gd_false, evs, AV.cells, Nat.reduceEqDiff, Nat.reduceLT, reduceCtorEq, Nat.reduceAdd, sy, g2, g7, g8, g9, g12, g13, g14, hl]) ?_;rintro s _ ⟨hl, g2, g7, g9, g12, g13, g14, g21, rfl⟩;refine wpo_nil (then_n ?_);rcases Bool.eq_false_or_eq_true (!decide ((k12 : Int) = but)) with c30 | c30
  ·replace hy14 := ifT c30 hy14;refine AM.wp_condT (by simp only [ev_t, ev_c, g21, c30]) ?_;refine AM.wp_reg hp0 ?_;refine wpo_seg hp0 2 (fun s H' => s.length = 27 ∧ gt s 2 = .int .i64 but ∧ gt s 7 = v20 ∧ gt s 12 = v_1 ∧ gt s 13 = .int .i64 (list.length : Int) ∧ gt s 14 = .int .i64 (k12 : Int) ∧ gt s 22 = v20 ∧ gt s 23 = y26 ∧ H = H') (by simp only [↓runs, isCall, ↓reduceIte, ↓gd_true, ↓gd_false, evs, AV.cells, Nat.reduceEqDiff, Nat.reduceLT, reduceCtorEq, Nat.reduceAdd, sy, g2, g7, g9, g12, g13, g14, g21, hl]) ?_;rintro s _ ⟨hl, g2, g7, g12, g13, g14, g22, g23, rfl⟩;obtain ⟨W, w33, hst, h31⟩ := ow_frz hst o22;replace h_1 := Rp.mono w33 h_1;replace h29 := Rp.mono w33 h29;obtain ⟨r34, e35, hy14⟩ := bn hy14;refine wpo_callK hp0 rfl (ys := [v20, y26]) (by simp only [evs, List.map_cons, List.map_nil, ev_t, ev_c, g22, g23]) (R_semigroupref03_Meet hst h31 h29 e35) ?_;rintro rv36 H ⟨W, w37, fg38, hst, o39⟩;replace h_1 := Rp.mono w37 h_1;replace h29 := Rp.mono w37 h29;replace h31 := Rp.mono w37 h31;refine wpo_seg hp0 1 (fun s H' => s.length = 27 ∧ gt s 2 = .int .i64 but ∧ gt s 7 = rv36 ∧ gt s 12 = v_1 ∧ gt s 13 = .int .i64 (list.length : Int) ∧ gt s 14 = .int .i64 (k12 : Int) ∧ H = H') (by simp only [↓runs, isCall, ↓reduceIte, ↓gd_true, ↓gd_false, evs, AV.cells, Nat.reduceEqDiff, Nat.reduceLT, reduceCtorEq, Nat.reduceAdd, sy, gt_other, g2, g7, g12, g13, g14, g22, g23, hl]) ?_;rintro s _ ⟨hl, g2, g7, g12, g13, g14, rfl⟩;refine wpo_nil ?_;refine rnd_n ?_;obtain rfl := Option.some.inj hy14;exact ⟨hl, g14, g13, ⟨W, _, _, hl, g7, g2, g12, ((w19.trans w33).trans w37), hst, o39⟩⟩
  ·replace hy14 := ifF c30 hy14;refine AM.wp_condF (by simp only [ev_t, ev_c, g21, c30]) ?_;refine AM.wp_skip ?_;refine rnd_n ?_;obtain rfl := Option.some.inj hy14;exact ⟨hl, g14, g13, ⟨W, _, _, hl, g7, g2, g12, w19, hst, o22⟩⟩
 ·rintro s H hI _;obtain ⟨W, v41, fg42, hl, g7, g2, g12, w40, hst, o43⟩ := hI;replace h_1 := Rp.mono w40 h_1;refine then_n ?_;refine AM.wp_seq hp0 (AM.wp_reg hp0 ?_);refine wpo_seg hp0 2 (fun s H' => s.length = 27 ∧ gt s 6 = v41 ∧ H = H') (by simp only [↓runs, isCall, ↓reduceIte, ↓gd_true, ↓gd_false, evs, AV.cells, Nat.reduceEqDiff, Nat.reduceLT, reduceCtorEq, Nat.reduceAdd, sy, g2, g7, g12, hl]) ?_;rintro s _ ⟨hl, g6, rfl⟩;refine wpo_nil (then_n ?_);refine AM.wp_ret ?_;obtain rfl := Option.some.inj hp;refine body_ret (vs := [v41]) (by simp only [rvs, f_semigroupref22_meet, Option.map_some, g6]) ?_;exact ⟨W, (w6.trans w40), _, hst, o43⟩

end Go.Proofs.Ytmdpejgnkoneoaa.Pu
set_option maxRecDepth 100000
set_option maxHeartbeats 4000000
namespace Go.Proofs.Ytmdpejgnkoneoaa.Pu
open Go Go.AM Go.Proofs.Ytmdpejgnkoneoaa.Code

noncomputable def P_semigroupref22_Check_l7 (list : List (List Int)) (t : List (List Int)) (k9 : Nat) : Option (Lp (Unit) (Bool)) :=
 Option.bind (gi list (k9 : Int)) fun x16 =>
 Option.bind (P_semigroupref19_IsCongruence t x16 0) fun r23 =>
 if !r23 then
  some (.ex false)
 else
  Option.bind (P_semigroupref19_Quotient t x16) fun r28 =>
  Option.bind (P_semigroupref22_Irreducible r28) fun r36 =>
  if !r36.2 then
   some (.ex false)
  else
   some (.go ())
noncomputable def P_semigroupref22_Check_l61 (list : List (List Int)) (t : List (List Int)) (k63 : Nat) : Option (Lp (Unit) (Bool)) :=
 Option.bind (P_semigroupref22_meet (t.length : Int) list (k63 : Int)) fun r71 =>
 Option.bind (P_semigroupref03_Count r71) fun r79 =>
 if decide (r79 = (t.length : Int)) then
  some (.ex false)
 else
  some (.go ())
noncomputable def P_semigroupref22_Check (t : List (List Int)) (list : List (List Int)) : Option (Bool) :=
 Option.bind (P_semigroupref14_Valid t) fun r1 =>
 if !r1 then
  some false
 else
  Option.bind (forR list.length (fun k x => P_semigroupref22_Check_l7 list t k) ()) fun z13 =>
  match z13 with
  | .inl x43 =>
   Option.bind (P_semigroupref22_meet (t.length : Int) list (-1)) fun r46 =>
   Option.bind (P_semigroupref03_Count r46) fun r54 =>
   if !decide (r54 = (t.length : Int)) then
    some false
   else
    Option.bind (forR list.length (fun k x => P_semigroupref22_Check_l61 list t k) ()) fun z67 =>
    match z67 with
    | .inl x85 =>
     some true
    | .inr b => some b
  | .inr b => some b
theorem R_semigroupref22_Check {G : List Frag} {W H : AH} {v_0 v_1 : AV} {t : List (List Int)} {list : List (List Int)} (hst : St G W H) (h_0 : Rp.rv W v_0 t) (h_1 : Rp.rv W v_1 list) {r : Bool} (hp : P_semigroupref22_Check t list = some r) :
  wpc E0 N_semigroupref22_Check [v_0, v_1] H fun rv H' => ∃ W', Wle W W' ∧ St G W' H' ∧ rv = .bool r := by
 refine enterN (F := f_semigroupref22_Check) rfl (Nat.le_of_ble_eq_true rfl) fun s hl hg => ?_;replace hl : s.length = 56 := hl;have g0 : gt s 0 = v_0 := hg 0 (Nat.le_of_ble_eq_true rfl);have g1 : gt s 1 = v_1 := hg 1 (Nat.le_of_ble_eq_true rfl);clear hg;unfold P_semigroupref22_Check at hp;show wp E0 c_semigroupref22_Check s H _;unfold c_semigroupref22_Check;refine AM.wp_seq hp0 (AM.wp_reg hp0 ?_);refine wpo_seg hp0 1 (fun s H' => s.length = 56 ∧ gt s 0 = v_0 ∧ gt s 1 = v_1 ∧ H = H') (by simp only [↓runs, isCall, ↓reduceIte, ↓gd_true, ↓gd_false, evs, AV.cells, Nat.reduceEqDiff, Nat.reduceLT, reduceCtorEq, Nat.reduceAdd, sy, g0, g1, hl]) ?_;rintro s _ ⟨hl, g0, g1, rfl⟩;refine wpo_nil (then_n ?_);refine AM.wp_seq hp0 (AM.wp_seq hp0 (AM.wp_reg hp0 ?_));refine wpo_seg hp0 1 (fun s H' => s.length = 56 ∧ gt s 0 = v_0 ∧ gt s 1 = v_1 ∧ gt s 10 = v_0 ∧ H = H') (by simp only [↓runs, isCall, ↓reduceIte, ↓gd_true, ↓gd_false, evs, AV.cells, Nat.reduceEqDiff, Nat.reduceLT, reduceCtorEq, Nat.reduceAdd, sy, g0, g1, hl]) ?_;rintro s _ ⟨hl, g0, g1, g10, rfl⟩;obtain ⟨r1, e2, hp⟩ := bn hp;refine wpo_callK hp0 rfl (ys := [v_0]) (by simp only [evs, List.map_cons, List.map_nil, ev_t, ev_c, g10]) (R_semigroupref14_Valid hst h_0 e2) ?_;rintro rv3 H ⟨W, w4, hst, rfl⟩;replace h_0 := Rp.mono w4 h_0;replace h_1 := Rp.mono w4 h_1;refine wpo_seg hp0 1 (fun s H' => s.length = 56 ∧ gt s 0 = v_0 ∧ gt s 1 = v_1 ∧ gt s 12 = .bool (!r1) ∧ H = H') (by simp only [↓runs, isCall, ↓reduceIte, ↓gd_true, ↓gd_false, evs, AV.cells, Nat.reduceEqDiff, Nat.reduceLT, reduceCtorEq, Nat.reduceAdd, sy, gt_other, g0, g1, g10, hl]) ?_;rintro s _ ⟨hl, g0, g1, g12, rfl⟩;refine wpo_nil (then_n ?_);rcases Bool.eq_false_or_eq_true (!r1) with c5 | c5
 ·replace hp := ifT c5 hp;refine AM.wp_condT (by simp only [ev_t, ev_c, g12, c5]) ?_;refine AM.wp_seq hp0 (AM.wp_reg hp0 ?_);refine wpo_seg hp0 1 (fun s H' => s.length = 56 ∧ gt s 4 = .bool false ∧ H = H') (by simp only [↓runs, isCall, ↓reduceIte, ↓gd_true, ↓gd_false, evs, AV.cells, Nat.reduceEqDiff, Nat.reduceLT, reduceCtorEq, Nat.reduceAdd, sy, g0, g1, g12, hl]) ?_;rintro s _ ⟨hl, g4, rfl⟩;refine wpo_nil (then_n ?_);refine AM.wp_ret ?_;refine then_r ?_;obtain rfl := Option.some.inj hp;refine body_ret (vs := [.bool false]) (by simp only [rvs, f_semigroupref22_Check, Option.map_some, g4]) ?_;exact ⟨W, w4, hst, rfl⟩
 ·replace hp := ifF c5 hp;refine AM.wp_condF (by simp only [ev_t, ev_c, g12, c5]) ?_;refine AM.wp_skip ?_;refine then_n ?_;refine AM.wp_seq hp0 (AM.wp_seq hp0 (AM.wp_reg hp0 ?_));have f6 := fz_ln h_1;refine wpo_seg hp0 3 (fun s H' => s.length = 56 ∧ gt s 0 = v_0 ∧ gt s 1 = v_1 ∧ gt s 13 = v_1 ∧ gt s 14 = .int .i64 (list.length : Int) ∧ gt s 15 = .int .i64 0 ∧ H = H') (by simp only [↓runs, isCall, ↓reduceIte, ↓gd_true, ↓gd_false, evs, AV.cells, Nat.reduceEqDiff, Nat.reduceLT, reduceCtorEq, Nat.reduceAdd, sy, f6, g0, g1, g12, hl]) ?_;rintro s _ ⟨hl, g0, g1, g13, g14, g15, rfl⟩;refine wpo_nil (then_n ?_);obtain ⟨z13, e14, hp⟩ := bn hp;refine range_ref hp0 56 list.length (fun k x => P_semigroupref22_Check_l7 list t k) (fun _ x s H' => ∃ (W' : AH), s.length = 56 ∧ gt s 0 = v_0 ∧ gt s 1 = v_1 ∧ gt s 13 = v_1 ∧  Wle W W' ∧ St G W' H') (fun _ x s H' => ∃ (W' : AH), s.length = 56 ∧ gt s 0 = v_0 ∧ gt s 1 = v_1 ∧  Wle W W' ∧ St G W' H') e14 (fz_big h_1) rfl ?_ ?_ hl g15 g14 ?_ ?_
  ·intro k x s H d v hd h; rcases hd with rfl | rfl | rfl <;> simpa only [gt_other, pt_length, Nat.reduceEqDiff, not_false_eq_true] using h
  ·exact ⟨W, hl, g0, g1, g13, .refl _, hst⟩
  ·intro k9 x8 y10 s H hk hI hl g15 g14 hy11 hx12;change P_semigroupref22_Check_l7 list t k9 = some y10 at hy11;unfold P_semigroupref22_Check_l7 at hy11;obtain ⟨W, hl, g0, g1, g13, w15, hst⟩ := hI;replace h_0 := Rp.mono w15 h_0;replace h_1 := Rp.mono w15 h_1;refine AM.wp_seq hp0 (AM.wp_reg hp0 ?_);obtain ⟨x16, e17, hy11⟩ := bn hy11;obtain ⟨p18, y19, f20, f21, h22⟩ := fz_at (k := .i64) hst h_1 e17 rfl;refine wpo_seg hp0 3 (fun s H' => s.length = 56 ∧ gt s 0 = v_0 ∧ gt s 1 = v_1 ∧ gt s 6 = y19 ∧ gt s 13 = v_1 ∧ gt s 14 = .int .i64 (list.length : Int) ∧ gt s 15 = .int .i64 (k9 : Int) ∧ H = H') (by simp only [↓runs, isCall, ↓reduceIte, ↓gd_true, ↓gd_false, evs, AV.cells, Nat.reduceEqDiff, Nat.reduceLT, reduceCtorEq, Nat.reduceAdd, sy, f20, f21, g0, g1, g13, g14, g15, hl]) ?_;rintro s _ ⟨hl, g0, g1, g6, g13, g14, g15, rfl⟩;refine wpo_nil (then_n ?_);refine AM.wp_seq hp0 (AM.wp_seq hp0 (AM.wp_reg hp0 ?_));refine wpo_seg hp0 2 (fun s H' => s.length = 56 ∧ gt s 0 = v_0 ∧ gt s 1 = v_1 ∧ gt s 6 = y19 ∧ gt s 13 = v_1 ∧ gt s 14 = .int .i64 (list.length : Int) ∧ gt s 15 = .int .i64 (k9 : Int) ∧ gt s 19 = v_0 ∧ gt s 20 = y19 ∧ H = H') (by simp only [↓runs, isCall, ↓reduceIte, ↓gd_true, ↓gd_false, evs, AV.cells, Nat.reduceEqDiff, Nat.reduceLT, reduceCtorEq, Nat.reduceAdd, sy, g0, g1, g6, g13, g14, g15, hl]) ?_;rintro s _ ⟨hl, g0, g1, g6, g13, g14, g15, g19, g20, rfl⟩;obtain ⟨r23, e24, hy11⟩ := bn hy11;refine wpo_callK hp0 rfl (ys := [v_0, y19, .int .i64 0]) (by simp only [evs, List.map_cons, List.map_nil, ev_t, ev_c, g19, g20]) (R_semigroupref19_IsCongruence hst h_0 h22 e24) ?_;rintro rv25 H ⟨W, w26, hst, rfl⟩;replace h_0 := Rp.mono w26 h_0;replace h_1 := Rp.mono w26 h_1;replace h22 := Rp.mono w26 h22;refine wpo_seg hp0 1 (fun s H' => s.length = 56 ∧ gt s 0 = v_0 ∧ gt s 1 = v_1 ∧ gt s 6 = y19 ∧ gt s 13 = v_1 ∧ gt s 14 = .int .i64 (list.length : Int) ∧ gt s 15 = .int .i64 (k9 : Int) ∧ gt s 22 = .bool (!r23) ∧ H = H') (by simp only [↓runs, isCall, ↓reduceIte, ↓gd_true, ↓gd_false, evs, AV.cells, Nat.reduceEqDiff, Nat.reduceLT, reduceCtorEq, Nat.reduceAdd, sy, gt_other, g0, g1, g6, g13, g14, g15, g19, g20, hl]) ?_;rintro s _ ⟨hl, g0, g1, g6, g13, g14, g15, g22, rfl⟩;refine wpo_nil (then_n ?_);rcases Bool.eq_false_or_eq_true (!r23) with c27 | c27
   ·replace hy11 := ifT c27 hy11;refine AM.wp_condT (by simp only [ev_t, ev_c, g22, c27]) ?_;refine AM.wp_seq hp0 (AM.wp_reg hp0 ?_);refine wpo_seg hp0 1 (fun s H' => s.length = 56 ∧ gt s 4 = .bool false ∧ H = H') (by simp only [↓runs, isCall, ↓reduceIte, ↓gd_true, ↓gd_false, evs, AV.cells, Nat.reduceEqDiff, Nat.reduceLT, reduceCtorEq, Nat.reduceAdd, sy, g0, g1, g6, g13, g14, g15, g22, hl]) ?_;rintro s _ ⟨hl, g4, rfl⟩;refine wpo_nil (then_n ?_);refine AM.wp_ret ?_;refine then_r ?_;refine rnd_r ?_;refine then_r ?_;obtain rfl := Option.some.inj hy11;have hx := hx12 _ rfl;subst hx;dsimp only at hp;obtain rfl := Option.some.inj hp;refine body_ret (vs := [.bool false]) (by simp only [rvs, f_semigroupref22_Check, Option.map_some, g4]) ?_;exact ⟨W, ((w4.trans w15).trans w26), hst, rfl⟩
   ·replace hy11 := ifF c27 hy11;refine AM.wp_condF (by simp only [ev_t, ev_c, g22, c27]) ?_;refine AM.wp_skip ?_;refine then_n ?_;refine AM.wp_seq hp0 (AM.wp_reg hp0 ?_);refine wpo_seg hp0 2 (fun s H' => s.length = 56 ∧ gt s 0 = v_0 ∧ gt s 1 = v_1 ∧ gt s 13 = v_1 ∧ gt s 14 = .int .i64 (list.length : Int) ∧ gt s 15 = .int .i64 (k9 : Int) ∧ gt s 24 = v_0 ∧ gt s 25 = y19 ∧ H = H') (by simp only [↓runs, isCall, ↓reduceIte, ↓gd_true, ↓gd_false, evs, AV.cells, Nat.reduceEqDiff, Nat.reduceLT, reduceCtorEq, Nat.reduceAdd, sy, g0, g1, g6, g13, g14, g15, g22, hl]) ?_;rintro s _ ⟨hl, g0, g1, g13, g14, g15, g24, g25, rfl⟩;obtain ⟨r28, e29, hy11⟩ := bn hy11;refine wpo_callK hp0 rfl (ys := [v_0, y19]) (by simp only [evs, List.map_cons, List.map_nil, ev_t, ev_c, g24, g25]) (R_semigroupref19_Quotient hst h_0 h22 e29) ?_;rintro rv30 H ⟨W, w31, fg32, hst, o33⟩;replace h_0 := Rp.mono w31 h_0;replace h_1 := Rp.mono w31 h_1;replace h22 := Rp.mono w31 h22;refine wpo_seg hp0 0 (fun s H' => s.length = 56 ∧ gt s 0 = v_0 ∧ gt s 1 = v_1 ∧ gt s 13 = v_1 ∧ gt s 14 = .int .i64 (list.length : Int) ∧ gt s 15 = .int .i64 (k9 : Int) ∧ gt s 26 = rv30 ∧ H = H') (by simp only [↓runs, isCall, ↓reduceIte, ↓gd_true, ↓gd_false, evs, AV.cells, Nat.reduceEqDiff, Nat.reduceLT, reduceCtorEq, Nat.reduceAdd, sy, gt_other, g0, g1, g13, g14, g15, g24, g25, hl]) ?_;rintro s _ ⟨hl, g0, g1, g13, g14, g15, g26, rfl⟩;obtain ⟨W, w35, hst, h34⟩ := ow_frz hst o33;replace h_0 := Rp.mono w35 h_0;replace h_1 := Rp.mono w35 h_1;replace h22 := Rp.mono w35 h22;obtain ⟨r36, e37, hy11⟩ := bn hy11;refine wpo_callK hp0 rfl (ys := [rv30]) (by simp only [evs, List.map_cons, List.map_nil, ev_t, ev_c, g26]) (R_semigroupref22_Irreducible hst h34 e37) ?_;rintro rv38 H ⟨W, w39, v40, hst, rfl, h41⟩;replace h_0 := Rp.mono w39 h_0;replace h_1 := Rp.mono w39 h_1;replace h22 := Rp.mono w39 h22;replace h34 := Rp.mono w39 h34;refine wpo_seg hp0 5 (fun s H' => s.length = 56 ∧ gt s 0 = v_0 ∧ gt s 1 = v_1 ∧ gt s 8 = .bool r36.2 ∧ gt s 13 = v_1 ∧ gt s 14 = .int .i64 (list.length : Int) ∧ gt s 15 = .int .i64 (k9 : Int) ∧ H = H') (by simp only [↓runs, isCall, ↓reduceIte, ↓gd_true, ↓gd_false, evs, AV.cells, Nat.reduceEqDiff, Nat.reduceLT, reduceCtorEq, Nat.reduceAdd, sy, gt_other, g0, g1, g13, g14, g15, g26, hl]) ?_;rintro s _ ⟨hl, g0, g1, g8, g13, g14, g15, rfl⟩;refine wpo_nil (then_n ?_);refine AM.wp_seq hp0 (AM.wp_reg hp0 ?_);refine wpo_seg hp0 2 (fun s H' => s.length = 56 ∧ gt s 0 = v_0 ∧ gt s 1 = v_1 ∧ gt s 13 = v_1 ∧ gt s 14 = .int .i64 (list.length : Int) ∧ gt s 15 = .int .i64 (k9 : Int) ∧ gt s 31 = .bool (!r36.2) ∧ H = H') (by simp only [↓runs, isCall, ↓reduceIte, ↓gd_true, ↓gd_false, evs, AV.cells, Nat.reduceEqDiff, Nat.reduceLT, reduceCtorEq, Nat.reduceAdd, sy, g0, g1, g8, g13, g14, g15, hl]) ?_;rintro s _ ⟨hl, g0, g1, g13, g14, g15, g31, rfl⟩;refine wpo_nil (then_n ?_);rcases Bool.eq_false_or_eq_true (!r36.2) with c42 | c42
    ·replace hy11 := ifT c42 hy11;refine AM.wp_condT (by simp only [ev_t, ev_c, g31, c42]) ?_;refine AM.wp_seq hp0 (AM.wp_reg hp0 ?_);refine wpo_seg hp0 1 (fun s H' => s.length = 56 ∧ gt s 4 = .bool false ∧ H = H') (by simp only [↓runs, isCall, ↓reduceIte, ↓gd_true, ↓gd_false, evs, AV.cells, Nat.reduceEqDiff, Nat.reduceLT, reduceCtorEq, Nat.reduceAdd, sy, g0, g1, g13, g14, g15, g31, hl]) ?_;rintro s _ ⟨hl, g4, rfl⟩;refine wpo_nil (then_n ?_);refine AM.wp_ret ?_;refine rnd_r ?_;refine then_r ?_;obtain rfl := Option.some.inj hy11;have hx := hx12 _ rfl;subst hx;dsimp only at hp;obtain rfl := Option.some.inj hp;refine body_ret (vs := [.bool false]) (by simp only [rvs, f_semigroupref22_Check, Option.map_some, g4]) ?_;exact ⟨W, (((((w4.trans w15).trans w26).trans w31).trans w35).trans w39), hst, rfl⟩
    ·replace hy11 := ifF c42 hy11;refine AM.wp_condF (by simp only [ev_t, ev_c, g31, c42]) ?_;refine AM.wp_skip ?_;refine rnd_n ?_;obtain rfl := Option.some.inj hy11;exact ⟨_, rfl, hl, g15, g14, ⟨W, hl, g0, g1, g13, ((((w15.trans w26).trans w31).trans w35).trans w39), hst⟩⟩
  ·rintro x43 s Hn hz hI;replace hI : (fun s H' => ∃ (W' : AH), s.length = 56 ∧ gt s 0 = v_0 ∧ gt s 1 = v_1 ∧  Wle W W' ∧ St G W' H') s Hn := by
    rcases hI with ⟨hI, -⟩ | ⟨_, hI⟩
    ·obtain ⟨W2, hl, g0, g1, g13, w2, hst2⟩ := hI;exact ⟨W2, hl, g0, g1, w2, hst2⟩
    ·exact hI
   obtain ⟨H, rfl⟩ : ∃ K, K = Hn := ⟨_, rfl⟩;subst hz;dsimp only at hp hI;obtain ⟨W, hl, g0, g1, w44, hst⟩ := hI;replace h_0 := Rp.mono w44 h_0;replace h_1 := Rp.mono w44 h_1;refine then_n ?_;refine AM.wp_seq hp0 (AM.wp_seq hp0 (AM.wp_reg hp0 ?_));have f45 := fz_ln h_0;refine wpo_seg hp0 3 (fun s H' => s.length = 56 ∧ gt s 0 = v_0 ∧ gt s 1 = v_1 ∧ gt s 34 = .int .i64 (t.length : Int) ∧ gt s 35 = v_1 ∧ H = H') (by simp only [↓runs, isCall, ↓reduceIte, ↓gd_true, ↓gd_false, evs, AV.cells, Nat.reduceEqDiff, Nat.reduceLT, reduceCtorEq, Nat.reduceAdd, sy, f45, g0, g1, hl]) ?_;rintro s _ ⟨hl, g0, g1, g34, g35, rfl⟩;obtain ⟨r46, e47, hp⟩ := bn hp;refine wpo_callK hp0 rfl (ys := [.int .i64 (t.length : Int), v_1, .int .i64 (-1)]) (by simp only [evs, List.map_cons, List.map_nil, ev_t, ev_c, g34, g35]) (R_semigroupref22_meet hst h_1 e47) ?_;rintro rv48 H ⟨W, w49, fg50, hst, o51⟩;replace h_0 := Rp.mono w49 h_0;replace h_1 := Rp.mono w49 h_1;refine wpo_seg hp0 0 (fun s H' => s.length = 56 ∧ gt s 0 = v_0 ∧ gt s 1 = v_1 ∧ gt s 36 = rv48 ∧ H = H') (by simp only [↓runs, isCall, ↓reduceIte, ↓gd_true, ↓gd_false, evs, AV.cells, Nat.reduceEqDiff, Nat.reduceLT, reduceCtorEq, Nat.reduceAdd, sy, gt_other, g0, g1, g34, g35, hl]) ?_;rintro s _ ⟨hl, g0, g1, g36, rfl⟩;obtain ⟨W, w53, hst, h52⟩ := ow_frz hst o51;replace h_0 := Rp.mono w53 h_0;replace h_1 := Rp.mono w53 h_1;obtain ⟨r54, e55, hp⟩ := bn hp;refine wpo_callK hp0 rfl (ys := [rv48]) (by simp only [evs, List.map_cons, List.map_nil, ev_t, ev_c, g36]) (R_semigroupref03_Count hst h52 e55) ?_;rintro rv56 H ⟨W, w57, hst, rfl⟩;replace h_0 := Rp.mono w57 h_0;replace h_1 := Rp.mono w57 h_1;replace h52 := Rp.mono w57 h52;have f58 := fz_ln h_0;refine wpo_seg hp0 3 (fun s H' => s.length = 56 ∧ gt s 0 = v_0 ∧ gt s 1 = v_1 ∧ gt s 40 = .bool (!decide (r54 = (t.length : Int))) ∧ H = H') (by simp only [↓runs, isCall, ↓reduceIte, ↓gd_true, ↓gd_false, evs, AV.cells, Nat.reduceEqDiff, Nat.reduceLT, reduceCtorEq, Nat.reduceAdd, sy, gt_other, f58, g0, g1, g36, hl]) ?_;rintro s _ ⟨hl, g0, g1, g40, rfl⟩;refine wpo_nil (then_n ?_);rcases Bool.eq_false_or_eq_true (!decide (r54 = (t.length : Int))) with c59 | c59
   ·replace hp := ifT c59 hp;refine AM.wp_condT (by simp only [ev_t, ev_c, g40, c59]) ?_;refine AM.wp_seq hp0 (AM.wp_reg hp0 ?_);refine wpo_seg hp0 1 (fun s H' => s.length = 56 ∧ gt s 4 = .bool false ∧ H = H') (by simp only [↓runs, isCall, ↓reduceIte, ↓gd_true, ↓gd_false, evs, AV.cells, Nat.reduceEqDiff, Nat.reduceLT, reduceCtorEq, Nat.reduceAdd, sy, g0, g1, g40, hl]) ?_;rintro s _ ⟨hl, g4, rfl⟩;refine wpo_nil (then_n ?_);refine AM.wp_ret ?_;refine then_r ?_;obtain rfl := Option.some.inj hp;refine body_ret (vs := [.bool false]) (by simp only [rvs, f_semigroupref22_Check, Option.map_some, g4]) ?_;exact ⟨W, ((((w4.trans w44).trans w49).trans w53).trans w57), hst, rfl⟩
   ·replace hp := ifF c59 hp;refine AM.wp_condF (by simp only [ev_t, ev_c, g40, c59]) ?_;refine AM.wp_skip ?_;refine then_n ?_;refine AM.wp_seq hp0 (AM.wp_seq hp0 (AM.wp_reg hp0 ?_));have f60 := fz_ln h_1;refine wpo_seg hp0 3 (fun s H' => s.length = 56 ∧ gt s 0 = v_0 ∧ gt s 1 = v_1 ∧ gt s 42 = .int .i64 (list.length : Int) ∧ gt s 43 = .int .i64 0 ∧ H = H') (by simp only [↓runs, isCall, ↓reduceIte, ↓gd_true, ↓gd_false, evs, AV.cells, Nat.reduceEqDiff, Nat.reduceLT, reduceCtorEq, Nat.reduceAdd, sy, f60, g0, g1, g40, hl]) ?_;rintro s _ ⟨hl, g0, g1, g42, g43, rfl⟩;refine wpo_nil (then_n ?_);obtain ⟨z67, e68, hp⟩ := bn hp;refine range_ref hp0 56 list.length (fun k x => P_semigroupref22_Check_l61 list t k) (fun _ x s H' => ∃ (W' : AH), s.length = 56 ∧ gt s 0 = v_0 ∧ gt s 1 = v_1 ∧  Wle W W' ∧ St G W' H') (fun _ x s H' => ∃ (W' : AH), s.length = 56 ∧  Wle W W' ∧ St G W' H') e68 (fz_big h_1) rfl ?_ ?_ hl g43 g42 ?_ ?_
    ·intro k x s H d v hd h; rcases hd with rfl | rfl | rfl <;> simpa only [gt_other, pt_length, Nat.reduceEqDiff, not_false_eq_true] using h
    ·exact ⟨W, hl, g0, g1, .refl _, hst⟩
    ·intro k63 x62 y64 s H hk hI hl g43 g42 hy65 hx66;change P_semigroupref22_Check_l61 list t k63 = some y64 at hy65;unfold P_semigroupref22_Check_l61 at hy65;obtain ⟨W, hl, g0, g1, w69, hst⟩ := hI;replace h_0 := Rp.mono w69 h_0;replace h_1 := Rp.mono w69 h_1;refine AM.wp_seq hp0 (AM.wp_reg hp0 ?_);refine wpo_seg hp0 2 (fun s H' => s.length = 56 ∧ gt s 0 = v_0 ∧ gt s 1 = v_1 ∧ gt s 9 = .int .i64 (k63 : Int) ∧ gt s 42 = .int .i64 (list.length : Int) ∧ gt s 43 = .int .i64 (k63 : Int) ∧ H = H') (by simp only [↓runs, isCall, ↓reduceIte, ↓gd_true, ↓gd_false, evs, AV.cells, Nat.reduceEqDiff, Nat.reduceLT, reduceCtorEq, Nat.reduceAdd, sy, g0, g1, g42, g43, hl]) ?_;rintro s _ ⟨hl, g0, g1, g9, g42, g43, rfl⟩;refine wpo_nil (then_n ?_);refine AM.wp_seq hp0 (AM.wp_reg hp0 ?_);have f70 := fz_ln h_0;refine wpo_seg hp0 4 (fun s H' => s.length = 56 ∧ gt s 0 = v_0 ∧ gt s 1 = v_1 ∧ gt s 42 = .int .i64 (list.length : Int) ∧ gt s 43 = .int .i64 (k63 : Int) ∧ gt s 47 = .int .i64 (t.length : Int) ∧ gt s 48 = v_1 ∧ gt s 49 = .int .i64 (k63 : Int) ∧ H = H') (by simp only [↓runs, isCall, ↓reduceIte, ↓gd_true, ↓gd_false, evs, AV.cells, Nat.reduceEqDiff, Nat.reduceLT, reduceCtorEq, Nat.reduceAdd, sy, f70, g0, g1, g9, g42, g43, hl]) ?_;rintro s _ ⟨hl, g0, g1, g42, g43, g47, g48, g49, rfl⟩;obtain ⟨r71, e72, hy65⟩ := bn hy65;refine wpo_callK hp0 rfl (ys := [.int .i64 (t.length : Int), v_1, .int .i64 (k63 : Int)]) (by simp only [evs, List.map_cons, List.map_nil, ev_t, ev_c, g47, g48, g49]) (R_semigroupref22_meet hst h_1 e72) ?_;rintro rv73 H ⟨W, w74, fg75, hst, o76⟩;replace h_0 := Rp.mono w74 h_0;replace h_1 := Rp.mono w74 h_1;refine wpo_seg hp0 0 (fun s H' => s.length = 56 ∧ gt s 0 = v_0 ∧ gt s 1 = v_1 ∧ gt s 42 = .int .i64 (list.length : Int) ∧ gt s 43 = .int .i64 (k63 : Int) ∧ gt s 50 = rv73 ∧ H = H') (by simp only [↓runs, isCall, ↓reduceIte, ↓gd_true, ↓gd_false, evs, AV.cells, Nat.reduceEqDiff, Nat.reduceLT, reduceCtorEq, Nat.reduceAdd, sy, gt_other, g0, g1, g42, g43, g47, g48, g49, hl]) ?_;rintro s _ ⟨hl, g0, g1, g42, g43, g50, rfl⟩;obtain ⟨W, w78, hst, h77⟩ := ow_frz hst o76;replace h_0 := Rp.mono w78 h_0;replace h_1 := Rp.mono w78 h_1;obtain ⟨r79, e80, hy65⟩ := bn hy65;refine wpo_callK hp0 rfl (ys := [rv73]) (by simp only [evs, List.map_cons, List.map_nil, ev_t, ev_c, g50]) (R_semigroupref03_Count hst h77 e80) ?_;rintro rv81 H ⟨W, w82, hst, rfl⟩;replace h_0 := Rp.mono w82 h_0;replace h_1 := Rp.mono w82 h_1;replace h77 := Rp.mono w82 h77;have f83 := fz_ln h_0;refine wpo_seg hp0 3 (fun s H' => s.length = 56 ∧ gt s 0 = v_0 ∧ gt s 1 = v_1 ∧ gt s 42 = .int .i64 (list.length : Int) ∧ gt s 43 = .int .i64 (k63 : Int) ∧ gt s 54 = .bool (decide (r79 = (t.length : Int))) ∧ H = H') (by simp only [↓runs, isCall, ↓reduceIte, ↓gd_true, ↓gd_false, evs, AV.cells, Nat.reduceEqDiff, Nat.reduceLT, reduceCtorEq, Nat.reduceAdd, sy, gt_other, f83, g0, g1, g42, g43, g50, hl]) ?_;rintro s _ ⟨hl, g0, g1, g42, g43, g54, rfl⟩;refine wpo_nil (then_n ?_);rcases Bool.eq_false_or_eq_true (decide (r79 = (t.length : Int))) with c84 | c84
     ·replace hy65 := ifT c84 hy65;refine AM.wp_condT (by simp only [ev_t, ev_c, g54, c84]) ?_;refine AM.wp_seq hp0 (AM.wp_reg hp0 ?_);refine wpo_seg hp0 1 (fun s H' => s.length = 56 ∧ gt s 4 = .bool false ∧ H = H') (by simp only [↓runs, isCall, ↓reduceIte, ↓gd_true, ↓gd_false, evs, AV.cells, Nat.reduceEqDiff, Nat.reduceLT, reduceCtorEq, Nat.reduceAdd, sy, g0, g1, g42, g43, g54, hl]) ?_;rintro s _ ⟨hl, g4, rfl⟩;refine wpo_nil (then_n ?_);refine AM.wp_ret ?_;refine rnd_r ?_;refine then_r ?_;obtain rfl := Option.some.inj hy65;have hx := hx66 _ rfl;subst hx;dsimp only at hp;obtain rfl := Option.some.inj hp;refine body_ret (vs := [.bool false]) (by simp only [rvs, f_semigroupref22_Check, Option.map_some, g4]) ?_;exact ⟨W, ((((((((w4.trans w44).trans w49).trans w53).trans w57).trans w69).trans w74).trans w78).trans w82), hst, rfl⟩
     ·replace hy65 := ifF c84 hy65;refine AM.wp_condF (by simp only [ev_t, ev_c, g54, c84]) ?_;refine AM.wp_skip ?_;refine rnd_n ?_;obtain rfl := Option.some.inj hy65;exact ⟨_, rfl, hl, g43, g42, ⟨W, hl, g0, g1, (((w69.trans w74).trans w78).trans w82), hst⟩⟩
    ·rintro x85 s Hn hz hI;replace hI : (fun s H' => ∃ (W' : AH), s.length = 56 ∧  Wle W W' ∧ St G W' H') s Hn := by
      rcases hI with ⟨hI, -⟩ | ⟨_, hI⟩
      ·obtain ⟨W2, hl, g0, g1, w2, hst2⟩ := hI;exact ⟨W2, hl, w2, hst2⟩
      ·exact hI
     obtain ⟨H, rfl⟩ : ∃ K, K = Hn := ⟨_, rfl⟩;subst hz;dsimp only at hp hI;obtain ⟨W, hl, w86, hst⟩ := hI;replace h_0 := Rp.mono w86 h_0;replace h_1 := Rp.mono w86 h_1;refine then_n ?_;refine AM.wp_seq hp0 (AM.wp_reg hp0 ?_);refine wpo_seg hp0 1 (fun s H' => s.length = 56 ∧ gt s 4 = .bool true ∧ H = H') (by simp only [↓runs, isCall, ↓reduceIte, ↓gd_true, ↓gd_false, evs, AV.cells, Nat.reduceEqDiff, Nat.reduceLT, reduceCtorEq, Nat.reduceAdd, sy, hl]) ?_;rintro s _ ⟨hl, g4, rfl⟩;refine wpo_nil (then_n ?_);refine AM.wp_ret ?_;obtain rfl := Option.some.inj hp;refine body_ret (vs := [.bool true]) (by simp only [rvs, f_semigroupref22_Check, Option.map_some, g4]) ?_;exact ⟨W, (((((w4.trans w44).trans w49).trans w53).trans w57).trans w86), hst, rfl⟩

end Go.Proofs.Ytmdpejgnkoneoaa.Pu
