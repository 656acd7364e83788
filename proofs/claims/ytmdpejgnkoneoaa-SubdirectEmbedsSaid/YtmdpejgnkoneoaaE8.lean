/- Part 8 of the proof that the law SubdirectEmbeds holds: words and lemmas it rests on. No condition. -/
import Derived.Test.YtmdpejgnkoneoaaE5
import Derived.Test.YtmdpejgnkoneoaaE7
import Derived.Test.YtmdpejgnkoneoaaE6
set_option linter.unusedSimpArgs false
set_option linter.unusedVariables false
set_option linter.unnecessarySimpa false
set_option linter.unusedSectionVars false
set_option maxRecDepth 100000
set_option maxHeartbeats 4000000
namespace Go.Proofs.Ytmdpejgnkoneoaa.Pu
open Go Go.AM Go.Proofs.Ytmdpejgnkoneoaa.Code

noncomputable def P_congr_is_l43 (k21 : Nat) (p_ : List Int) (side : Int) (t : List (List Int)) (x35 : Int) (k45 : Nat) : Option (Lp (Unit) (Bool)) :=
 Option.bind (
  if !decide (side = 2) then
   Option.bind (gi t (k45 : Int)) fun x55 =>
   Option.bind (gi x55 (k21 : Int)) fun x62 =>
   Option.bind (gi p_ x62) fun x69 =>
   Option.bind (gi x55 x35) fun x76 =>
   Option.bind (gi p_ x76) fun x83 =>
   if !decide (x69 = x83) then
    some true
   else
    if !decide (side = 1) then
     Option.bind (gi t (k21 : Int)) fun x92 =>
     Option.bind (gi x92 (k45 : Int)) fun x99 =>
     Option.bind (gi p_ x99) fun x106 =>
     Option.bind (gi t x35) fun x113 =>
     Option.bind (gi x113 (k45 : Int)) fun x120 =>
     Option.bind (gi p_ x120) fun x127 =>
     some (!decide (x106 = x127))
    else
     some false
  else
   if !decide (side = 1) then
    Option.bind (gi t (k21 : Int)) fun x135 =>
    Option.bind (gi x135 (k45 : Int)) fun x142 =>
    Option.bind (gi p_ x142) fun x149 =>
    Option.bind (gi t x35) fun x156 =>
    Option.bind (gi x156 (k45 : Int)) fun x163 =>
    Option.bind (gi p_ x163) fun x170 =>
    some (!decide (x149 = x170))
   else
    some false) fun z52 =>
 if z52 then
  some (.ex false)
 else
  some (.go ())
noncomputable def P_congr_is_l19 (p_ : List Int) (r12 : (List Int)) (side : Int) (t : List (List Int)) (k21 : Nat) : Option (Lp (Unit) (Bool)) :=
 Option.bind (gi p_ (k21 : Int)) fun x28 =>
 Option.bind (gi r12 x28) fun x35 =>
 Option.bind (forR t.length (fun k x => P_congr_is_l43 k21 p_ side t x35 k) ()) fun z49 =>
 match z49 with
 | .inl x179 =>
  some (.go ())
 | .inr b => some (.ex b)
noncomputable def P_congr_is (t : List (List Int)) (p_ : List Int) (side : Int) : Option (Bool) :=
 Option.bind (
  if !decide ((p_.length : Int) = (t.length : Int)) then
   some true
  else
   Option.bind (P_partition_Valid p_) fun r6 =>
   some (!r6)) fun z1 =>
 if z1 then
  some false
 else
  Option.bind (P_congr_firsts p_) fun r12 =>
  Option.bind (forR p_.length (fun k x => P_congr_is_l19 p_ r12 side t k) ()) fun z25 =>
  match z25 with
  | .inl x181 =>
   some true
  | .inr b => some b
theorem R_congr_is {G : List Frag} {W H : AH} {v_0 v_1 : AV} {t : List (List Int)} {p_ : List Int} {side : Int} (hst : St G W H) (h_0 : Rp.rv W v_0 t) (h_1 : Rp.rv W v_1 p_) {r : Bool} (hp : P_congr_is t p_ side = some r) :
  wpc E0 N_congr_is [v_0, v_1, .int .i64 side] H fun rv H' => ∃ W', Wle W W' ∧ St G W' H' ∧ rv = .bool r := by
 refine enterN (F := f_congr_is) rfl (Nat.le_of_ble_eq_true rfl) fun s hl hg => ?_;replace hl : s.length = 94 := hl;have g0 : gt s 0 = v_0 := hg 0 (Nat.le_of_ble_eq_true rfl);have g1 : gt s 1 = v_1 := hg 1 (Nat.le_of_ble_eq_true rfl);have g2 : gt s 2 = .int .i64 side := hg 2 (Nat.le_of_ble_eq_true rfl);clear hg;unfold P_congr_is at hp;show wp E0 c_congr_is s H _;unfold c_congr_is;refine AM.wp_seq hp0 (AM.wp_reg hp0 ?_);refine wpo_seg hp0 1 (fun s H' => s.length = 94 ∧ gt s 0 = v_0 ∧ gt s 1 = v_1 ∧ gt s 2 = .int .i64 side ∧ H = H') (by simp only [↓runs, isCall, ↓reduceIte, ↓gd_true, ↓gd_false, evs, AV.cells, Nat.reduceEqDiff, Nat.reduceLT, reduceCtorEq, Nat.reduceAdd, sy, g0, g1, g2, hl]) ?_;rintro s _ ⟨hl, g0, g1, g2, rfl⟩;refine wpo_nil (then_n ?_);refine AM.wp_seq hp0 (AM.wp_seq hp0 ?_);obtain ⟨z1, hj2, hp⟩ := bn hp;refine AM.wp_regK hp0 (fun s H' => ∃ (W' : AH), s.length = 94 ∧ gt s 21 = .bool z1 ∧ gt s 0 = v_0 ∧ gt s 1 = v_1 ∧ gt s 2 = .int .i64 side ∧  Wle W W' ∧ St G W' H') ?_ ?_
 ·have f3 := fz_ln h_1;have f4 := fz_ln h_0;rcases Bool.eq_false_or_eq_true (!decide ((p_.length : Int) = (t.length : Int))) with c5 | c5
  ·replace hj2 := ifT c5 hj2;refine wpo_seg hp0 10 (fun s H' => s.length = 94 ∧ gt s 0 = v_0 ∧ gt s 1 = v_1 ∧ gt s 2 = .int .i64 side ∧ gt s 21 = .bool true ∧ H = H') (by simp only [↓runs, isCall, ↓reduceIte, ↓gd_true, ↓gd_false, evs, AV.cells, Nat.reduceEqDiff, Nat.reduceLT, reduceCtorEq, Nat.reduceAdd, sy, f3, f4, c5, g0, g1, g2, hl]) ?_;rintro s _ ⟨hl, g0, g1, g2, g21, rfl⟩;refine wpo_nil ?_;obtain rfl := Option.some.inj hj2;exact ⟨W, hl, g21, g0, g1, g2, .refl _, hst⟩
  ·replace hj2 := ifF c5 hj2;refine wpo_seg hp0 7 (fun s H' => s.length = 94 ∧ gt s 0 = v_0 ∧ gt s 1 = v_1 ∧ gt s 2 = .int .i64 side ∧ gt s 17 = .bool false ∧ gt s 18 = v_1 ∧ H = H') (by simp only [↓runs, isCall, ↓reduceIte, ↓gd_true, ↓gd_false, evs, AV.cells, Nat.reduceEqDiff, Nat.reduceLT, reduceCtorEq, Nat.reduceAdd, sy, f3, f4, c5, g0, g1, g2, hl]) ?_;rintro s _ ⟨hl, g0, g1, g2, g17, g18, rfl⟩;obtain ⟨r6, e7, hj2⟩ := bn hj2;refine wpo_callK hp0 (by simp only [wanted, g17, beq_self_eq_true]) (ys := [v_1]) (by simp only [evs, List.map_cons, List.map_nil, ev_t, ev_c, g18]) (R_partition_Valid hst h_1 e7) ?_;rintro rv8 H ⟨W, w9, hst, rfl⟩;replace h_0 := Rp.mono w9 h_0;replace h_1 := Rp.mono w9 h_1;refine wpo_seg hp0 2 (fun s H' => s.length = 94 ∧ gt s 0 = v_0 ∧ gt s 1 = v_1 ∧ gt s 2 = .int .i64 side ∧ gt s 21 = .bool (!r6) ∧ H = H') (by simp only [↓runs, isCall, ↓reduceIte, ↓gd_true, ↓gd_false, evs, AV.cells, Nat.reduceEqDiff, Nat.reduceLT, reduceCtorEq, Nat.reduceAdd, sy, gt_other, g0, g1, g2, g17, g18, hl]) ?_;rintro s _ ⟨hl, g0, g1, g2, g21, rfl⟩;refine wpo_nil ?_;obtain rfl := Option.some.inj hj2;exact ⟨W, hl, g21, g0, g1, g2, w9, hst⟩
 ·rintro s H ⟨W, hl, g21, g0, g1, g2, w10, hst⟩;replace h_0 := Rp.mono w10 h_0;replace h_1 := Rp.mono w10 h_1;refine then_n ?_;rcases Bool.eq_false_or_eq_true (z1) with c11 | c11
  ·replace hp := ifT c11 hp;refine AM.wp_condT (by simp only [ev_t, ev_c, g21, c11]) ?_;refine AM.wp_seq hp0 (AM.wp_reg hp0 ?_);refine wpo_seg hp0 1 (fun s H' => s.length = 94 ∧ gt s 6 = .bool false ∧ H = H') (by simp only [↓runs, isCall, ↓reduceIte, ↓gd_true, ↓gd_false, evs, AV.cells, Nat.reduceEqDiff, Nat.reduceLT, reduceCtorEq, Nat.reduceAdd, sy, g0, g1, g2, g21, hl]) ?_;rintro s _ ⟨hl, g6, rfl⟩;refine wpo_nil (then_n ?_);refine AM.wp_ret ?_;refine then_r ?_;obtain rfl := Option.some.inj hp;refine body_ret (vs := [.bool false]) (by simp only [rvs, f_congr_is, Option.map_some, g6]) ?_;exact ⟨W, w10, hst, rfl⟩
  ·replace hp := ifF c11 hp;refine AM.wp_condF (by simp only [ev_t, ev_c, g21, c11]) ?_;refine AM.wp_skip ?_;refine then_n ?_;refine AM.wp_seq hp0 (AM.wp_reg hp0 ?_);refine wpo_seg hp0 1 (fun s H' => s.length = 94 ∧ gt s 0 = v_0 ∧ gt s 1 = v_1 ∧ gt s 2 = .int .i64 side ∧ gt s 22 = v_1 ∧ H = H') (by simp only [↓runs, isCall, ↓reduceIte, ↓gd_true, ↓gd_false, evs, AV.cells, Nat.reduceEqDiff, Nat.reduceLT, reduceCtorEq, Nat.reduceAdd, sy, g0, g1, g2, g21, hl]) ?_;rintro s _ ⟨hl, g0, g1, g2, g22, rfl⟩;obtain ⟨r12, e13, hp⟩ := bn hp;refine wpo_callK hp0 rfl (ys := [v_1]) (by simp only [evs, List.map_cons, List.map_nil, ev_t, ev_c, g22]) (R_congr_firsts hst h_1 e13) ?_;rintro rv14 H ⟨W, w15, fg16, hst, o17⟩;replace h_0 := Rp.mono w15 h_0;replace h_1 := Rp.mono w15 h_1;refine wpo_seg hp0 1 (fun s H' => s.length = 94 ∧ gt s 0 = v_0 ∧ gt s 1 = v_1 ∧ gt s 2 = .int .i64 side ∧ gt s 7 = rv14 ∧ H = H') (by simp only [↓runs, isCall, ↓reduceIte, ↓gd_true, ↓gd_false, evs, AV.cells, Nat.reduceEqDiff, Nat.reduceLT, reduceCtorEq, Nat.reduceAdd, sy, gt_other, g0, g1, g2, g22, hl]) ?_;rintro s _ ⟨hl, g0, g1, g2, g7, rfl⟩;refine wpo_nil (then_n ?_);refine AM.wp_seq hp0 (AM.wp_seq hp0 (AM.wp_reg hp0 ?_));have f18 := fz_ln h_1;refine wpo_seg hp0 3 (fun s H' => s.length = 94 ∧ gt s 0 = v_0 ∧ gt s 1 = v_1 ∧ gt s 2 = .int .i64 side ∧ gt s 7 = rv14 ∧ gt s 24 = v_1 ∧ gt s 25 = .int .i64 (p_.length : Int) ∧ gt s 26 = .int .i64 0 ∧ H = H') (by simp only [↓runs, isCall, ↓reduceIte, ↓gd_true, ↓gd_false, evs, AV.cells, Nat.reduceEqDiff, Nat.reduceLT, reduceCtorEq, Nat.reduceAdd, sy, f18, g0, g1, g2, g7, hl]) ?_;rintro s _ ⟨hl, g0, g1, g2, g7, g24, g25, g26, rfl⟩;refine wpo_nil (then_n ?_);obtain ⟨z25, e26, hp⟩ := bn hp;refine range_ref hp0 94 p_.length (fun k x => P_congr_is_l19 p_ r12 side t k) (fun _ x s H' => s.length = 94 ∧ gt s 0 = v_0 ∧ gt s 1 = v_1 ∧ gt s 2 = .int .i64 side ∧ gt s 7 = rv14 ∧ gt s 24 = v_1 ∧ H = H') (fun _ x s H' => s.length = 94 ∧ H = H') e26 (fz_big h_1) rfl ?_ ?_ hl g26 g25 ?_ ?_
   ·intro k x s H d v hd h; rcases hd with rfl | rfl | rfl <;> simpa only [gt_other, pt_length, Nat.reduceEqDiff, not_false_eq_true] using h
   ·exact ⟨hl, g0, g1, g2, g7, g24, rfl⟩
   ·intro k21 x20 y22 s H hk hI hl g26 g25 hy23 hx24;change P_congr_is_l19 p_ r12 side t k21 = some y22 at hy23;unfold P_congr_is_l19 at hy23;obtain ⟨hl, g0, g1, g2, g7, g24, rfl⟩ := hI;refine AM.wp_seq hp0 (AM.wp_reg hp0 ?_);obtain ⟨x28, e29, hy23⟩ := bn hy23;obtain ⟨p30, _, f32, f33, rfl⟩ := fz_at (k := .i64) hst h_1 e29 rfl;refine wpo_seg hp0 5 (fun s H' => s.length = 94 ∧ gt s 0 = v_0 ∧ gt s 1 = v_1 ∧ gt s 2 = .int .i64 side ∧ gt s 7 = rv14 ∧ gt s 8 = .int .i64 (k21 : Int) ∧ gt s 9 = .int .i64 x28 ∧ gt s 24 = v_1 ∧ gt s 25 = .int .i64 (p_.length : Int) ∧ gt s 26 = .int .i64 (k21 : Int) ∧ H = H') (by simp only [↓runs, isCall, ↓reduceIte, ↓gd_true, ↓gd_false, evs, AV.cells, Nat.reduceEqDiff, Nat.reduceLT, reduceCtorEq, Nat.reduceAdd, sy, f32, f33, g0, g1, g2, g7, g24, g25, g26, hl]) ?_;rintro s _ ⟨hl, g0, g1, g2, g7, g8, g9, g24, g25, g26, rfl⟩;refine wpo_nil (then_n ?_);refine AM.wp_seq hp0 (AM.wp_reg hp0 ?_);obtain ⟨x35, e36, hy23⟩ := bn hy23;obtain ⟨p37, _, f39, f40, rfl⟩ := ow_at (k := .i64) hst (.head _) o17 e36 rfl;refine wpo_seg hp0 5 (fun s H' => s.length = 94 ∧ gt s 0 = v_0 ∧ gt s 1 = v_1 ∧ gt s 2 = .int .i64 side ∧ gt s 7 = rv14 ∧ gt s 8 = .int .i64 (k21 : Int) ∧ gt s 10 = .int .i64 x35 ∧ gt s 24 = v_1 ∧ gt s 25 = .int .i64 (p_.length : Int) ∧ gt s 26 = .int .i64 (k21 : Int) ∧ H = H') (by simp only [↓runs, isCall, ↓reduceIte, ↓gd_true, ↓gd_false, evs, AV.cells, Nat.reduceEqDiff, Nat.reduceLT, reduceCtorEq, Nat.reduceAdd, sy, f39, f40, g0, g1, g2, g7, g8, g9, g24, g25, g26, hl]) ?_;rintro s _ ⟨hl, g0, g1, g2, g7, g8, g10, g24, g25, g26, rfl⟩;refine wpo_nil (then_n ?_);refine AM.wp_seq hp0 (AM.wp_reg hp0 ?_);have f42 := fz_ln h_0;refine wpo_seg hp0 3 (fun s H' => s.length = 94 ∧ gt s 0 = v_0 ∧ gt s 1 = v_1 ∧ gt s 2 = .int .i64 side ∧ gt s 7 = rv14 ∧ gt s 8 = .int .i64 (k21 : Int) ∧ gt s 10 = .int .i64 x35 ∧ gt s 24 = v_1 ∧ gt s 25 = .int .i64 (p_.length : Int) ∧ gt s 26 = .int .i64 (k21 : Int) ∧ gt s 36 = .int .i64 (t.length : Int) ∧ gt s 37 = .int .i64 0 ∧ H = H') (by simp only [↓runs, isCall, ↓reduceIte, ↓gd_true, ↓gd_false, evs, AV.cells, Nat.reduceEqDiff, Nat.reduceLT, reduceCtorEq, Nat.reduceAdd, sy, f42, g0, g1, g2, g7, g8, g10, g24, g25, g26, hl]) ?_;rintro s _ ⟨hl, g0, g1, g2, g7, g8, g10, g24, g25, g26, g36, g37, rfl⟩;refine wpo_nil (then_n ?_);obtain ⟨z49, e50, hy23⟩ := bn hy23;refine range_ref hp0 94 t.length (fun k x => P_congr_is_l43 k21 p_ side t x35 k) (fun _ x s H' => s.length = 94 ∧ gt s 0 = v_0 ∧ gt s 1 = v_1 ∧ gt s 2 = .int .i64 side ∧ gt s 7 = rv14 ∧ gt s 8 = .int .i64 (k21 : Int) ∧ gt s 10 = .int .i64 x35 ∧ gt s 24 = v_1 ∧ gt s 25 = .int .i64 (p_.length : Int) ∧ gt s 26 = .int .i64 (k21 : Int) ∧ H = H') (fun _ x s H' => s.length = 94 ∧ gt s 0 = v_0 ∧ gt s 1 = v_1 ∧ gt s 2 = .int .i64 side ∧ gt s 7 = rv14 ∧ gt s 24 = v_1 ∧ gt s 25 = .int .i64 (p_.length : Int) ∧ gt s 26 = .int .i64 (k21 : Int) ∧ H = H') e50 (fz_big h_0) rfl ?_ ?_ hl g37 g36 ?_ ?_
    ·intro k x s H d v hd h; rcases hd with rfl | rfl | rfl <;> simpa only [gt_other, pt_length, Nat.reduceEqDiff, not_false_eq_true] using h
    ·exact ⟨hl, g0, g1, g2, g7, g8, g10, g24, g25, g26, rfl⟩
    ·intro k45 x44 y46 s H hk hI hl g37 g36 hy47 hx48;change P_congr_is_l43 k21 p_ side t x35 k45 = some y46 at hy47;unfold P_congr_is_l43 at hy47;obtain ⟨hl, g0, g1, g2, g7, g8, g10, g24, g25, g26, rfl⟩ := hI;refine AM.wp_seq hp0 (AM.wp_reg hp0 ?_);refine wpo_seg hp0 2 (fun s H' => s.length = 94 ∧ gt s 0 = v_0 ∧ gt s 1 = v_1 ∧ gt s 2 = .int .i64 side ∧ gt s 7 = rv14 ∧ gt s 8 = .int .i64 (k21 : Int) ∧ gt s 10 = .int .i64 x35 ∧ gt s 11 = .int .i64 (k45 : Int) ∧ gt s 24 = v_1 ∧ gt s 25 = .int .i64 (p_.length : Int) ∧ gt s 26 = .int .i64 (k21 : Int) ∧ gt s 36 = .int .i64 (t.length : Int) ∧ gt s 37 = .int .i64 (k45 : Int) ∧ H = H') (by simp only [↓runs, isCall, ↓reduceIte, ↓gd_true, ↓gd_false, evs, AV.cells, Nat.reduceEqDiff, Nat.reduceLT, reduceCtorEq, Nat.reduceAdd, sy, g0, g1, g2, g7, g8, g10, g24, g25, g26, g36, g37, hl]) ?_;rintro s _ ⟨hl, g0, g1, g2, g7, g8, g10, g11, g24, g25, g26, g36, g37, rfl⟩;refine wpo_nil (then_n ?_);refine AM.wp_seq hp0 ?_;obtain ⟨z52, hj53, hy47⟩ := bn hy47;refine AM.wp_regK hp0 (fun s H' => s.length = 94 ∧ gt s 91 = .bool z52 ∧ gt s 0 = v_0 ∧ gt s 1 = v_1 ∧ gt s 2 = .int .i64 side ∧ gt s 7 = rv14 ∧ gt s 8 = .int .i64 (k21 : Int) ∧ gt s 10 = .int .i64 x35 ∧ gt s 24 = v_1 ∧ gt s 25 = .int .i64 (p_.length : Int) ∧ gt s 26 = .int .i64 (k21 : Int) ∧ gt s 36 = .int .i64 (t.length : Int) ∧ gt s 37 = .int .i64 (k45 : Int) ∧ H = H') ?_ ?_
     ·rcases Bool.eq_false_or_eq_true (!decide (side = 2)) with c54 | c54
      ·replace hj53 := ifT c54 hj53;obtain ⟨x55, e56, hj53⟩ := bn hj53;obtain ⟨p57, y58, f59, f60, h61⟩ := fz_at (k := .i64) hst h_0 e56 rfl;obtain ⟨x62, e63, hj53⟩ := bn hj53;obtain ⟨p64, _, f66, f67, rfl⟩ := fz_at (k := .i64) hst h61 e63 rfl;obtain ⟨x69, e70, hj53⟩ := bn hj53;obtain ⟨p71, _, f73, f74, rfl⟩ := fz_at (k := .i64) hst h_1 e70 rfl;obtain ⟨x76, e77, hj53⟩ := bn hj53;obtain ⟨p78, _, f80, f81, rfl⟩ := fz_at (k := .i64) hst h61 e77 rfl;obtain ⟨x83, e84, hj53⟩ := bn hj53;obtain ⟨p85, _, f87, f88, rfl⟩ := fz_at (k := .i64) hst h_1 e84 rfl;rcases Bool.eq_false_or_eq_true (!decide (x69 = x83)) with c90 | c90
       ·replace hj53 := ifT c90 hj53;refine wpo_seg hp0 52 (fun s H' => s.length = 94 ∧ gt s 0 = v_0 ∧ gt s 1 = v_1 ∧ gt s 2 = .int .i64 side ∧ gt s 7 = rv14 ∧ gt s 8 = .int .i64 (k21 : Int) ∧ gt s 10 = .int .i64 x35 ∧ gt s 24 = v_1 ∧ gt s 25 = .int .i64 (p_.length : Int) ∧ gt s 26 = .int .i64 (k21 : Int) ∧ gt s 36 = .int .i64 (t.length : Int) ∧ gt s 37 = .int .i64 (k45 : Int) ∧ gt s 91 = .bool true ∧ H = H') (by simp (maxSteps := 1000000) only [↓runs, isCall, ↓reduceIte, ↓gd_true, ↓gd_false, evs, AV.cells, Nat.reduceEqDiff, Nat.reduceLT, reduceCtorEq, Nat.reduceAdd, sy, c54, f59, f60, f66, f67, f73, f74, f80, f81, f87, f88, c90, g0, g1, g2, g7, g8, g10, g11, g24, g25, g26, g36, g37, hl]) ?_;rintro s _ ⟨hl, g0, g1, g2, g7, g8, g10, g24, g25, g26, g36, g37, g91, rfl⟩;refine wpo_nil ?_;obtain rfl := Option.some.inj hj53;exact ⟨hl, g91, g0, g1, g2, g7, g8, g10, g24, g25, g26, g36, g37, rfl⟩
       ·replace hj53 := ifF c90 hj53;rcases Bool.eq_false_or_eq_true (!decide (side = 1)) with c91 | c91
        ·replace hj53 := ifT c91 hj53;obtain ⟨x92, e93, hj53⟩ := bn hj53;obtain ⟨p94, y95, f96, f97, h98⟩ := fz_at (k := .i64) hst h_0 e93 rfl;obtain ⟨x99, e100, hj53⟩ := bn hj53;obtain ⟨p101, _, f103, f104, rfl⟩ := fz_at (k := .i64) hst h98 e100 rfl;obtain ⟨x106, e107, hj53⟩ := bn hj53;obtain ⟨p108, _, f110, f111, rfl⟩ := fz_at (k := .i64) hst h_1 e107 rfl;obtain ⟨x113, e114, hj53⟩ := bn hj53;obtain ⟨p115, y116, f117, f118, h119⟩ := fz_at (k := .i64) hst h_0 e114 rfl;obtain ⟨x120, e121, hj53⟩ := bn hj53;obtain ⟨p122, _, f124, f125, rfl⟩ := fz_at (k := .i64) hst h119 e121 rfl;obtain ⟨x127, e128, hj53⟩ := bn hj53;obtain ⟨p129, _, f131, f132, rfl⟩ := fz_at (k := .i64) hst h_1 e128 rfl;refine wpo_seg hp0 52 (fun s H' => s.length = 94 ∧ gt s 0 = v_0 ∧ gt s 1 = v_1 ∧ gt s 2 = .int .i64 side ∧ gt s 7 = rv14 ∧ gt s 8 = .int .i64 (k21 : Int) ∧ gt s 10 = .int .i64 x35 ∧ gt s 24 = v_1 ∧ gt s 25 = .int .i64 (p_.length : Int) ∧ gt s 26 = .int .i64 (k21 : Int) ∧ gt s 36 = .int .i64 (t.length : Int) ∧ gt s 37 = .int .i64 (k45 : Int) ∧ gt s 91 = .bool (!decide (x106 = x127)) ∧ H = H') (by simp (maxSteps := 1000000) only [↓runs, isCall, ↓reduceIte, ↓gd_true, ↓gd_false, evs, AV.cells, Nat.reduceEqDiff, Nat.reduceLT, reduceCtorEq, Nat.reduceAdd, sy, c54, f59, f60, f66, f67, f73, f74, f80, f81, f87, f88, c90, c91, f96, f97, f103, f104, f110, f111, f117, f118, f124, f125, f131, f132, g0, g1, g2, g7, g8, g10, g11, g24, g25, g26, g36, g37, hl]) ?_;rintro s _ ⟨hl, g0, g1, g2, g7, g8, g10, g24, g25, g26, g36, g37, g91, rfl⟩;refine wpo_nil ?_;obtain rfl := Option.some.inj hj53;exact ⟨hl, g91, g0, g1, g2, g7, g8, g10, g24, g25, g26, g36, g37, rfl⟩
        ·replace hj53 := ifF c91 hj53;refine wpo_seg hp0 52 (fun s H' => s.length = 94 ∧ gt s 0 = v_0 ∧ gt s 1 = v_1 ∧ gt s 2 = .int .i64 side ∧ gt s 7 = rv14 ∧ gt s 8 = .int .i64 (k21 : Int) ∧ gt s 10 = .int .i64 x35 ∧ gt s 24 = v_1 ∧ gt s 25 = .int .i64 (p_.length : Int) ∧ gt s 26 = .int .i64 (k21 : Int) ∧ gt s 36 = .int .i64 (t.length : Int) ∧ gt s 37 = .int .i64 (k45 : Int) ∧ gt s 91 = .bool false ∧ H = H') (by simp (maxSteps := 1000000) only [↓runs, isCall, ↓reduceIte, ↓gd_true, ↓gd_false, evs, AV.cells, Nat.reduceEqDiff, Nat.reduceLT, reduceCtorEq, Nat.reduceAdd, sy, c54, f59, f60, f66, f67, f73, f74, f80, f81, f87, f88, c90, c91, g0, g1, g2, g7, g8, g10, g11, g24, g25, g26, g36, g37, hl]) ?_;rintro s _ ⟨hl, g0, g1, g2, g7, g8, g10, g24, g25, g26, g36, g37, g91, rfl⟩;refine wpo_nil ?_;obtain rfl := Option.some.inj hj53;exact ⟨hl, g91, g0, g1, g2, g7, g8, g10, g24, g25, g26, g36, g37, rfl⟩
      ·replace hj53 := ifF c54 hj53;rcases Bool.eq_false_or_eq_true (!decide (side = 1)) with c134 | c134
       ·replace hj53 := ifT c134 hj53;obtain ⟨x135, e136, hj53⟩ := bn hj53;obtain ⟨p137, y138, f139, f140, h141⟩ := fz_at (k := .i64) hst h_0 e136 rfl;obtain ⟨x142, e143, hj53⟩ := bn hj53;obtain ⟨p144, _, f146, f147, rfl⟩ := fz_at (k := .i64) hst h141 e143 rfl;obtain ⟨x149, e150, hj53⟩ := bn hj53;obtain ⟨p151, _, f153, f154, rfl⟩ := fz_at (k := .i64) hst h_1 e150 rfl;obtain ⟨x156, e157, hj53⟩ := bn hj53;obtain ⟨p158, y159, f160, f161, h162⟩ := fz_at (k := .i64) hst h_0 e157 rfl;obtain ⟨x163, e164, hj53⟩ := bn hj53;obtain ⟨p165, _, f167, f168, rfl⟩ := fz_at (k := .i64) hst h162 e164 rfl;obtain ⟨x170, e171, hj53⟩ := bn hj53;obtain ⟨p172, _, f174, f175, rfl⟩ := fz_at (k := .i64) hst h_1 e171 rfl;refine wpo_seg hp0 52 (fun s H' => s.length = 94 ∧ gt s 0 = v_0 ∧ gt s 1 = v_1 ∧ gt s 2 = .int .i64 side ∧ gt s 7 = rv14 ∧ gt s 8 = .int .i64 (k21 : Int) ∧ gt s 10 = .int .i64 x35 ∧ gt s 24 = v_1 ∧ gt s 25 = .int .i64 (p_.length : Int) ∧ gt s 26 = .int .i64 (k21 : Int) ∧ gt s 36 = .int .i64 (t.length : Int) ∧ gt s 37 = .int .i64 (k45 : Int) ∧ gt s 91 = .bool (!decide (x149 = x170)) ∧ H = H') (by simp (maxSteps := 1000000) only [↓runs, isCall, ↓reduceIte, ↓gd_true, ↓gd_false, evs, AV.cells, Nat.reduceEqDiff, Nat.reduceLT, reduceCtorEq, Nat.reduceAdd, sy, c54, c134, f139, f140, f146, f147, f153, f154, f160, f161, f167, f168, f174, f175, g0, g1, g2, g7, g8, g10, g11, g24, g25, g26, g36, g37, hl]) ?_;rintro s _ ⟨hl, g0, g1, g2, g7, g8, g10, g24, g25, g26, g36, g37, g91, rfl⟩;refine wpo_nil ?_;obtain rfl := Option.some.inj hj53;exact ⟨hl, g91, g0, g1, g2, g7, g8, g10, g24, g25, g26, g36, g37, rfl⟩
       ·replace hj53 := ifF c134 hj53;refine wpo_seg hp0 52 (fun s H' => s.length = 94 ∧ gt s 0 = v_0 ∧ gt s 1 = v_1 ∧ gt s 2 = .int .i64 side ∧ gt s 7 = rv14 ∧ gt s 8 = .int .i64 (k21 : Int) ∧ gt s 10 = .int .i64 x35 ∧ gt s 24 = v_1 ∧ gt s 25 = .int .i64 (p_.length : Int) ∧ gt s 26 = .int .i64 (k21 : Int) ∧ gt s 36 = .int .i64 (t.length : Int) ∧ gt s 37 = .int .i64 (k45 : Int) ∧ gt s 91 = .bool false ∧ H = H') (by simp (maxSteps := 1000000) only [↓runs, isCall, ↓reduceIte, ↓gd_true, ↓gd_false, evs, AV.cells, Nat.reduceEqDiff, Nat.reduceLT, reduceCtorEq, Nat.reduceAdd, sy, c54, c134, g0, g1, g2, g7, g8, g10, g11, g24, g25, g26, g36, g37, hl]) ?_;rintro s _ ⟨hl, g0, g1, g2, g7, g8, g10, g24, g25, g26, g36, g37, g91, rfl⟩;refine wpo_nil ?_;obtain rfl := Option.some.inj hj53;exact ⟨hl, g91, g0, g1, g2, g7, g8, g10, g24, g25, g26, g36, g37, rfl⟩
     ·rintro s _ ⟨hl, g91, g0, g1, g2, g7, g8, g10, g24, g25, g26, g36, g37, rfl⟩;refine then_n ?_;rcases Bool.eq_false_or_eq_true (z52) with c178 | c178
      ·replace hy47 := ifT c178 hy47;refine AM.wp_condT (by simp only [ev_t, ev_c, g91, c178]) ?_;refine AM.wp_seq hp0 (AM.wp_reg hp0 ?_);refine wpo_seg hp0 1 (fun s H' => s.length = 94 ∧ gt s 6 = .bool false ∧ H = H') (by simp only [↓runs, isCall, ↓reduceIte, ↓gd_true, ↓gd_false, evs, AV.cells, Nat.reduceEqDiff, Nat.reduceLT, reduceCtorEq, Nat.reduceAdd, sy, g0, g1, g2, g7, g8, g10, g24, g25, g26, g36, g37, g91, hl]) ?_;rintro s _ ⟨hl, g6, rfl⟩;refine wpo_nil (then_n ?_);refine AM.wp_ret ?_;refine rnd_r ?_;refine rnd_r ?_;refine then_r ?_;obtain rfl := Option.some.inj hy47;have hx := hx48 _ rfl;subst hx;dsimp only at hy23;obtain rfl := Option.some.inj hy23;have hx := hx24 _ rfl;subst hx;dsimp only at hp;obtain rfl := Option.some.inj hp;replace hst := hst.drop;refine body_ret (vs := [.bool false]) (by simp only [rvs, f_congr_is, Option.map_some, g6]) ?_;exact ⟨W, (w10.trans w15), hst, rfl⟩
      ·replace hy47 := ifF c178 hy47;refine AM.wp_condF (by simp only [ev_t, ev_c, g91, c178]) ?_;refine AM.wp_skip ?_;refine rnd_n ?_;obtain rfl := Option.some.inj hy47;exact ⟨_, rfl, hl, g37, g36, ⟨hl, g0, g1, g2, g7, g8, g10, g24, g25, g26, rfl⟩⟩
    ·rintro x179 s Hn hz hI;replace hI : (fun s H' => s.length = 94 ∧ gt s 0 = v_0 ∧ gt s 1 = v_1 ∧ gt s 2 = .int .i64 side ∧ gt s 7 = rv14 ∧ gt s 24 = v_1 ∧ gt s 25 = .int .i64 (p_.length : Int) ∧ gt s 26 = .int .i64 (k21 : Int) ∧ H = H') s Hn := by
      rcases hI with ⟨hI, -⟩ | ⟨_, hI⟩
      ·obtain ⟨hl, g0, g1, g2, g7, g8, g10, g24, g25, g26, e2⟩ := hI;exact ⟨hl, g0, g1, g2, g7, g24, g25, g26, e2⟩
      ·exact hI
     subst hz;dsimp only at hy23 hI;obtain ⟨hl, g0, g1, g2, g7, g24, g25, g26, rfl⟩ := hI;refine rnd_n ?_;obtain rfl := Option.some.inj hy23;exact ⟨_, rfl, hl, g26, g25, ⟨hl, g0, g1, g2, g7, g24, rfl⟩⟩
   ·rintro x181 s Hn hz hI;replace hI : (fun s H' => s.length = 94 ∧ H = H') s Hn := by
     rcases hI with ⟨hI, -⟩ | ⟨_, hI⟩
     ·obtain ⟨hl, g0, g1, g2, g7, g24, e2⟩ := hI;exact ⟨hl, e2⟩
     ·exact hI
    subst hz;dsimp only at hp hI;obtain ⟨hl, rfl⟩ := hI;refine then_n ?_;refine AM.wp_seq hp0 (AM.wp_reg hp0 ?_);refine wpo_seg hp0 1 (fun s H' => s.length = 94 ∧ gt s 6 = .bool true ∧ H = H') (by simp only [↓runs, isCall, ↓reduceIte, ↓gd_true, ↓gd_false, evs, AV.cells, Nat.reduceEqDiff, Nat.reduceLT, reduceCtorEq, Nat.reduceAdd, sy, hl]) ?_;rintro s _ ⟨hl, g6, rfl⟩;refine wpo_nil (then_n ?_);refine AM.wp_ret ?_;obtain rfl := Option.some.inj hp;replace hst := hst.drop;refine body_ret (vs := [.bool true]) (by simp only [rvs, f_congr_is, Option.map_some, g6]) ?_;exact ⟨W, (w10.trans w15), hst, rfl⟩

end Go.Proofs.Ytmdpejgnkoneoaa.Pu
set_option maxRecDepth 100000
set_option maxHeartbeats 4000000
namespace Go.Proofs.Ytmdpejgnkoneoaa.Pu
open Go Go.AM Go.Proofs.Ytmdpejgnkoneoaa.Code

noncomputable def P_congr_Quotient_l76 (k31 : Nat) (p_ : List Int) (r11 : (List Int)) (t : List (List Int)) (x41 : Int) (k78 : Nat) (x77 : List (List Int)) : Option ((List (List Int))) :=
 Option.bind (gi r11 (k78 : Int)) fun x88 =>
 Option.bind (gi x77 (k31 : Int)) fun x95 =>
 Option.bind (gi t x41) fun x105 =>
 Option.bind (gi x105 x88) fun x112 =>
 Option.bind (gi p_ x112) fun x119 =>
 Option.bind (si x95 (k78 : Int) x119) fun x126 =>
 some (List.set x77 ((k31 : Int)).toNat x126)
noncomputable def P_congr_Quotient_l29 (p_ : List Int) (r11 : (List Int)) (t : List (List Int)) (k31 : Nat) (x30 : List (List Int)) : Option ((List (List Int))) :=
 Option.bind (gi r11 (k31 : Int)) fun x41 =>
 Option.bind (mkz (α := Int) 8 (r11.length : Int) (r11.length : Int) 0) fun x50 =>
 Option.bind (gi x30 (k31 : Int)) fun x58 =>
 Option.bind (forS r11.length (fun k x => P_congr_Quotient_l76 k31 p_ r11 t x41 k x) (List.set x30 ((k31 : Int)).toNat x50)) fun z82 =>
 some z82
noncomputable def P_congr_Quotient (t : List (List Int)) (p_ : List Int) : Option ((List (List Int)) × Int) :=
 Option.bind (P_mult_Validate t) fun r1 =>
 if !decide (r1 = 0) then
  some ([], r1)
 else
  Option.bind (P_congr_is t p_ 0) fun r6 =>
  if !r6 then
   some ([], 1)
  else
   Option.bind (P_congr_firsts p_) fun r11 =>
   Option.bind (mkz (α := List Int) 24 (r11.length : Int) (r11.length : Int) []) fun x19 =>
   Option.bind (forS r11.length (fun k x => P_congr_Quotient_l29 p_ r11 t k x) x19) fun z35 =>
   some (z35, 0)
theorem R_congr_Quotient {G : List Frag} {W H : AH} {v_0 v_1 : AV} {t : List (List Int)} {p_ : List Int} (hst : St G W H) (h_0 : Rp.rv W v_0 t) (h_1 : Rp.rv W v_1 p_) {r : (List (List Int)) × Int} (hp : P_congr_Quotient t p_ = some r) :
  wpc E0 N_congr_Quotient [v_0, v_1] H fun rv H' => ∃ W', Wle W W' ∧ ∃ (v0 : AV), St G W' H' ∧ rv = .tup [v0, .int .i64 r.2] ∧ Rp.rv W' v0 (r.1 : List (List Int)) := by
 refine enterN (F := f_congr_Quotient) rfl (Nat.le_of_ble_eq_true rfl) fun s hl hg => ?_;replace hl : s.length = 66 := hl;have g0 : gt s 0 = v_0 := hg 0 (Nat.le_of_ble_eq_true rfl);have g1 : gt s 1 = v_1 := hg 1 (Nat.le_of_ble_eq_true rfl);clear hg;unfold P_congr_Quotient at hp;show wp E0 c_congr_Quotient s H _;unfold c_congr_Quotient;refine AM.wp_seq hp0 (AM.wp_reg hp0 ?_);refine wpo_seg hp0 2 (fun s H' => s.length = 66 ∧ gt s 0 = v_0 ∧ gt s 1 = v_1 ∧ H = H') (by simp only [↓runs, isCall, ↓reduceIte, ↓gd_true, ↓gd_false, evs, AV.cells, Nat.reduceEqDiff, Nat.reduceLT, reduceCtorEq, Nat.reduceAdd, sy, g0, g1, hl]) ?_;rintro s _ ⟨hl, g0, g1, rfl⟩;refine wpo_nil (then_n ?_);refine AM.wp_seq hp0 (AM.wp_seq hp0 (AM.wp_reg hp0 ?_));refine wpo_seg hp0 1 (fun s H' => s.length = 66 ∧ gt s 0 = v_0 ∧ gt s 1 = v_1 ∧ gt s 13 = v_0 ∧ H = H') (by simp only [↓runs, isCall, ↓reduceIte, ↓gd_true, ↓gd_false, evs, AV.cells, Nat.reduceEqDiff, Nat.reduceLT, reduceCtorEq, Nat.reduceAdd, sy, g0, g1, hl]) ?_;rintro s _ ⟨hl, g0, g1, g13, rfl⟩;obtain ⟨r1, e2, hp⟩ := bn hp;refine wpo_callK hp0 rfl (ys := [v_0]) (by simp only [evs, List.map_cons, List.map_nil, ev_t, ev_c, g13]) (R_mult_Validate hst h_0 e2) ?_;rintro rv3 H ⟨W, w4, hst, rfl⟩;replace h_0 := Rp.mono w4 h_0;replace h_1 := Rp.mono w4 h_1;refine wpo_seg hp0 1 (fun s H' => s.length = 66 ∧ gt s 0 = v_0 ∧ gt s 1 = v_1 ∧ gt s 6 = .int .i64 r1 ∧ H = H') (by simp only [↓runs, isCall, ↓reduceIte, ↓gd_true, ↓gd_false, evs, AV.cells, Nat.reduceEqDiff, Nat.reduceLT, reduceCtorEq, Nat.reduceAdd, sy, gt_other, g0, g1, g13, hl]) ?_;rintro s _ ⟨hl, g0, g1, g6, rfl⟩;refine wpo_nil (then_n ?_);refine AM.wp_seq hp0 (AM.wp_reg hp0 ?_);refine wpo_seg hp0 2 (fun s H' => s.length = 66 ∧ gt s 0 = v_0 ∧ gt s 1 = v_1 ∧ gt s 6 = .int .i64 r1 ∧ gt s 16 = .bool (!decide (r1 = 0)) ∧ H = H') (by simp only [↓runs, isCall, ↓reduceIte, ↓gd_true, ↓gd_false, evs, AV.cells, Nat.reduceEqDiff, Nat.reduceLT, reduceCtorEq, Nat.reduceAdd, sy, g0, g1, g6, hl]) ?_;rintro s _ ⟨hl, g0, g1, g6, g16, rfl⟩;refine wpo_nil (then_n ?_);rcases Bool.eq_false_or_eq_true (!decide (r1 = 0)) with c5 | c5
 ·replace hp := ifT c5 hp;refine AM.wp_condT (by simp only [ev_t, ev_c, g16, c5]) ?_;refine AM.wp_seq hp0 (AM.wp_reg hp0 ?_);refine wpo_seg hp0 3 (fun s H' => s.length = 66 ∧ gt s 4 = .nils ∧ gt s 5 = .int .i64 r1 ∧ H = H') (by simp only [↓runs, isCall, ↓reduceIte, ↓gd_true, ↓gd_false, evs, AV.cells, Nat.reduceEqDiff, Nat.reduceLT, reduceCtorEq, Nat.reduceAdd, sy, g0, g1, g6, g16, hl]) ?_;rintro s _ ⟨hl, g4, g5, rfl⟩;refine wpo_nil (then_n ?_);refine AM.wp_ret ?_;refine then_r ?_;obtain rfl := Option.some.inj hp;refine body_ret (vs := [.nils, .int .i64 r1]) (by simp only [rvs, f_congr_Quotient, Option.map_some, g4, g5]) ?_;exact ⟨W, w4, _, hst, rfl, (fz_nil _)⟩
 ·replace hp := ifF c5 hp;refine AM.wp_condF (by simp only [ev_t, ev_c, g16, c5]) ?_;refine AM.wp_skip ?_;refine then_n ?_;refine AM.wp_seq hp0 (AM.wp_seq hp0 (AM.wp_reg hp0 ?_));refine wpo_seg hp0 2 (fun s H' => s.length = 66 ∧ gt s 0 = v_0 ∧ gt s 1 = v_1 ∧ gt s 18 = v_0 ∧ gt s 19 = v_1 ∧ H = H') (by simp only [↓runs, isCall, ↓reduceIte, ↓gd_true, ↓gd_false, evs, AV.cells, Nat.reduceEqDiff, Nat.reduceLT, reduceCtorEq, Nat.reduceAdd, sy, g0, g1, g6, g16, hl]) ?_;rintro s _ ⟨hl, g0, g1, g18, g19, rfl⟩;obtain ⟨r6, e7, hp⟩ := bn hp;refine wpo_callK hp0 rfl (ys := [v_0, v_1, .int .i64 0]) (by simp only [evs, List.map_cons, List.map_nil, ev_t, ev_c, g18, g19]) (R_congr_is hst h_0 h_1 e7) ?_;rintro rv8 H ⟨W, w9, hst, rfl⟩;replace h_0 := Rp.mono w9 h_0;replace h_1 := Rp.mono w9 h_1;refine wpo_seg hp0 1 (fun s H' => s.length = 66 ∧ gt s 0 = v_0 ∧ gt s 1 = v_1 ∧ gt s 21 = .bool (!r6) ∧ H = H') (by simp only [↓runs, isCall, ↓reduceIte, ↓gd_true, ↓gd_false, evs, AV.cells, Nat.reduceEqDiff, Nat.reduceLT, reduceCtorEq, Nat.reduceAdd, sy, gt_other, g0, g1, g18, g19, hl]) ?_;rintro s _ ⟨hl, g0, g1, g21, rfl⟩;refine wpo_nil (then_n ?_);rcases Bool.eq_false_or_eq_true (!r6) with c10 | c10
  ·replace hp := ifT c10 hp;refine AM.wp_condT (by simp only [ev_t, ev_c, g21, c10]) ?_;refine AM.wp_seq hp0 (AM.wp_reg hp0 ?_);refine wpo_seg hp0 2 (fun s H' => s.length = 66 ∧ gt s 4 = .nils ∧ gt s 5 = .int .i64 1 ∧ H = H') (by simp only [↓runs, isCall, ↓reduceIte, ↓gd_true, ↓gd_false, evs, AV.cells, Nat.reduceEqDiff, Nat.reduceLT, reduceCtorEq, Nat.reduceAdd, sy, g0, g1, g21, hl]) ?_;rintro s _ ⟨hl, g4, g5, rfl⟩;refine wpo_nil (then_n ?_);refine AM.wp_ret ?_;refine then_r ?_;obtain rfl := Option.some.inj hp;refine body_ret (vs := [.nils, .int .i64 1]) (by simp only [rvs, f_congr_Quotient, Option.map_some, g4, g5]) ?_;exact ⟨W, (w4.trans w9), _, hst, rfl, (fz_nil _)⟩
  ·replace hp := ifF c10 hp;refine AM.wp_condF (by simp only [ev_t, ev_c, g21, c10]) ?_;refine AM.wp_skip ?_;refine then_n ?_;refine AM.wp_seq hp0 (AM.wp_reg hp0 ?_);refine wpo_seg hp0 1 (fun s H' => s.length = 66 ∧ gt s 0 = v_0 ∧ gt s 1 = v_1 ∧ gt s 22 = v_1 ∧ H = H') (by simp only [↓runs, isCall, ↓reduceIte, ↓gd_true, ↓gd_false, evs, AV.cells, Nat.reduceEqDiff, Nat.reduceLT, reduceCtorEq, Nat.reduceAdd, sy, g0, g1, g21, hl]) ?_;rintro s _ ⟨hl, g0, g1, g22, rfl⟩;obtain ⟨r11, e12, hp⟩ := bn hp;refine wpo_callK hp0 rfl (ys := [v_1]) (by simp only [evs, List.map_cons, List.map_nil, ev_t, ev_c, g22]) (R_congr_firsts hst h_1 e12) ?_;rintro rv13 H ⟨W, w14, fg15, hst, o16⟩;replace h_0 := Rp.mono w14 h_0;replace h_1 := Rp.mono w14 h_1;refine wpo_seg hp0 1 (fun s H' => s.length = 66 ∧ gt s 0 = v_0 ∧ gt s 1 = v_1 ∧ gt s 7 = rv13 ∧ H = H') (by simp only [↓runs, isCall, ↓reduceIte, ↓gd_true, ↓gd_false, evs, AV.cells, Nat.reduceEqDiff, Nat.reduceLT, reduceCtorEq, Nat.reduceAdd, sy, gt_other, g0, g1, g22, hl]) ?_;rintro s _ ⟨hl, g0, g1, g7, rfl⟩;refine wpo_nil (then_n ?_);refine AM.wp_seq hp0 (AM.wp_reg hp0 ?_);have f17 := ow_ln o16;have b18 := ow_big o16;obtain ⟨x19, e20, hp⟩ := bn hp;obtain ⟨v21, H22, fg23, W, f25, w24, hst, o26⟩ := od_mk (kn := .i64) (kc := .i64) Int hst e20;replace h_0 := Rp.mono w24 h_0;replace h_1 := Rp.mono w24 h_1;replace o16 := o16.mono w24;refine wpo_seg hp0 4 (fun s H' => s.length = 66 ∧ gt s 0 = v_0 ∧ gt s 1 = v_1 ∧ gt s 7 = rv13 ∧ gt s 8 = v21 ∧ H22 = H') (by simp only [↓runs, isCall, ↓reduceIte, ↓gd_true, ↓gd_false, evs, AV.cells, Nat.reduceEqDiff, Nat.reduceLT, reduceCtorEq, Nat.reduceAdd, sy, f17, f25, g0, g1, g7, hl]) ?_;rintro s _ ⟨hl, g0, g1, g7, g8, rfl⟩;refine wpo_nil (then_n ?_);refine AM.wp_seq hp0 (AM.wp_seq hp0 (AM.wp_reg hp0 ?_));have f27 := ow_ln o16;have b28 := ow_big o16;refine wpo_seg hp0 3 (fun s H' => s.length = 66 ∧ gt s 0 = v_0 ∧ gt s 1 = v_1 ∧ gt s 7 = rv13 ∧ gt s 8 = v21 ∧ gt s 27 = rv13 ∧ gt s 28 = .int .i64 (r11.length : Int) ∧ gt s 29 = .int .i64 0 ∧ H22 = H') (by simp only [↓runs, isCall, ↓reduceIte, ↓gd_true, ↓gd_false, evs, AV.cells, Nat.reduceEqDiff, Nat.reduceLT, reduceCtorEq, Nat.reduceAdd, sy, f27, g0, g1, g7, g8, hl]) ?_;rintro s _ ⟨hl, g0, g1, g7, g8, g27, g28, g29, rfl⟩;refine wpo_nil (then_n ?_);obtain ⟨z35, e36, hp⟩ := bn hp;refine rangeS_ref hp0 66 r11.length (fun k x => P_congr_Quotient_l29 p_ r11 t k x) (fun _ x s H' => ∃ (W' : AH) (qo2 : Frag), s.length = 66 ∧ gt s 0 = v_0 ∧ gt s 1 = v_1 ∧ gt s 7 = rv13 ∧ gt s 8 = v21 ∧ gt s 27 = rv13 ∧  Wle W W' ∧ St (qo2 :: fg15 :: G) W' H' ∧ OwD W' v21 qo2 (x : List (List Int))) e36 (b28) rfl ?_ ?_ hl g29 g28 ?_ ?_
   ·intro k x s H d v hd h; rcases hd with rfl | rfl | rfl <;> simpa only [gt_other, pt_length, Nat.reduceEqDiff, not_false_eq_true] using h
   ·replace hst := hst.p1;replace hst := hst.p1;exact ⟨W, _, hl, g0, g1, g7, g8, g27, .refl _, hst, o26⟩
   ·intro k31 x30 y32 s H hk hI hl g29 g28 hy33;change P_congr_Quotient_l29 p_ r11 t k31 x30 = some y32 at hy33;unfold P_congr_Quotient_l29 at hy33;obtain ⟨W, fg39, hl, g0, g1, g7, g8, g27, w38, hst, o40⟩ := hI;replace h_0 := Rp.mono w38 h_0;replace h_1 := Rp.mono w38 h_1;replace o16 := o16.mono w38;refine AM.wp_seq hp0 (AM.wp_reg hp0 ?_);obtain ⟨x41, e42, hy33⟩ := bn hy33;obtain ⟨p43, _, f45, f46, rfl⟩ := ow_at (k := .i64) hst (.tail _ (.head _)) o16 e42 rfl;refine wpo_seg hp0 5 (fun s H' => s.length = 66 ∧ gt s 0 = v_0 ∧ gt s 1 = v_1 ∧ gt s 7 = rv13 ∧ gt s 8 = v21 ∧ gt s 9 = .int .i64 (k31 : Int) ∧ gt s 10 = .int .i64 x41 ∧ gt s 27 = rv13 ∧ gt s 28 = .int .i64 (r11.length : Int) ∧ gt s 29 = .int .i64 (k31 : Int) ∧ H = H') (by simp only [↓runs, isCall, ↓reduceIte, ↓gd_true, ↓gd_false, evs, AV.cells, Nat.reduceEqDiff, Nat.reduceLT, reduceCtorEq, Nat.reduceAdd, sy, f45, f46, g0, g1, g7, g8, g27, g28, g29, hl]) ?_;rintro s _ ⟨hl, g0, g1, g7, g8, g9, g10, g27, g28, g29, rfl⟩;refine wpo_nil (then_n ?_);refine AM.wp_seq hp0 (AM.wp_reg hp0 ?_);have f48 := ow_ln o16;have b49 := ow_big o16;obtain ⟨x50, e51, hy33⟩ := bn hy33;obtain ⟨v52, H53, fg54, W, f56, w55, hst, o57⟩ := ow_mk (kn := .i64) (kc := .i64) hst (show Rp.rv _ (.int .i64 0) (0 : Int) from rfl) [.int .i64 0] rfl e51;replace h_0 := Rp.mono w55 h_0;replace h_1 := Rp.mono w55 h_1;replace o16 := o16.mono w55;replace o40 := o40.mono w55;obtain ⟨x58, e59, hy33⟩ := bn hy33;replace hst := hst.p1;obtain ⟨p60, v61, fg62, fg63, f64, f65, hst, o66, o67⟩ := od_open (k := .i64) hst o40 e59;replace hst := hst.drop;replace hst := hst.p1;obtain ⟨p68, H69, fg70, f71, f72, hst, o73⟩ := od_put (k := .i64) hst o57 o67 (gi_nn e59);obtain rfl := Option.some.inj (f71.symm.trans f64);refine wpo_seg hp0 7 (fun s H' => s.length = 66 ∧ gt s 0 = v_0 ∧ gt s 1 = v_1 ∧ gt s 7 = rv13 ∧ gt s 8 = v21 ∧ gt s 9 = .int .i64 (k31 : Int) ∧ gt s 10 = .int .i64 x41 ∧ gt s 27 = rv13 ∧ gt s 28 = .int .i64 (r11.length : Int) ∧ gt s 29 = .int .i64 (k31 : Int) ∧ H69 = H') (by simp only [↓runs, isCall, ↓reduceIte, ↓gd_true, ↓gd_false, evs, AV.cells, Nat.reduceEqDiff, Nat.reduceLT, reduceCtorEq, Nat.reduceAdd, sy, f48, f56, f64, f65, f71, f72, g0, g1, g7, g8, g9, g10, g27, g28, g29, hl]) ?_;rintro s _ ⟨hl, g0, g1, g7, g8, g9, g10, g27, g28, g29, rfl⟩;refine wpo_nil (then_n ?_);refine AM.wp_seq hp0 (AM.wp_reg hp0 ?_);have f74 := ow_ln o16;have b75 := ow_big o16;refine wpo_seg hp0 3 (fun s H' => s.length = 66 ∧ gt s 0 = v_0 ∧ gt s 1 = v_1 ∧ gt s 7 = rv13 ∧ gt s 8 = v21 ∧ gt s 9 = .int .i64 (k31 : Int) ∧ gt s 10 = .int .i64 x41 ∧ gt s 27 = rv13 ∧ gt s 28 = .int .i64 (r11.length : Int) ∧ gt s 29 = .int .i64 (k31 : Int) ∧ gt s 40 = rv13 ∧ gt s 41 = .int .i64 (r11.length : Int) ∧ gt s 42 = .int .i64 0 ∧ H69 = H') (by simp only [↓runs, isCall, ↓reduceIte, ↓gd_true, ↓gd_false, evs, AV.cells, Nat.reduceEqDiff, Nat.reduceLT, reduceCtorEq, Nat.reduceAdd, sy, f74, g0, g1, g7, g8, g9, g10, g27, g28, g29, hl]) ?_;rintro s _ ⟨hl, g0, g1, g7, g8, g9, g10, g27, g28, g29, g40, g41, g42, rfl⟩;refine wpo_nil (then_n ?_);obtain ⟨z82, e83, hy33⟩ := bn hy33;refine rangeS_ref hp0 66 r11.length (fun k x => P_congr_Quotient_l76 k31 p_ r11 t x41 k x) (fun _ x s H' => ∃ (W' : AH) (qo2 : Frag), s.length = 66 ∧ gt s 0 = v_0 ∧ gt s 1 = v_1 ∧ gt s 7 = rv13 ∧ gt s 8 = v21 ∧ gt s 9 = .int .i64 (k31 : Int) ∧ gt s 10 = .int .i64 x41 ∧ gt s 27 = rv13 ∧ gt s 28 = .int .i64 (r11.length : Int) ∧ gt s 29 = .int .i64 (k31 : Int) ∧ gt s 40 = rv13 ∧  Wle W W' ∧ St (qo2 :: fg15 :: G) W' H' ∧ OwD W' v21 qo2 (x : List (List Int))) e83 (b75) rfl ?_ ?_ hl g42 g41 ?_ ?_
    ·intro k x s H d v hd h; rcases hd with rfl | rfl | rfl <;> simpa only [gt_other, pt_length, Nat.reduceEqDiff, not_false_eq_true] using h
    ·replace hst := hst.p1;replace hst := hst.p1;exact ⟨W, _, hl, g0, g1, g7, g8, g9, g10, g27, g28, g29, g40, .refl _, hst, o73⟩
    ·intro k78 x77 y79 s H hk hI hl g42 g41 hy80;change P_congr_Quotient_l76 k31 p_ r11 t x41 k78 x77 = some y79 at hy80;unfold P_congr_Quotient_l76 at hy80;obtain ⟨W, fg86, hl, g0, g1, g7, g8, g9, g10, g27, g28, g29, g40, w85, hst, o87⟩ := hI;replace h_0 := Rp.mono w85 h_0;replace h_1 := Rp.mono w85 h_1;replace o16 := o16.mono w85;refine AM.wp_seq hp0 (AM.wp_reg hp0 ?_);obtain ⟨x88, e89, hy80⟩ := bn hy80;obtain ⟨p90, _, f92, f93, rfl⟩ := ow_at (k := .i64) hst (.tail _ (.head _)) o16 e89 rfl;refine wpo_seg hp0 5 (fun s H' => s.length = 66 ∧ gt s 0 = v_0 ∧ gt s 1 = v_1 ∧ gt s 7 = rv13 ∧ gt s 8 = v21 ∧ gt s 9 = .int .i64 (k31 : Int) ∧ gt s 10 = .int .i64 x41 ∧ gt s 11 = .int .i64 (k78 : Int) ∧ gt s 12 = .int .i64 x88 ∧ gt s 27 = rv13 ∧ gt s 28 = .int .i64 (r11.length : Int) ∧ gt s 29 = .int .i64 (k31 : Int) ∧ gt s 40 = rv13 ∧ gt s 41 = .int .i64 (r11.length : Int) ∧ gt s 42 = .int .i64 (k78 : Int) ∧ H = H') (by simp only [↓runs, isCall, ↓reduceIte, ↓gd_true, ↓gd_false, evs, AV.cells, Nat.reduceEqDiff, Nat.reduceLT, reduceCtorEq, Nat.reduceAdd, sy, f92, f93, g0, g1, g7, g8, g9, g10, g27, g28, g29, g40, g41, g42, hl]) ?_;rintro s _ ⟨hl, g0, g1, g7, g8, g9, g10, g11, g12, g27, g28, g29, g40, g41, g42, rfl⟩;refine wpo_nil (then_n ?_);refine AM.wp_reg hp0 ?_;obtain ⟨x95, e96, hy80⟩ := bn hy80;obtain ⟨p97, v98, fg99, fg100, f101, f102, hst, o103, o104⟩ := od_open (k := .i64) hst o87 e96;obtain rfl := Option.some.inj (f101.symm.trans f71);obtain ⟨x105, e106, hy80⟩ := bn hy80;obtain ⟨p107, y108, f109, f110, h111⟩ := fz_at (k := .i64) hst h_0 e106 rfl;obtain ⟨x112, e113, hy80⟩ := bn hy80;obtain ⟨p114, _, f116, f117, rfl⟩ := fz_at (k := .i64) hst h111 e113 rfl;obtain ⟨x119, e120, hy80⟩ := bn hy80;obtain ⟨p121, _, f123, f124, rfl⟩ := fz_at (k := .i64) hst h_1 e120 rfl;obtain ⟨x126, e127, hy80⟩ := bn hy80;obtain ⟨p128, H129, fg130, f131, f132, hst, o133⟩ := ow_set (k := .i64) 1 rfl hst o103 (show Rp.rv W (.int .i64 x119) (x119 : Int) from rfl) e127;replace hst := hst.p1;replace hst := hst.p1;obtain ⟨fg134, hst, o135⟩ := od_close hst o133 o104;refine wpo_seg hp0 17 (fun s H' => s.length = 66 ∧ gt s 0 = v_0 ∧ gt s 1 = v_1 ∧ gt s 7 = rv13 ∧ gt s 8 = v21 ∧ gt s 9 = .int .i64 (k31 : Int) ∧ gt s 10 = .int .i64 x41 ∧ gt s 27 = rv13 ∧ gt s 28 = .int .i64 (r11.length : Int) ∧ gt s 29 = .int .i64 (k31 : Int) ∧ gt s 40 = rv13 ∧ gt s 41 = .int .i64 (r11.length : Int) ∧ gt s 42 = .int .i64 (k78 : Int) ∧ H129 = H') (by simp (maxSteps := 1000000) only [↓runs, isCall, ↓reduceIte, ↓gd_true, ↓gd_false, evs, AV.cells, Nat.reduceEqDiff, Nat.reduceLT, reduceCtorEq, Nat.reduceAdd, sy, f101, f102, f109, f110, f116, f117, f123, f124, f131, f132, g0, g1, g7, g8, g9, g10, g11, g12, g27, g28, g29, g40, g41, g42, hl]) ?_;rintro s _ ⟨hl, g0, g1, g7, g8, g9, g10, g27, g28, g29, g40, g41, g42, rfl⟩;refine wpo_nil ?_;refine rnd_n ?_;obtain rfl := Option.some.inj hy80;replace hst := hst.p1;replace hst := hst.p1;exact ⟨hl, g42, g41, ⟨W, _, hl, g0, g1, g7, g8, g9, g10, g27, g28, g29, g40, w85, hst, o135⟩⟩
    ·rintro s H hI _;obtain ⟨W, fg137, hl, g0, g1, g7, g8, g9, g10, g27, g28, g29, g40, w136, hst, o138⟩ := hI;replace h_0 := Rp.mono w136 h_0;replace h_1 := Rp.mono w136 h_1;replace o16 := o16.mono w136;refine rnd_n ?_;obtain rfl := Option.some.inj hy33;replace hst := hst.p1;replace hst := hst.p1;exact ⟨hl, g29, g28, ⟨W, _, hl, g0, g1, g7, g8, g27, ((w38.trans w55).trans w136), hst, o138⟩⟩
   ·rintro s H hI _;obtain ⟨W, fg140, hl, g0, g1, g7, g8, g27, w139, hst, o141⟩ := hI;replace h_0 := Rp.mono w139 h_0;replace h_1 := Rp.mono w139 h_1;replace o16 := o16.mono w139;refine then_n ?_;refine AM.wp_seq hp0 (AM.wp_reg hp0 ?_);refine wpo_seg hp0 3 (fun s H' => s.length = 66 ∧ gt s 4 = v21 ∧ gt s 5 = .int .i64 0 ∧ H = H') (by simp only [↓runs, isCall, ↓reduceIte, ↓gd_true, ↓gd_false, evs, AV.cells, Nat.reduceEqDiff, Nat.reduceLT, reduceCtorEq, Nat.reduceAdd, sy, g0, g1, g7, g8, g27, hl]) ?_;rintro s _ ⟨hl, g4, g5, rfl⟩;refine wpo_nil (then_n ?_);refine AM.wp_ret ?_;obtain ⟨W, w143, hst, h142⟩ := od_frz hst o141;replace o16 := o16.mono w143;obtain rfl := Option.some.inj hp;replace hst := hst.drop;refine body_ret (vs := [v21, .int .i64 0]) (by simp only [rvs, f_congr_Quotient, Option.map_some, g4, g5]) ?_;exact ⟨W, (((((w4.trans w9).trans w14).trans w24).trans w139).trans w143), _, hst, rfl, h142⟩

end Go.Proofs.Ytmdpejgnkoneoaa.Pu
set_option maxRecDepth 100000
set_option maxHeartbeats 4000000
namespace Go.Proofs.Ytmdpejgnkoneoaa.Pu
open Go Go.AM Go.Proofs.Ytmdpejgnkoneoaa.Code

end Go.Proofs.Ytmdpejgnkoneoaa.Pu
set_option maxRecDepth 100000
set_option maxHeartbeats 4000000
namespace Go.Proofs.Ytmdpejgnkoneoaa.Pu
open Go Go.AM Go.Proofs.Ytmdpejgnkoneoaa.Code

end Go.Proofs.Ytmdpejgnkoneoaa.Pu
set_option maxRecDepth 100000
set_option maxHeartbeats 4000000
namespace Go.Proofs.Ytmdpejgnkoneoaa.Pu
open Go Go.AM Go.Proofs.Ytmdpejgnkoneoaa.Code

noncomputable def P_semigroupref19_IsCongruence_l40 (k22 : Nat) (k32 : Nat) (p_ : List Int) (side : Int) (t : List (List Int)) (k42 : Nat) : Option (Lp (Unit) (Bool)) :=
 Option.bind (
  Option.bind (gi p_ (k22 : Int)) fun x51 =>
  Option.bind (gi p_ (k32 : Int)) fun x58 =>
  if decide (x51 = x58) then
   if !decide (side = 2) then
    Option.bind (gi t (k42 : Int)) fun x67 =>
    Option.bind (gi x67 (k22 : Int)) fun x74 =>
    Option.bind (gi p_ x74) fun x81 =>
    Option.bind (gi x67 (k32 : Int)) fun x88 =>
    Option.bind (gi p_ x88) fun x95 =>
    if !decide (x81 = x95) then
     some true
    else
     if !decide (side = 1) then
      Option.bind (gi t (k22 : Int)) fun x104 =>
      Option.bind (gi x104 (k42 : Int)) fun x111 =>
      Option.bind (gi p_ x111) fun x118 =>
      Option.bind (gi t (k32 : Int)) fun x125 =>
      Option.bind (gi x125 (k42 : Int)) fun x132 =>
      Option.bind (gi p_ x132) fun x139 =>
      some (!decide (x118 = x139))
     else
      some false
   else
    if !decide (side = 1) then
     Option.bind (gi t (k22 : Int)) fun x147 =>
     Option.bind (gi x147 (k42 : Int)) fun x154 =>
     Option.bind (gi p_ x154) fun x161 =>
     Option.bind (gi t (k32 : Int)) fun x168 =>
     Option.bind (gi x168 (k42 : Int)) fun x175 =>
     Option.bind (gi p_ x175) fun x182 =>
     some (!decide (x161 = x182))
    else
     some false
  else
   some false) fun z49 =>
 if z49 then
  some (.ex false)
 else
  some (.go ())
noncomputable def P_semigroupref19_IsCongruence_l30 (k22 : Nat) (p_ : List Int) (side : Int) (t : List (List Int)) (k32 : Nat) : Option (Lp (Unit) (Bool)) :=
 Option.bind (forR t.length (fun k x => P_semigroupref19_IsCongruence_l40 k22 k32 p_ side t k) ()) fun z46 =>
 match z46 with
 | .inl x191 =>
  some (.go ())
 | .inr b => some (.ex b)
noncomputable def P_semigroupref19_IsCongruence_l20 (p_ : List Int) (side : Int) (t : List (List Int)) (k22 : Nat) : Option (Lp (Unit) (Bool)) :=
 Option.bind (forR t.length (fun k x => P_semigroupref19_IsCongruence_l30 k22 p_ side t k) ()) fun z36 =>
 match z36 with
 | .inl x193 =>
  some (.go ())
 | .inr b => some (.ex b)
noncomputable def P_semigroupref19_IsCongruence (t : List (List Int)) (p_ : List Int) (side : Int) : Option (Bool) :=
 Option.bind (
  Option.bind (P_semigroupref14_Valid t) fun r3 =>
  if !r3 then
   some true
  else
   if !decide ((p_.length : Int) = (t.length : Int)) then
    some true
   else
    Option.bind (P_semigroupref03_Valid p_) fun r11 =>
    if !r11 then
     some true
    else
     if decide (side < 0) then
      some true
     else
      some (decide (2 < side))) fun z1 =>
 if z1 then
  some false
 else
  Option.bind (forR t.length (fun k x => P_semigroupref19_IsCongruence_l20 p_ side t k) ()) fun z26 =>
  match z26 with
  | .inl x195 =>
   some true
  | .inr b => some b
theorem R_semigroupref19_IsCongruence {G : List Frag} {W H : AH} {v_0 v_1 : AV} {t : List (List Int)} {p_ : List Int} {side : Int} (hst : St G W H) (h_0 : Rp.rv W v_0 t) (h_1 : Rp.rv W v_1 p_) {r : Bool} (hp : P_semigroupref19_IsCongruence t p_ side = some r) :
  wpc E0 N_semigroupref19_IsCongruence [v_0, v_1, .int .i64 side] H fun rv H' => ∃ W', Wle W W' ∧ St G W' H' ∧ rv = .bool r := by
 refine enterN (F := f_semigroupref19_IsCongruence) rfl (Nat.le_of_ble_eq_true rfl) fun s hl hg => ?_;replace hl : s.length = 114 := hl;have g0 : gt s 0 = v_0 := hg 0 (Nat.le_of_ble_eq_true rfl);have g1 : gt s 1 = v_1 := hg 1 (Nat.le_of_ble_eq_true rfl);have g2 : gt s 2 = .int .i64 side := hg 2 (Nat.le_of_ble_eq_true rfl);clear hg;unfold P_semigroupref19_IsCongruence at hp;show wp E0 c_semigroupref19_IsCongruence s H _;unfold c_semigroupref19_IsCongruence;refine AM.wp_seq hp0 (AM.wp_reg hp0 ?_);refine wpo_seg hp0 1 (fun s H' => s.length = 114 ∧ gt s 0 = v_0 ∧ gt s 1 = v_1 ∧ gt s 2 = .int .i64 side ∧ H = H') (by simp only [↓runs, isCall, ↓reduceIte, ↓gd_true, ↓gd_false, evs, AV.cells, Nat.reduceEqDiff, Nat.reduceLT, reduceCtorEq, Nat.reduceAdd, sy, g0, g1, g2, hl]) ?_;rintro s _ ⟨hl, g0, g1, g2, rfl⟩;refine wpo_nil (then_n ?_);refine AM.wp_seq hp0 (AM.wp_seq hp0 ?_);obtain ⟨z1, hj2, hp⟩ := bn hp;refine AM.wp_regK hp0 (fun s H' => ∃ (W' : AH), s.length = 114 ∧ gt s 32 = .bool z1 ∧ gt s 0 = v_0 ∧ gt s 1 = v_1 ∧ gt s 2 = .int .i64 side ∧  Wle W W' ∧ St G W' H') ?_ ?_
 ·refine wpo_seg hp0 1 (fun s H' => s.length = 114 ∧ gt s 0 = v_0 ∧ gt s 1 = v_1 ∧ gt s 2 = .int .i64 side ∧ gt s 10 = v_0 ∧ H = H') (by simp only [↓runs, isCall, ↓reduceIte, ↓gd_true, ↓gd_false, evs, AV.cells, Nat.reduceEqDiff, Nat.reduceLT, reduceCtorEq, Nat.reduceAdd, sy, g0, g1, g2, hl]) ?_;rintro s _ ⟨hl, g0, g1, g2, g10, rfl⟩;obtain ⟨r3, e4, hj2⟩ := bn hj2;refine wpo_callK hp0 rfl (ys := [v_0]) (by simp only [evs, List.map_cons, List.map_nil, ev_t, ev_c, g10]) (R_semigroupref14_Valid hst h_0 e4) ?_;rintro rv5 H ⟨W, w6, hst, rfl⟩;replace h_0 := Rp.mono w6 h_0;replace h_1 := Rp.mono w6 h_1;rcases Bool.eq_false_or_eq_true (!r3) with c7 | c7
  ·replace hj2 := ifT c7 hj2;refine wpo_seg hp0 21 (fun s H' => s.length = 114 ∧ gt s 0 = v_0 ∧ gt s 1 = v_1 ∧ gt s 2 = .int .i64 side ∧ gt s 32 = .bool true ∧ H = H') (by simp (maxSteps := 1000000) only [↓runs, isCall, ↓reduceIte, ↓gd_true, ↓gd_false, evs, AV.cells, Nat.reduceEqDiff, Nat.reduceLT, reduceCtorEq, Nat.reduceAdd, sy, gt_other, c7, g0, g1, g2, g10, hl]) ?_;rintro s _ ⟨hl, g0, g1, g2, g32, rfl⟩;refine wpo_nil ?_;obtain rfl := Option.some.inj hj2;exact ⟨W, hl, g32, g0, g1, g2, w6, hst⟩
  ·replace hj2 := ifF c7 hj2;have f8 := fz_ln h_1;have f9 := fz_ln h_0;rcases Bool.eq_false_or_eq_true (!decide ((p_.length : Int) = (t.length : Int))) with c10 | c10
   ·replace hj2 := ifT c10 hj2;refine wpo_seg hp0 21 (fun s H' => s.length = 114 ∧ gt s 0 = v_0 ∧ gt s 1 = v_1 ∧ gt s 2 = .int .i64 side ∧ gt s 32 = .bool true ∧ H = H') (by simp (maxSteps := 1000000) only [↓runs, isCall, ↓reduceIte, ↓gd_true, ↓gd_false, evs, AV.cells, Nat.reduceEqDiff, Nat.reduceLT, reduceCtorEq, Nat.reduceAdd, sy, gt_other, c7, f8, f9, c10, g0, g1, g2, g10, hl]) ?_;rintro s _ ⟨hl, g0, g1, g2, g32, rfl⟩;refine wpo_nil ?_;obtain rfl := Option.some.inj hj2;exact ⟨W, hl, g32, g0, g1, g2, w6, hst⟩
   ·replace hj2 := ifF c10 hj2;refine wpo_seg hp0 10 (fun s H' => s.length = 114 ∧ gt s 0 = v_0 ∧ gt s 1 = v_1 ∧ gt s 2 = .int .i64 side ∧ gt s 20 = .bool false ∧ gt s 21 = v_1 ∧ H = H') (by simp only [↓runs, isCall, ↓reduceIte, ↓gd_true, ↓gd_false, evs, AV.cells, Nat.reduceEqDiff, Nat.reduceLT, reduceCtorEq, Nat.reduceAdd, sy, gt_other, c7, f8, f9, c10, g0, g1, g2, g10, hl]) ?_;rintro s _ ⟨hl, g0, g1, g2, g20, g21, rfl⟩;obtain ⟨r11, e12, hj2⟩ := bn hj2;refine wpo_callK hp0 (by simp only [wanted, g20, beq_self_eq_true]) (ys := [v_1]) (by simp only [evs, List.map_cons, List.map_nil, ev_t, ev_c, g21]) (R_semigroupref03_Valid hst h_1 e12) ?_;rintro rv13 H ⟨W, w14, hst, rfl⟩;replace h_0 := Rp.mono w14 h_0;replace h_1 := Rp.mono w14 h_1;rcases Bool.eq_false_or_eq_true (!r11) with c15 | c15
    ·replace hj2 := ifT c15 hj2;refine wpo_seg hp0 10 (fun s H' => s.length = 114 ∧ gt s 0 = v_0 ∧ gt s 1 = v_1 ∧ gt s 2 = .int .i64 side ∧ gt s 32 = .bool true ∧ H = H') (by simp only [↓runs, isCall, ↓reduceIte, ↓gd_true, ↓gd_false, evs, AV.cells, Nat.reduceEqDiff, Nat.reduceLT, reduceCtorEq, Nat.reduceAdd, sy, gt_other, c15, g0, g1, g2, g20, g21, hl]) ?_;rintro s _ ⟨hl, g0, g1, g2, g32, rfl⟩;refine wpo_nil ?_;obtain rfl := Option.some.inj hj2;exact ⟨W, hl, g32, g0, g1, g2, (w6.trans w14), hst⟩
    ·replace hj2 := ifF c15 hj2;rcases Bool.eq_false_or_eq_true (decide (side < 0)) with c16 | c16
     ·replace hj2 := ifT c16 hj2;refine wpo_seg hp0 10 (fun s H' => s.length = 114 ∧ gt s 0 = v_0 ∧ gt s 1 = v_1 ∧ gt s 2 = .int .i64 side ∧ gt s 32 = .bool true ∧ H = H') (by simp only [↓runs, isCall, ↓reduceIte, ↓gd_true, ↓gd_false, evs, AV.cells, Nat.reduceEqDiff, Nat.reduceLT, reduceCtorEq, Nat.reduceAdd, sy, gt_other, c15, c16, g0, g1, g2, g20, g21, hl]) ?_;rintro s _ ⟨hl, g0, g1, g2, g32, rfl⟩;refine wpo_nil ?_;obtain rfl := Option.some.inj hj2;exact ⟨W, hl, g32, g0, g1, g2, (w6.trans w14), hst⟩
     ·replace hj2 := ifF c16 hj2;refine wpo_seg hp0 10 (fun s H' => s.length = 114 ∧ gt s 0 = v_0 ∧ gt s 1 = v_1 ∧ gt s 2 = .int .i64 side ∧ gt s 32 = .bool (decide (2 < side)) ∧ H = H') (by simp only [↓runs, isCall, ↓reduceIte, ↓gd_true, ↓gd_false, evs, AV.cells, Nat.reduceEqDiff, Nat.reduceLT, reduceCtorEq, Nat.reduceAdd, sy, gt_other, c15, c16, g0, g1, g2, g20, g21, hl]) ?_;rintro s _ ⟨hl, g0, g1, g2, g32, rfl⟩;refine wpo_nil ?_;obtain rfl := Option.some.inj hj2;exact ⟨W, hl, g32, g0, g1, g2, (w6.trans w14), hst⟩
 ·rintro s H ⟨W, hl, g32, g0, g1, g2, w17, hst⟩;replace h_0 := Rp.mono w17 h_0;replace h_1 := Rp.mono w17 h_1;refine then_n ?_;rcases Bool.eq_false_or_eq_true (z1) with c18 | c18
  ·replace hp := ifT c18 hp;refine AM.wp_condT (by simp only [ev_t, ev_c, g32, c18]) ?_;refine AM.wp_seq hp0 (AM.wp_reg hp0 ?_);refine wpo_seg hp0 1 (fun s H' => s.length = 114 ∧ gt s 6 = .bool false ∧ H = H') (by simp only [↓runs, isCall, ↓reduceIte, ↓gd_true, ↓gd_false, evs, AV.cells, Nat.reduceEqDiff, Nat.reduceLT, reduceCtorEq, Nat.reduceAdd, sy, g0, g1, g2, g32, hl]) ?_;rintro s _ ⟨hl, g6, rfl⟩;refine wpo_nil (then_n ?_);refine AM.wp_ret ?_;refine then_r ?_;obtain rfl := Option.some.inj hp;refine body_ret (vs := [.bool false]) (by simp only [rvs, f_semigroupref19_IsCongruence, Option.map_some, g6]) ?_;exact ⟨W, w17, hst, rfl⟩
  ·replace hp := ifF c18 hp;refine AM.wp_condF (by simp only [ev_t, ev_c, g32, c18]) ?_;refine AM.wp_skip ?_;refine then_n ?_;refine AM.wp_seq hp0 (AM.wp_seq hp0 (AM.wp_reg hp0 ?_));have f19 := fz_ln h_0;refine wpo_seg hp0 3 (fun s H' => s.length = 114 ∧ gt s 0 = v_0 ∧ gt s 1 = v_1 ∧ gt s 2 = .int .i64 side ∧ gt s 34 = .int .i64 (t.length : Int) ∧ gt s 35 = .int .i64 0 ∧ H = H') (by simp only [↓runs, isCall, ↓reduceIte, ↓gd_true, ↓gd_false, evs, AV.cells, Nat.reduceEqDiff, Nat.reduceLT, reduceCtorEq, Nat.reduceAdd, sy, f19, g0, g1, g2, g32, hl]) ?_;rintro s _ ⟨hl, g0, g1, g2, g34, g35, rfl⟩;refine wpo_nil (then_n ?_);obtain ⟨z26, e27, hp⟩ := bn hp;refine range_ref hp0 114 t.length (fun k x => P_semigroupref19_IsCongruence_l20 p_ side t k) (fun _ x s H' => s.length = 114 ∧ gt s 0 = v_0 ∧ gt s 1 = v_1 ∧ gt s 2 = .int .i64 side ∧ H = H') (fun _ x s H' => s.length = 114 ∧ H = H') e27 (fz_big h_0) rfl ?_ ?_ hl g35 g34 ?_ ?_
   ·intro k x s H d v hd h; rcases hd with rfl | rfl | rfl <;> simpa only [gt_other, pt_length, Nat.reduceEqDiff, not_false_eq_true] using h
   ·exact ⟨hl, g0, g1, g2, rfl⟩
   ·intro k22 x21 y23 s H hk hI hl g35 g34 hy24 hx25;change P_semigroupref19_IsCongruence_l20 p_ side t k22 = some y23 at hy24;unfold P_semigroupref19_IsCongruence_l20 at hy24;obtain ⟨hl, g0, g1, g2, rfl⟩ := hI;refine AM.wp_seq hp0 (AM.wp_reg hp0 ?_);refine wpo_seg hp0 2 (fun s H' => s.length = 114 ∧ gt s 0 = v_0 ∧ gt s 1 = v_1 ∧ gt s 2 = .int .i64 side ∧ gt s 7 = .int .i64 (k22 : Int) ∧ gt s 34 = .int .i64 (t.length : Int) ∧ gt s 35 = .int .i64 (k22 : Int) ∧ H = H') (by simp only [↓runs, isCall, ↓reduceIte, ↓gd_true, ↓gd_false, evs, AV.cells, Nat.reduceEqDiff, Nat.reduceLT, reduceCtorEq, Nat.reduceAdd, sy, g0, g1, g2, g34, g35, hl]) ?_;rintro s _ ⟨hl, g0, g1, g2, g7, g34, g35, rfl⟩;refine wpo_nil (then_n ?_);refine AM.wp_seq hp0 (AM.wp_reg hp0 ?_);have f29 := fz_ln h_0;refine wpo_seg hp0 3 (fun s H' => s.length = 114 ∧ gt s 0 = v_0 ∧ gt s 1 = v_1 ∧ gt s 2 = .int .i64 side ∧ gt s 7 = .int .i64 (k22 : Int) ∧ gt s 34 = .int .i64 (t.length : Int) ∧ gt s 35 = .int .i64 (k22 : Int) ∧ gt s 39 = .int .i64 (t.length : Int) ∧ gt s 40 = .int .i64 0 ∧ H = H') (by simp only [↓runs, isCall, ↓reduceIte, ↓gd_true, ↓gd_false, evs, AV.cells, Nat.reduceEqDiff, Nat.reduceLT, reduceCtorEq, Nat.reduceAdd, sy, f29, g0, g1, g2, g7, g34, g35, hl]) ?_;rintro s _ ⟨hl, g0, g1, g2, g7, g34, g35, g39, g40, rfl⟩;refine wpo_nil (then_n ?_);obtain ⟨z36, e37, hy24⟩ := bn hy24;refine range_ref hp0 114 t.length (fun k x => P_semigroupref19_IsCongruence_l30 k22 p_ side t k) (fun _ x s H' => s.length = 114 ∧ gt s 0 = v_0 ∧ gt s 1 = v_1 ∧ gt s 2 = .int .i64 side ∧ gt s 7 = .int .i64 (k22 : Int) ∧ gt s 34 = .int .i64 (t.length : Int) ∧ gt s 35 = .int .i64 (k22 : Int) ∧ H = H') (fun _ x s H' => s.length = 114 ∧ gt s 0 = v_0 ∧ gt s 1 = v_1 ∧ gt s 2 = .int .i64 side ∧ gt s 34 = .int .i64 (t.length : Int) ∧ gt s 35 = .int .i64 (k22 : Int) ∧ H = H') e37 (fz_big h_0) rfl ?_ ?_ hl g40 g39 ?_ ?_
    ·intro k x s H d v hd h; rcases hd with rfl | rfl | rfl <;> simpa only [gt_other, pt_length, Nat.reduceEqDiff, not_false_eq_true] using h
    ·exact ⟨hl, g0, g1, g2, g7, g34, g35, rfl⟩
    ·intro k32 x31 y33 s H hk hI hl g40 g39 hy34 hx35;change P_semigroupref19_IsCongruence_l30 k22 p_ side t k32 = some y33 at hy34;unfold P_semigroupref19_IsCongruence_l30 at hy34;obtain ⟨hl, g0, g1, g2, g7, g34, g35, rfl⟩ := hI;refine AM.wp_seq hp0 (AM.wp_reg hp0 ?_);refine wpo_seg hp0 2 (fun s H' => s.length = 114 ∧ gt s 0 = v_0 ∧ gt s 1 = v_1 ∧ gt s 2 = .int .i64 side ∧ gt s 7 = .int .i64 (k22 : Int) ∧ gt s 8 = .int .i64 (k32 : Int) ∧ gt s 34 = .int .i64 (t.length : Int) ∧ gt s 35 = .int .i64 (k22 : Int) ∧ gt s 39 = .int .i64 (t.length : Int) ∧ gt s 40 = .int .i64 (k32 : Int) ∧ H = H') (by simp only [↓runs, isCall, ↓reduceIte, ↓gd_true, ↓gd_false, evs, AV.cells, Nat.reduceEqDiff, Nat.reduceLT, reduceCtorEq, Nat.reduceAdd, sy, g0, g1, g2, g7, g34, g35, g39, g40, hl]) ?_;rintro s _ ⟨hl, g0, g1, g2, g7, g8, g34, g35, g39, g40, rfl⟩;refine wpo_nil (then_n ?_);refine AM.wp_seq hp0 (AM.wp_reg hp0 ?_);have f39 := fz_ln h_0;refine wpo_seg hp0 3 (fun s H' => s.length = 114 ∧ gt s 0 = v_0 ∧ gt s 1 = v_1 ∧ gt s 2 = .int .i64 side ∧ gt s 7 = .int .i64 (k22 : Int) ∧ gt s 8 = .int .i64 (k32 : Int) ∧ gt s 34 = .int .i64 (t.length : Int) ∧ gt s 35 = .int .i64 (k22 : Int) ∧ gt s 39 = .int .i64 (t.length : Int) ∧ gt s 40 = .int .i64 (k32 : Int) ∧ gt s 44 = .int .i64 (t.length : Int) ∧ gt s 45 = .int .i64 0 ∧ H = H') (by simp only [↓runs, isCall, ↓reduceIte, ↓gd_true, ↓gd_false, evs, AV.cells, Nat.reduceEqDiff, Nat.reduceLT, reduceCtorEq, Nat.reduceAdd, sy, f39, g0, g1, g2, g7, g8, g34, g35, g39, g40, hl]) ?_;rintro s _ ⟨hl, g0, g1, g2, g7, g8, g34, g35, g39, g40, g44, g45, rfl⟩;refine wpo_nil (then_n ?_);obtain ⟨z46, e47, hy34⟩ := bn hy34;refine range_ref hp0 114 t.length (fun k x => P_semigroupref19_IsCongruence_l40 k22 k32 p_ side t k) (fun _ x s H' => s.length = 114 ∧ gt s 0 = v_0 ∧ gt s 1 = v_1 ∧ gt s 2 = .int .i64 side ∧ gt s 7 = .int .i64 (k22 : Int) ∧ gt s 8 = .int .i64 (k32 : Int) ∧ gt s 34 = .int .i64 (t.length : Int) ∧ gt s 35 = .int .i64 (k22 : Int) ∧ gt s 39 = .int .i64 (t.length : Int) ∧ gt s 40 = .int .i64 (k32 : Int) ∧ H = H') (fun _ x s H' => s.length = 114 ∧ gt s 0 = v_0 ∧ gt s 1 = v_1 ∧ gt s 2 = .int .i64 side ∧ gt s 7 = .int .i64 (k22 : Int) ∧ gt s 34 = .int .i64 (t.length : Int) ∧ gt s 35 = .int .i64 (k22 : Int) ∧ gt s 39 = .int .i64 (t.length : Int) ∧ gt s 40 = .int .i64 (k32 : Int) ∧ H = H') e47 (fz_big h_0) rfl ?_ ?_ hl g45 g44 ?_ ?_
     ·intro k x s H d v hd h; rcases hd with rfl | rfl | rfl <;> simpa only [gt_other, pt_length, Nat.reduceEqDiff, not_false_eq_true] using h
     ·exact ⟨hl, g0, g1, g2, g7, g8, g34, g35, g39, g40, rfl⟩
     ·intro k42 x41 y43 s H hk hI hl g45 g44 hy44 hx45;change P_semigroupref19_IsCongruence_l40 k22 k32 p_ side t k42 = some y43 at hy44;unfold P_semigroupref19_IsCongruence_l40 at hy44;obtain ⟨hl, g0, g1, g2, g7, g8, g34, g35, g39, g40, rfl⟩ := hI;refine AM.wp_seq hp0 (AM.wp_reg hp0 ?_);refine wpo_seg hp0 2 (fun s H' => s.length = 114 ∧ gt s 0 = v_0 ∧ gt s 1 = v_1 ∧ gt s 2 = .int .i64 side ∧ gt s 7 = .int .i64 (k22 : Int) ∧ gt s 8 = .int .i64 (k32 : Int) ∧ gt s 9 = .int .i64 (k42 : Int) ∧ gt s 34 = .int .i64 (t.length : Int) ∧ gt s 35 = .int .i64 (k22 : Int) ∧ gt s 39 = .int .i64 (t.length : Int) ∧ gt s 40 = .int .i64 (k32 : Int) ∧ gt s 44 = .int .i64 (t.length : Int) ∧ gt s 45 = .int .i64 (k42 : Int) ∧ H = H') (by simp only [↓runs, isCall, ↓reduceIte, ↓gd_true, ↓gd_false, evs, AV.cells, Nat.reduceEqDiff, Nat.reduceLT, reduceCtorEq, Nat.reduceAdd, sy, g0, g1, g2, g7, g8, g34, g35, g39, g40, g44, g45, hl]) ?_;rintro s _ ⟨hl, g0, g1, g2, g7, g8, g9, g34, g35, g39, g40, g44, g45, rfl⟩;refine wpo_nil (then_n ?_);refine AM.wp_seq hp0 ?_;obtain ⟨z49, hj50, hy44⟩ := bn hy44;refine AM.wp_regK hp0 (fun s H' => s.length = 114 ∧ gt s 110 = .bool z49 ∧ gt s 0 = v_0 ∧ gt s 1 = v_1 ∧ gt s 2 = .int .i64 side ∧ gt s 7 = .int .i64 (k22 : Int) ∧ gt s 8 = .int .i64 (k32 : Int) ∧ gt s 34 = .int .i64 (t.length : Int) ∧ gt s 35 = .int .i64 (k22 : Int) ∧ gt s 39 = .int .i64 (t.length : Int) ∧ gt s 40 = .int .i64 (k32 : Int) ∧ gt s 44 = .int .i64 (t.length : Int) ∧ gt s 45 = .int .i64 (k42 : Int) ∧ H = H') ?_ ?_
      ·obtain ⟨x51, e52, hj50⟩ := bn hj50;obtain ⟨p53, _, f55, f56, rfl⟩ := fz_at (k := .i64) hst h_1 e52 rfl;obtain ⟨x58, e59, hj50⟩ := bn hj50;obtain ⟨p60, _, f62, f63, rfl⟩ := fz_at (k := .i64) hst h_1 e59 rfl;rcases Bool.eq_false_or_eq_true (decide (x51 = x58)) with c65 | c65
       ·replace hj50 := ifT c65 hj50;rcases Bool.eq_false_or_eq_true (!decide (side = 2)) with c66 | c66
        ·replace hj50 := ifT c66 hj50;obtain ⟨x67, e68, hj50⟩ := bn hj50;obtain ⟨p69, y70, f71, f72, h73⟩ := fz_at (k := .i64) hst h_0 e68 rfl;obtain ⟨x74, e75, hj50⟩ := bn hj50;obtain ⟨p76, _, f78, f79, rfl⟩ := fz_at (k := .i64) hst h73 e75 rfl;obtain ⟨x81, e82, hj50⟩ := bn hj50;obtain ⟨p83, _, f85, f86, rfl⟩ := fz_at (k := .i64) hst h_1 e82 rfl;obtain ⟨x88, e89, hj50⟩ := bn hj50;obtain ⟨p90, _, f92, f93, rfl⟩ := fz_at (k := .i64) hst h73 e89 rfl;obtain ⟨x95, e96, hj50⟩ := bn hj50;obtain ⟨p97, _, f99, f100, rfl⟩ := fz_at (k := .i64) hst h_1 e96 rfl;rcases Bool.eq_false_or_eq_true (!decide (x81 = x95)) with c102 | c102
         ·replace hj50 := ifT c102 hj50;refine wpo_seg hp0 63 (fun s H' => s.length = 114 ∧ gt s 0 = v_0 ∧ gt s 1 = v_1 ∧ gt s 2 = .int .i64 side ∧ gt s 7 = .int .i64 (k22 : Int) ∧ gt s 8 = .int .i64 (k32 : Int) ∧ gt s 34 = .int .i64 (t.length : Int) ∧ gt s 35 = .int .i64 (k22 : Int) ∧ gt s 39 = .int .i64 (t.length : Int) ∧ gt s 40 = .int .i64 (k32 : Int) ∧ gt s 44 = .int .i64 (t.length : Int) ∧ gt s 45 = .int .i64 (k42 : Int) ∧ gt s 110 = .bool true ∧ H = H') (by simp (maxSteps := 1000000) only [↓runs, isCall, ↓reduceIte, ↓gd_true, ↓gd_false, evs, AV.cells, Nat.reduceEqDiff, Nat.reduceLT, reduceCtorEq, Nat.reduceAdd, sy, f55, f56, f62, f63, c65, c66, f71, f72, f78, f79, f85, f86, f92, f93, f99, f100, c102, g0, g1, g2, g7, g8, g9, g34, g35, g39, g40, g44, g45, hl]) ?_;rintro s _ ⟨hl, g0, g1, g2, g7, g8, g34, g35, g39, g40, g44, g45, g110, rfl⟩;refine wpo_nil ?_;obtain rfl := Option.some.inj hj50;exact ⟨hl, g110, g0, g1, g2, g7, g8, g34, g35, g39, g40, g44, g45, rfl⟩
         ·replace hj50 := ifF c102 hj50;rcases Bool.eq_false_or_eq_true (!decide (side = 1)) with c103 | c103
          ·replace hj50 := ifT c103 hj50;obtain ⟨x104, e105, hj50⟩ := bn hj50;obtain ⟨p106, y107, f108, f109, h110⟩ := fz_at (k := .i64) hst h_0 e105 rfl;obtain ⟨x111, e112, hj50⟩ := bn hj50;obtain ⟨p113, _, f115, f116, rfl⟩ := fz_at (k := .i64) hst h110 e112 rfl;obtain ⟨x118, e119, hj50⟩ := bn hj50;obtain ⟨p120, _, f122, f123, rfl⟩ := fz_at (k := .i64) hst h_1 e119 rfl;obtain ⟨x125, e126, hj50⟩ := bn hj50;obtain ⟨p127, y128, f129, f130, h131⟩ := fz_at (k := .i64) hst h_0 e126 rfl;obtain ⟨x132, e133, hj50⟩ := bn hj50;obtain ⟨p134, _, f136, f137, rfl⟩ := fz_at (k := .i64) hst h131 e133 rfl;obtain ⟨x139, e140, hj50⟩ := bn hj50;obtain ⟨p141, _, f143, f144, rfl⟩ := fz_at (k := .i64) hst h_1 e140 rfl;refine wpo_seg hp0 63 (fun s H' => s.length = 114 ∧ gt s 0 = v_0 ∧ gt s 1 = v_1 ∧ gt s 2 = .int .i64 side ∧ gt s 7 = .int .i64 (k22 : Int) ∧ gt s 8 = .int .i64 (k32 : Int) ∧ gt s 34 = .int .i64 (t.length : Int) ∧ gt s 35 = .int .i64 (k22 : Int) ∧ gt s 39 = .int .i64 (t.length : Int) ∧ gt s 40 = .int .i64 (k32 : Int) ∧ gt s 44 = .int .i64 (t.length : Int) ∧ gt s 45 = .int .i64 (k42 : Int) ∧ gt s 110 = .bool (!decide (x118 = x139)) ∧ H = H') (by simp (maxSteps := 1000000) only [↓runs, isCall, ↓reduceIte, ↓gd_true, ↓gd_false, evs, AV.cells, Nat.reduceEqDiff, Nat.reduceLT, reduceCtorEq, Nat.reduceAdd, sy, f55, f56, f62, f63, c65, c66, f71, f72, f78, f79, f85, f86, f92, f93, f99, f100, c102, c103, f108, f109, f115, f116, f122, f123, f129, f130, f136, f137, f143, f144, g0, g1, g2, g7, g8, g9, g34, g35, g39, g40, g44, g45, hl]) ?_;rintro s _ ⟨hl, g0, g1, g2, g7, g8, g34, g35, g39, g40, g44, g45, g110, rfl⟩;refine wpo_nil ?_;obtain rfl := Option.some.inj hj50;exact ⟨hl, g110, g0, g1, g2, g7, g8, g34, g35, g39, g40, g44, g45, rfl⟩
          ·replace hj50 := ifF c103 hj50;refine wpo_seg hp0 63 (fun s H' => s.length = 114 ∧ gt s 0 = v_0 ∧ gt s 1 = v_1 ∧ gt s 2 = .int .i64 side ∧ gt s 7 = .int .i64 (k22 : Int) ∧ gt s 8 = .int .i64 (k32 : Int) ∧ gt s 34 = .int .i64 (t.length : Int) ∧ gt s 35 = .int .i64 (k22 : Int) ∧ gt s 39 = .int .i64 (t.length : Int) ∧ gt s 40 = .int .i64 (k32 : Int) ∧ gt s 44 = .int .i64 (t.length : Int) ∧ gt s 45 = .int .i64 (k42 : Int) ∧ gt s 110 = .bool false ∧ H = H') (by simp (maxSteps := 1000000) only [↓runs, isCall, ↓reduceIte, ↓gd_true, ↓gd_false, evs, AV.cells, Nat.reduceEqDiff, Nat.reduceLT, reduceCtorEq, Nat.reduceAdd, sy, f55, f56, f62, f63, c65, c66, f71, f72, f78, f79, f85, f86, f92, f93, f99, f100, c102, c103, g0, g1, g2, g7, g8, g9, g34, g35, g39, g40, g44, g45, hl]) ?_;rintro s _ ⟨hl, g0, g1, g2, g7, g8, g34, g35, g39, g40, g44, g45, g110, rfl⟩;refine wpo_nil ?_;obtain rfl := Option.some.inj hj50;exact ⟨hl, g110, g0, g1, g2, g7, g8, g34, g35, g39, g40, g44, g45, rfl⟩
        ·replace hj50 := ifF c66 hj50;rcases Bool.eq_false_or_eq_true (!decide (side = 1)) with c146 | c146
         ·replace hj50 := ifT c146 hj50;obtain ⟨x147, e148, hj50⟩ := bn hj50;obtain ⟨p149, y150, f151, f152, h153⟩ := fz_at (k := .i64) hst h_0 e148 rfl;obtain ⟨x154, e155, hj50⟩ := bn hj50;obtain ⟨p156, _, f158, f159, rfl⟩ := fz_at (k := .i64) hst h153 e155 rfl;obtain ⟨x161, e162, hj50⟩ := bn hj50;obtain ⟨p163, _, f165, f166, rfl⟩ := fz_at (k := .i64) hst h_1 e162 rfl;obtain ⟨x168, e169, hj50⟩ := bn hj50;obtain ⟨p170, y171, f172, f173, h174⟩ := fz_at (k := .i64) hst h_0 e169 rfl;obtain ⟨x175, e176, hj50⟩ := bn hj50;obtain ⟨p177, _, f179, f180, rfl⟩ := fz_at (k := .i64) hst h174 e176 rfl;obtain ⟨x182, e183, hj50⟩ := bn hj50;obtain ⟨p184, _, f186, f187, rfl⟩ := fz_at (k := .i64) hst h_1 e183 rfl;refine wpo_seg hp0 63 (fun s H' => s.length = 114 ∧ gt s 0 = v_0 ∧ gt s 1 = v_1 ∧ gt s 2 = .int .i64 side ∧ gt s 7 = .int .i64 (k22 : Int) ∧ gt s 8 = .int .i64 (k32 : Int) ∧ gt s 34 = .int .i64 (t.length : Int) ∧ gt s 35 = .int .i64 (k22 : Int) ∧ gt s 39 = .int .i64 (t.length : Int) ∧ gt s 40 = .int .i64 (k32 : Int) ∧ gt s 44 = .int .i64 (t.length : Int) ∧ gt s 45 = .int .i64 (k42 : Int) ∧ gt s 110 = .bool (!decide (x161 = x182)) ∧ H = H') (by simp (maxSteps := 1000000) only [↓runs, isCall, ↓reduceIte, ↓gd_true, ↓gd_false, evs, AV.cells, Nat.reduceEqDiff, Nat.reduceLT, reduceCtorEq, Nat.reduceAdd, sy, f55, f56, f62, f63, c65, c66, c146, f151, f152, f158, f159, f165, f166, f172, f173, f179, f180, f186, f187, g0, g1, g2, g7, g8, g9, g34, g35, g39, g40, g44, g45, hl]) ?_;rintro s _ ⟨hl, g0, g1, g2, g7, g8, g34, g35, g39, g40, g44, g45, g110, rfl⟩;refine wpo_nil ?_;obtain rfl := Option.some.inj hj50;exact ⟨hl, g110, g0, g1, g2, g7, g8, g34, g35, g39, g40, g44, g45, rfl⟩
         ·replace hj50 := ifF c146 hj50;refine wpo_seg hp0 63 (fun s H' => s.length = 114 ∧ gt s 0 = v_0 ∧ gt s 1 = v_1 ∧ gt s 2 = .int .i64 side ∧ gt s 7 = .int .i64 (k22 : Int) ∧ gt s 8 = .int .i64 (k32 : Int) ∧ gt s 34 = .int .i64 (t.length : Int) ∧ gt s 35 = .int .i64 (k22 : Int) ∧ gt s 39 = .int .i64 (t.length : Int) ∧ gt s 40 = .int .i64 (k32 : Int) ∧ gt s 44 = .int .i64 (t.length : Int) ∧ gt s 45 = .int .i64 (k42 : Int) ∧ gt s 110 = .bool false ∧ H = H') (by simp (maxSteps := 1000000) only [↓runs, isCall, ↓reduceIte, ↓gd_true, ↓gd_false, evs, AV.cells, Nat.reduceEqDiff, Nat.reduceLT, reduceCtorEq, Nat.reduceAdd, sy, f55, f56, f62, f63, c65, c66, c146, g0, g1, g2, g7, g8, g9, g34, g35, g39, g40, g44, g45, hl]) ?_;rintro s _ ⟨hl, g0, g1, g2, g7, g8, g34, g35, g39, g40, g44, g45, g110, rfl⟩;refine wpo_nil ?_;obtain rfl := Option.some.inj hj50;exact ⟨hl, g110, g0, g1, g2, g7, g8, g34, g35, g39, g40, g44, g45, rfl⟩
       ·replace hj50 := ifF c65 hj50;refine wpo_seg hp0 63 (fun s H' => s.length = 114 ∧ gt s 0 = v_0 ∧ gt s 1 = v_1 ∧ gt s 2 = .int .i64 side ∧ gt s 7 = .int .i64 (k22 : Int) ∧ gt s 8 = .int .i64 (k32 : Int) ∧ gt s 34 = .int .i64 (t.length : Int) ∧ gt s 35 = .int .i64 (k22 : Int) ∧ gt s 39 = .int .i64 (t.length : Int) ∧ gt s 40 = .int .i64 (k32 : Int) ∧ gt s 44 = .int .i64 (t.length : Int) ∧ gt s 45 = .int .i64 (k42 : Int) ∧ gt s 110 = .bool false ∧ H = H') (by simp (maxSteps := 1000000) only [↓runs, isCall, ↓reduceIte, ↓gd_true, ↓gd_false, evs, AV.cells, Nat.reduceEqDiff, Nat.reduceLT, reduceCtorEq, Nat.reduceAdd, sy, f55, f56, f62, f63, c65, g0, g1, g2, g7, g8, g9, g34, g35, g39, g40, g44, g45, hl]) ?_;rintro s _ ⟨hl, g0, g1, g2, g7, g8, g34, g35, g39, g40, g44, g45, g110, rfl⟩;refine wpo_nil ?_;obtain rfl := Option.some.inj hj50;exact ⟨hl, g110, g0, g1, g2, g7, g8, g34, g35, g39, g40, g44, g45, rfl⟩
      ·rintro s _ ⟨hl, g110, g0, g1, g2, g7, g8, g34, g35, g39, g40, g44, g45, rfl⟩;refine then_n ?_;rcases Bool.eq_false_or_eq_true (z49) with c190 | c190
       ·replace hy44 := ifT c190 hy44;refine AM.wp_condT (by simp only [ev_t, ev_c, g110, c190]) ?_;refine AM.wp_seq hp0 (AM.wp_reg hp0 ?_);refine wpo_seg hp0 1 (fun s H' => s.length = 114 ∧ gt s 6 = .bool false ∧ H = H') (by simp only [↓runs, isCall, ↓reduceIte, ↓gd_true, ↓gd_false, evs, AV.cells, Nat.reduceEqDiff, Nat.reduceLT, reduceCtorEq, Nat.reduceAdd, sy, g0, g1, g2, g7, g8, g34, g35, g39, g40, g44, g45, g110, hl]) ?_;rintro s _ ⟨hl, g6, rfl⟩;refine wpo_nil (then_n ?_);refine AM.wp_ret ?_;refine rnd_r ?_;refine rnd_r ?_;refine rnd_r ?_;refine then_r ?_;obtain rfl := Option.some.inj hy44;have hx := hx45 _ rfl;subst hx;dsimp only at hy34;obtain rfl := Option.some.inj hy34;have hx := hx35 _ rfl;subst hx;dsimp only at hy24;obtain rfl := Option.some.inj hy24;have hx := hx25 _ rfl;subst hx;dsimp only at hp;obtain rfl := Option.some.inj hp;refine body_ret (vs := [.bool false]) (by simp only [rvs, f_semigroupref19_IsCongruence, Option.map_some, g6]) ?_;exact ⟨W, w17, hst, rfl⟩
       ·replace hy44 := ifF c190 hy44;refine AM.wp_condF (by simp only [ev_t, ev_c, g110, c190]) ?_;refine AM.wp_skip ?_;refine rnd_n ?_;obtain rfl := Option.some.inj hy44;exact ⟨_, rfl, hl, g45, g44, ⟨hl, g0, g1, g2, g7, g8, g34, g35, g39, g40, rfl⟩⟩
     ·rintro x191 s Hn hz hI;replace hI : (fun s H' => s.length = 114 ∧ gt s 0 = v_0 ∧ gt s 1 = v_1 ∧ gt s 2 = .int .i64 side ∧ gt s 7 = .int .i64 (k22 : Int) ∧ gt s 34 = .int .i64 (t.length : Int) ∧ gt s 35 = .int .i64 (k22 : Int) ∧ gt s 39 = .int .i64 (t.length : Int) ∧ gt s 40 = .int .i64 (k32 : Int) ∧ H = H') s Hn := by
       rcases hI with ⟨hI, -⟩ | ⟨_, hI⟩
       ·obtain ⟨hl, g0, g1, g2, g7, g8, g34, g35, g39, g40, e2⟩ := hI;exact ⟨hl, g0, g1, g2, g7, g34, g35, g39, g40, e2⟩
       ·exact hI
      subst hz;dsimp only at hy34 hI;obtain ⟨hl, g0, g1, g2, g7, g34, g35, g39, g40, rfl⟩ := hI;refine rnd_n ?_;obtain rfl := Option.some.inj hy34;exact ⟨_, rfl, hl, g40, g39, ⟨hl, g0, g1, g2, g7, g34, g35, rfl⟩⟩
    ·rintro x193 s Hn hz hI;replace hI : (fun s H' => s.length = 114 ∧ gt s 0 = v_0 ∧ gt s 1 = v_1 ∧ gt s 2 = .int .i64 side ∧ gt s 34 = .int .i64 (t.length : Int) ∧ gt s 35 = .int .i64 (k22 : Int) ∧ H = H') s Hn := by
      rcases hI with ⟨hI, -⟩ | ⟨_, hI⟩
      ·obtain ⟨hl, g0, g1, g2, g7, g34, g35, e2⟩ := hI;exact ⟨hl, g0, g1, g2, g34, g35, e2⟩
      ·exact hI
     subst hz;dsimp only at hy24 hI;obtain ⟨hl, g0, g1, g2, g34, g35, rfl⟩ := hI;refine rnd_n ?_;obtain rfl := Option.some.inj hy24;exact ⟨_, rfl, hl, g35, g34, ⟨hl, g0, g1, g2, rfl⟩⟩
   ·rintro x195 s Hn hz hI;replace hI : (fun s H' => s.length = 114 ∧ H = H') s Hn := by
     rcases hI with ⟨hI, -⟩ | ⟨_, hI⟩
     ·obtain ⟨hl, g0, g1, g2, e2⟩ := hI;exact ⟨hl, e2⟩
     ·exact hI
    subst hz;dsimp only at hp hI;obtain ⟨hl, rfl⟩ := hI;refine then_n ?_;refine AM.wp_seq hp0 (AM.wp_reg hp0 ?_);refine wpo_seg hp0 1 (fun s H' => s.length = 114 ∧ gt s 6 = .bool true ∧ H = H') (by simp only [↓runs, isCall, ↓reduceIte, ↓gd_true, ↓gd_false, evs, AV.cells, Nat.reduceEqDiff, Nat.reduceLT, reduceCtorEq, Nat.reduceAdd, sy, hl]) ?_;rintro s _ ⟨hl, g6, rfl⟩;refine wpo_nil (then_n ?_);refine AM.wp_ret ?_;obtain rfl := Option.some.inj hp;refine body_ret (vs := [.bool true]) (by simp only [rvs, f_semigroupref19_IsCongruence, Option.map_some, g6]) ?_;exact ⟨W, w17, hst, rfl⟩

end Go.Proofs.Ytmdpejgnkoneoaa.Pu
namespace Go.Proofs.Ytmdpejgnkoneoaa.Mt
open Go Go.AM Go.AM.Par Go.AM.Cg Go.AM.Lx Go.Proofs.Ytmdpejgnkoneoaa.Pu

def fstL (p : List Int) (k : Nat) : List Int := ((List.range k).filter (newB p)).map fun (i : Nat) => (i : Int)
theorem fst_new {p : List Int} {k : Nat} (h : isNew p k) : fstL p (k + 1) = fstL p k ++ [(k : Int)] := by
  unfold fstL; rw [List.range_succ, List.filter_append, List.filter_cons_of_pos (newB_iff.2 h)]; simp
theorem fst_old {p : List Int} {k : Nat} (h : ¬ isNew p k) : fstL p (k + 1) = fstL p k := by
  unfold fstL; rw [List.range_succ, List.filter_append, List.filter_cons_of_neg (fun h2 => h (newB_iff.1 h2))]; simp
theorem fst_len {p : List Int} : ∀ {k : Nat}, k ≤ p.length → (fstL p k).length = (nub (p.take k)).length
  | 0, _ => by simp [fstL, nub]
  | k + 1, h => by
    have ih := fst_len (p := p) (k := k) (by omega)
    by_cases hn : isNew p k
    · rw [fst_new hn, nub_new (by omega) hn]; simp [ih]
    · rw [fst_old hn, nub_old (by omega) hn]; exact ih
theorem fst_at {p : List Int} (hc : canonI p = p) : ∀ {k : Nat}, k ≤ p.length → ∀ c, c < (fstL p k).length → ∃ f : Nat, f < k ∧ (fstL p k).getD c 0 = (f : Int) ∧ p.getD f 0 = (c : Int)
  | 0, _, c, h => by simp [fstL] at h
  | k + 1, h, c, hcl => by
    by_cases hn : isNew p k
    · rw [fst_new hn] at hcl ⊢
      rcases Nat.lt_or_ge c (fstL p k).length with h5 | h5
      · obtain ⟨f, a, b, d⟩ := fst_at hc (k := k) (by omega) c h5
        exact ⟨f, by omega, by rw [List.getD_eq_getElem?_getD, List.getElem?_append_left h5, ← List.getD_eq_getElem?_getD]; exact b, d⟩
      · have : c = (fstL p k).length := by simp at hcl; omega
        subst this
        refine ⟨k, by omega, by simp [List.getD_eq_getElem?_getD], ?_⟩
        have := canonI_new (L := p) (k := k) (by omega) hn
        rw [hc] at this
        rw [this, fst_len (by omega)]
    · rw [fst_old hn] at hcl ⊢
      obtain ⟨f, a, b, d⟩ := fst_at hc (k := k) (by omega) c hcl
      exact ⟨f, by omega, b, d⟩
theorem firsts {p : List Int} (hv : validP p = true) : P_congr_firsts p = some (fstL p p.length) := by
  obtain ⟨hl, hc⟩ := validP_iff.1 hv
  unfold P_congr_firsts
  obtain ⟨y, hy, hQ⟩ := forS_inv (n := p.length) (f := fun k x => P_congr_firsts_l2 p k x) (x := []) (fun k x => x = fstL p k) (by simp [fstL]) (by
    rintro k _ hk rfl
    unfold P_congr_firsts_l2
    rw [gi_lt 0 hk]
    simp only [Option.bind_some]
    have h1 := fst_len (p := p) (k := k) (by omega)
    have h2 := nub_le p k (by omega)
    by_cases hn : isNew p k
    · have h3 := canonI_new hk hn
      rw [hc] at h3
      rw [if_pos (by rw [h3, h1]; simp), pus_ok (by simp; omega) (by omega)]
      exact ⟨_, rfl, (fst_new hn).symm⟩
    · have : ∃ i, i < k ∧ p.getD i 0 = p.getD k 0 := Classical.byContradiction fun hc => hn fun i hi e => hc ⟨i, hi, e⟩
      obtain ⟨i, hi, e⟩ := this
      have h3 := canonI_lt (L := p) (k := i) (by omega) hi (by omega)
      rw [hc, e] at h3
      rw [if_neg (by rw [h1]; simp only [decide_eq_true_eq]; omega)]
      exact ⟨_, rfl, (fst_old hn).symm⟩)
  rw [hy, hQ]; rfl

def CongL (n : Nat) (T : Nat → Nat → Nat) (sd : Int) (p : List Int) : Prop := p.length = n ∧ validP p = true ∧
  ∀ x y s, x < n → y < n → s < n → p.getD x 0 = p.getD y 0 → (sd ≠ 2 → p.getD (T s x) 0 = p.getD (T s y) 0) ∧ (sd ≠ 1 → p.getD (T x s) 0 = p.getD (T y s) 0)

theorem cmp2 {β : Type} {sd : Int} {A B C D : Option Int} {a b c d : Int} (hA : A = some a) (hB : B = some b) (hC : C = some c) (hD : D = some d) (f : Bool → Option β) :
    Option.bind (if !decide (sd = 2) then A.bind fun x => B.bind fun y => if !decide (x = y) then some true else if !decide (sd = 1) then C.bind fun z => D.bind fun w => some (!decide (z = w)) else some false
      else if !decide (sd = 1) then C.bind fun z => D.bind fun w => some (!decide (z = w)) else some false) f = f (!decide ((sd ≠ 2 → a = b) ∧ (sd ≠ 1 → c = d))) := by
  subst hA hB hC hD
  by_cases h2 : sd = 2
  · have h1 : ¬ sd = 1 := by omega
    by_cases e : c = d <;> simp [h2, e]
  · by_cases h1 : sd = 1
    · by_cases e : a = b <;> simp [h1, e]
    · by_cases e : a = b <;> by_cases e2 : c = d <;> simp [h1, h2, e, e2]

open Classical in
theorem is_spec {t : List (List Int)} {n : Nat} {T : Nat → Nat → Nat} (h : Tab t n T) (p : List Int) (sd : Int) : P_congr_is t p sd = some (decide (CongL n T sd p)) := by
  unfold P_congr_is
  rw [h.len, valid]
  by_cases hl : p.length = n
  · by_cases hv : validP p = true
    · rw [if_neg (by simp only [hl]; simp)]
      simp only [hv, Option.bind_some, Bool.not_true, Bool.false_eq_true, if_false]
      rw [firsts hv]
      simp only [Option.bind_some]
      have hself := IsP.self hv
      rw [hl] at hself
      obtain ⟨hvl, hvc⟩ := validP_iff.1 hv
      -- the first point of a class
      have fp : ∀ x, x < n → ∃ f : Nat, f < n ∧ gi (fstL p p.length) (p.getD x 0) = some (f : Int) ∧ p.getD f 0 = p.getD x 0 := fun x hx => by
        have hb := canonI_lt (L := p) (k := x) (m := p.length) (by omega) (by omega) (Nat.le_refl _)
        rw [hvc] at hb
        have hfl := fst_len (p := p) (k := p.length) (Nat.le_refl _)
        obtain ⟨f, a, b, c⟩ := fst_at hvc (Nat.le_refl _) (p.getD x 0).toNat (by omega)
        refine ⟨f, by omega, ?_, by rw [c]; omega⟩
        rw [gi_int 0 hb.1 (by omega), b]
      rw [look_const (ok := fun x => ∀ f s, f < n → p.getD f 0 = p.getD x 0 → gi (fstL p p.length) (p.getD x 0) = some (f : Int) → s < n → (sd ≠ 2 → p.getD (T s x) 0 = p.getD (T s f) 0) ∧ (sd ≠ 1 → p.getD (T x s) 0 = p.getD (T f s) 0)) (b := false) fun x hx => by
        have hx' : x < n := by omega
        unfold P_congr_is_l19
        rw [gi_lt 0 hx]
        simp only [Option.bind_some]
        obtain ⟨f, hf, e1, e2⟩ := fp x hx'
        rw [e1]
        simp only [Option.bind_some]
        rw [look_const (ok := fun s => (sd ≠ 2 → p.getD (T s x) 0 = p.getD (T s f) 0) ∧ (sd ≠ 1 → p.getD (T x s) 0 = p.getD (T f s) 0)) (b := false) fun s hs => by
          have hs' : s < n := by rw [← h.len]; exact hs
          have l1 := h.lt s x hs' hx'; have l2 := h.lt s f hs' hf; have l3 := h.lt x s hx' hs'; have l4 := h.lt f s hf hs'
          unfold P_congr_is_l43
          simp only [h.gi1 hs', h.gi1 hx', h.gi1 hf, Option.bind_some, h.gi2 hs' hx', h.gi2 hs' hf, h.gi2 hx' hs', h.gi2 hf hs']
          rw [cmp2 (gi_lt 0 (by omega)) (gi_lt 0 (by omega)) (gi_lt 0 (by omega)) (gi_lt 0 (by omega))]
          by_cases hh : (sd ≠ 2 → p.getD (T s x) 0 = p.getD (T s f) 0) ∧ (sd ≠ 1 → p.getD (T x s) 0 = p.getD (T f s) 0)
          · rw [if_pos hh, decide_eq_true hh]; rfl
          · rw [if_neg hh, decide_eq_false hh]; rfl]
        rw [h.len]
        by_cases hh : ∀ k, k < n → (sd ≠ 2 → p.getD (T k x) 0 = p.getD (T k f) 0) ∧ (sd ≠ 1 → p.getD (T x k) 0 = p.getD (T f k) 0)
        · rw [if_pos hh, if_pos fun f' s hf' e3 e4 hs => by
            have : f = f' := by have := Option.some.inj e4; omega
            subst this; exact hh s hs]
          rfl
        · rw [if_neg hh, if_neg fun h2 => hh fun k hk => h2 f k hf e2 rfl hk]
          rfl]
      by_cases hC : CongL n T sd p
      · rw [decide_eq_true hC, if_pos fun x hx f s hf e1 e2 hs => hC.2.2 x f s (by omega) hf hs e1.symm]
        rfl
      · rw [decide_eq_false hC, if_neg fun hh => hC ⟨hl, hv, fun x y s hx hy hs e => by
          obtain ⟨f, hf, e1, e2⟩ := fp x hx
          obtain ⟨g, hg, e3, e4⟩ := fp y hy
          have : f = g := by rw [e, e3] at e1; have := Option.some.inj e1; omega
          subst this
          have a := hh x (by omega) f s hf e2 e1 hs
          have b := hh y (by omega) f s hf e4 e3 hs
          exact ⟨fun q => (a.1 q).trans (b.1 q).symm, fun q => (a.2 q).trans (b.2 q).symm⟩⟩]
        rfl
    · rw [if_neg (by simp only [hl]; simp)]
      have hC : ¬ CongL n T sd p := fun hC => hv hC.2.1
      rw [decide_eq_false hC]
      have : validP p = false := by simpa using hv
      simp only [this, Option.bind_some, Bool.not_false, if_true]
  · rw [if_pos (by simp only [Bool.not_eq_true', decide_eq_false_iff_not]; omega)]
    have hC : ¬ CongL n T sd p := fun hC => hl hC.1
    rw [decide_eq_false hC]
    rfl

open Classical in
theorem ref_isCong {t : List (List Int)} {n : Nat} {T : Nat → Nat → Nat} (h : Sg t n T) (p : List Int) (sd : Int) : P_semigroupref19_IsCongruence t p sd = some (decide (CongL n T sd p ∧ 0 ≤ sd ∧ sd ≤ 2)) := by
  unfold P_semigroupref19_IsCongruence
  rw [ref_Valid, h.valid, h.len, ref_valid]
  simp only [Option.bind_some, decide_true, Bool.not_true, Bool.false_eq_true, if_false]
  by_cases hg : p.length = n ∧ validP p = true ∧ 0 ≤ sd ∧ sd ≤ 2
  · obtain ⟨hl, hv, h0, h2⟩ := hg
    rw [if_neg (by simp only [hl]; simp)]
    have c1 : decide (sd < 0) = false := by simp only [decide_eq_false_iff_not]; omega
    have c2 : decide (2 < sd) = false := by simp only [decide_eq_false_iff_not]; omega
    simp only [hv, c1, c2, Option.bind_some, Bool.not_true, Bool.false_eq_true, if_false]
    rw [look_const (ok := fun x => ∀ y s, y < n → s < n → p.getD x 0 = p.getD y 0 → (sd ≠ 2 → p.getD (T s x) 0 = p.getD (T s y) 0) ∧ (sd ≠ 1 → p.getD (T x s) 0 = p.getD (T y s) 0)) (b := false) fun x hx => by
      have hx' : x < n := hx
      unfold P_semigroupref19_IsCongruence_l20
      rw [look_const (ok := fun y => ∀ s, s < n → p.getD x 0 = p.getD y 0 → (sd ≠ 2 → p.getD (T s x) 0 = p.getD (T s y) 0) ∧ (sd ≠ 1 → p.getD (T x s) 0 = p.getD (T y s) 0)) (b := false) fun y hy => by
        have hy' : y < n := by rw [← h.len]; exact hy
        unfold P_semigroupref19_IsCongruence_l30
        rw [look_const (ok := fun s => p.getD x 0 = p.getD y 0 → (sd ≠ 2 → p.getD (T s x) 0 = p.getD (T s y) 0) ∧ (sd ≠ 1 → p.getD (T x s) 0 = p.getD (T y s) 0)) (b := false) fun s hs => by
          have hs' : s < n := by rw [← h.len]; exact hs
          have l1 := h.lt s x hs' hx'; have l2 := h.lt s y hs' hy'; have l3 := h.lt x s hx' hs'; have l4 := h.lt y s hy' hs'
          unfold P_semigroupref19_IsCongruence_l40
          have gp : ∀ k : Nat, k < n → gi p (k : Int) = some (p.getD k 0) := fun k hk => gi_lt 0 (by omega)
          simp only [h.gi1 hs', h.gi1 hx', h.gi1 hy', Option.bind_some, h.gi2 hs' hx', h.gi2 hs' hy', h.gi2 hx' hs', h.gi2 hy' hs', gp x hx', gp y hy']
          by_cases e : p.getD x 0 = p.getD y 0
          · rw [if_pos (by simp only [e, decide_true])]
            rw [cmp2 (gp _ l1) (gp _ l2) (gp _ l3) (gp _ l4)]
            by_cases hh : (sd ≠ 2 → p.getD (T s x) 0 = p.getD (T s y) 0) ∧ (sd ≠ 1 → p.getD (T x s) 0 = p.getD (T y s) 0)
            · have hk : (p.getD x 0 = p.getD y 0 → (sd ≠ 2 → p.getD (T s x) 0 = p.getD (T s y) 0) ∧ (sd ≠ 1 → p.getD (T x s) 0 = p.getD (T y s) 0)) := fun _ => hh
              rw [decide_eq_true hh, if_pos hk]; rfl
            · have hk : ¬ (p.getD x 0 = p.getD y 0 → (sd ≠ 2 → p.getD (T s x) 0 = p.getD (T s y) 0) ∧ (sd ≠ 1 → p.getD (T x s) 0 = p.getD (T y s) 0)) := fun h2 => hh (h2 e)
              rw [decide_eq_false hh, if_neg hk]; rfl
          · rw [if_neg (by simp only [e, decide_false]; exact Bool.false_ne_true), if_pos (fun h2 => absurd h2 e)]
            rfl]
        rw [h.len]
        by_cases hh : ∀ s, s < n → p.getD x 0 = p.getD y 0 → (sd ≠ 2 → p.getD (T s x) 0 = p.getD (T s y) 0) ∧ (sd ≠ 1 → p.getD (T x s) 0 = p.getD (T y s) 0)
        · rw [if_pos hh, if_pos hh]; rfl
        · rw [if_neg hh, if_neg hh]; rfl]
      rw [h.len]
      by_cases hh : ∀ y, y < n → ∀ s, s < n → p.getD x 0 = p.getD y 0 → (sd ≠ 2 → p.getD (T s x) 0 = p.getD (T s y) 0) ∧ (sd ≠ 1 → p.getD (T x s) 0 = p.getD (T y s) 0)
      · rw [if_pos hh, if_pos fun y s hy hs => hh y hy s hs]; rfl
      · rw [if_neg hh, if_neg fun h2 => hh fun y hy s hs => h2 y s hy hs]; rfl]
    by_cases hC : CongL n T sd p
    · rw [decide_eq_true (⟨hC, h0, h2⟩ : CongL n T sd p ∧ 0 ≤ sd ∧ sd ≤ 2), if_pos fun x hx y s hy hs e => hC.2.2 x y s hx hy hs e]
      rfl
    · rw [decide_eq_false fun h3 => hC h3.1, if_neg fun hh => hC ⟨hl, hv, fun x y s hx hy hs e => hh x hx y s hy hs e⟩]
      rfl
  · have hn : ¬ (CongL n T sd p ∧ 0 ≤ sd ∧ sd ≤ 2) := fun h3 => hg ⟨h3.1.1, h3.1.2.1, h3.2⟩
    rw [decide_eq_false hn]
    by_cases hl : p.length = n
    · rw [if_neg (by simp only [hl]; simp)]
      cases hv : validP p with
      | false => simp only [Bool.not_false, if_true, Option.bind_some]
      | true =>
        simp only [Option.bind_some, Bool.not_true, Bool.false_eq_true, if_false]
        by_cases c1 : sd < 0
        · simp only [decide_eq_true c1, if_true, Option.bind_some]
        · have c2 : 2 < sd := by
            refine Classical.byContradiction fun c2 => hg ⟨hl, hv, by omega, by omega⟩
          simp only [decide_eq_false c1, decide_eq_true c2, if_true, Option.bind_some, Bool.false_eq_true, if_false]
    · rw [if_pos (by simp only [Bool.not_eq_true', decide_eq_false_iff_not]; omega)]
      simp only [Option.bind_some, if_true]

theorem CongL.cgr {n : Nat} {T : Nat → Nat → Nat} {sd : Int} {p : List Int} (hT : ∀ x y, x < n → y < n → T x y < n) (h : CongL n T sd p) : Cgr n T sd (Ker n p) := by
  refine ⟨Ker.refl p, fun _ _ => Ker.symm, fun _ _ _ => Ker.trans, fun hs s x y h1 hx hy h2 => ?_, fun hs s x y h1 hx hy h2 => ?_⟩
  · exact (Ker.iff (hT _ _ h1 hx) (hT _ _ h1 hy)).2 ((h.2.2 x y s hx hy h1 ((Ker.iff hx hy).1 h2)).1 hs)
  · exact (Ker.iff (hT _ _ hx h1) (hT _ _ hy h1)).2 ((h.2.2 x y s hx hy h1 ((Ker.iff hx hy).1 h2)).2 hs)

def fpt (p : List Int) (c : Nat) : Nat := ((fstL p p.length).getD c 0).toNat
def ncl (p : List Int) : Nat := (nub p).length
theorem fpt_spec {p : List Int} (hv : validP p = true) {c : Nat} (hc : c < ncl p) : (fstL p p.length).getD c 0 = (fpt p c : Int) ∧ fpt p c < p.length ∧ p.getD (fpt p c) 0 = (c : Int) ∧ isNew p (fpt p c) := by
  obtain ⟨hl, hcn⟩ := validP_iff.1 hv
  have hlen := fst_len (p := p) (k := p.length) (Nat.le_refl _)
  rw [List.take_length] at hlen
  obtain ⟨f, a, b, d⟩ := fst_at hcn (Nat.le_refl _) c (by unfold ncl at hc; omega)
  have e : fpt p c = f := by unfold fpt; rw [b]; simp
  refine ⟨by rw [b, e], by omega, by rw [e]; exact d, ?_⟩
  have hm : (fstL p p.length).getD c 0 ∈ fstL p p.length := getD_mem (by unfold ncl at hc; omega)
  rw [b] at hm
  unfold fstL at hm
  obtain ⟨i, hi, hie⟩ := List.mem_map.1 hm
  have : i = f := by omega
  subst this
  rw [e]
  exact newB_iff.1 (List.mem_filter.1 hi).2
theorem ncl_lt {p : List Int} (hv : validP p = true) {k : Nat} (hk : k < p.length) : 0 ≤ p.getD k 0 ∧ p.getD k 0 < ncl p := by
  have := canonI_lt (L := p) (k := k) (m := p.length) hk hk (Nat.le_refl _)
  rw [(validP_iff.1 hv).2, List.take_length] at this
  exact this
theorem ncl_le (p : List Int) : ncl p ≤ p.length := by
  have := nub_le p p.length (Nat.le_refl _)
  rwa [List.take_length] at this
theorem ncl_pos {p : List Int} (hv : validP p = true) (h : 0 < p.length) : 0 < ncl p := by
  have := ncl_lt hv h; omega

def quoT (T : Nat → Nat → Nat) (p : List Int) (i j : Nat) : Nat := (p.getD (T (fpt p i) (fpt p j)) 0).toNat
def quoL (T : Nat → Nat → Nat) (p : List Int) : List (List Int) := tab (ncl p) fun i => tab (ncl p) fun j => (quoT T p i j : Int)

theorem quo_tab {n : Nat} {T : Nat → Nat → Nat} {t : List (List Int)} (h : Sg t n T) {p : List Int} (hC : CongL n T 0 p) : Sg (quoL T p) (ncl p) (quoT T p) := by
  obtain ⟨hl, hv, hcl⟩ := hC
  have hf : ∀ c, c < ncl p → fpt p c < n := fun c hc => by rw [← hl]; exact (fpt_spec hv hc).2.1
  have hlt : ∀ x y, x < ncl p → y < ncl p → (p.getD (T (fpt p x) (fpt p y)) 0 = (quoT T p x y : Int)) ∧ quoT T p x y < ncl p := fun x y hx hy => by
    have := ncl_lt hv (k := T (fpt p x) (fpt p y)) (by rw [hl]; exact h.lt _ _ (hf x hx) (hf y hy))
    unfold quoT; omega
  refine ⟨⟨by simp [quoL], ncl_pos hv (by rw [hl]; exact h.pos), Nat.le_trans (ncl_le p) (by rw [hl]; exact h.le), fun x hx => by unfold quoL; rw [tab_getD hx]; simp, fun x y hx hy => by unfold quoL; rw [tab_getD hx, tab_getD hy], fun x y hx hy => (hlt x y hx hy).2⟩, fun x y z hx hy hz => ?_⟩
  have fx := hf x hx; have fy := hf y hy; have fz := hf z hz
  obtain ⟨a1, a2⟩ := hlt x y hx hy
  obtain ⟨b1, b2⟩ := hlt y z hy hz
  have txy := h.lt _ _ fx fy; have tyz := h.lt _ _ fy fz
  have c1 := (fpt_spec hv a2).2.2.1
  have c2 := (fpt_spec hv b2).2.2.1
  have e1 : p.getD (T (fpt p (quoT T p x y)) (fpt p z)) 0 = p.getD (T (T (fpt p x) (fpt p y)) (fpt p z)) 0 := (hcl _ _ (fpt p z) (hf _ a2) txy fz (c1.trans a1.symm)).2 (by omega)
  have e2 : p.getD (T (fpt p x) (fpt p (quoT T p y z))) 0 = p.getD (T (fpt p x) (T (fpt p y) (fpt p z))) 0 := (hcl _ _ (fpt p x) (hf _ b2) tyz fx (c2.trans b1.symm)).1 (by omega)
  have h1 := (hlt _ z a2 hz).1
  have h2 := (hlt x _ hx b2).1
  rw [e1, h.assoc _ _ _ fx fy fz, ← e2, h2] at h1
  omega

open Classical in
theorem quotient {n : Nat} {T : Nat → Nat → Nat} {t : List (List Int)} (h : Sg t n T) (p : List Int) : P_congr_Quotient t p = some (if CongL n T 0 p then (quoL T p, 0) else ([], 1)) := by
  have h400 := h.le
  unfold P_congr_Quotient
  rw [validate, h.valid]
  simp only [Option.bind_some, Option.bind_none, decide_true, decide_false, Bool.not_true, Bool.not_false, Bool.true_and, Bool.and_true, Bool.false_eq_true, if_true, if_false, not_true_eq_false, not_false_eq_true, ite_true, ite_false, Bool.not_eq_true, decide_eq_true_eq, decide_eq_false_iff_not, Bool.not_eq_true', Bool.not_eq_false', Option.getD_some, Option.getD_none, Option.isSome_some, Option.isSome_none, Option.isNone_some, Option.isNone_none, eq_self, forall_const, true_implies, false_implies, implies_true]
  rw [is_spec h.toTab]
  simp only [Option.bind_some]
  by_cases hC : CongL n T 0 p
  · rw [decide_eq_true hC, if_pos hC]
    simp only [Bool.not_true, Bool.true_eq_false, Bool.false_eq_true, if_false]
    obtain ⟨hl, hv, hcl⟩ := hC
    rw [firsts hv]
    simp only [Option.bind_some]
    have hlen : (fstL p p.length).length = ncl p := by
      have := fst_len (p := p) (k := p.length) (Nat.le_refl _)
      rw [List.take_length] at this; exact this
    have hle := ncl_le p
    rw [hlen, mkz_ok (by omega) (by omega)]
    simp only [Option.bind_some]
    have hf : ∀ c, c < ncl p → fpt p c < n := fun c hc => by rw [← hl]; exact (fpt_spec hv hc).2.1
    have gf : ∀ c : Nat, c < ncl p → gi (fstL p p.length) (c : Int) = some (fpt p c : Int) := fun c hc => by
      rw [gi_lt 0 (by omega), (fpt_spec hv hc).1]
    have hval : ∀ i j, i < ncl p → j < ncl p → gi p (T (fpt p i) (fpt p j) : Int) = some (quoT T p i j : Int) := fun i j hi hj => by
      have hk : T (fpt p i) (fpt p j) < p.length := by rw [hl]; exact h.lt _ _ (hf i hi) (hf j hj)
      have := ncl_lt hv hk
      rw [gi_lt 0 hk]; unfold quoT; congr 1; omega
    obtain ⟨y, hy, h1, h2⟩ := forS_inv (n := ncl p) (f := fun k x => P_congr_Quotient_l29 p (fstL p p.length) t k x) (x := List.replicate (ncl p) [])
      (fun k X => X.length = ncl p ∧ ∀ i, i < k → X.getD i [] = tab (ncl p) fun j => (quoT T p i j : Int)) ⟨by simp, fun i hi => by omega⟩ (by
        rintro i X hi ⟨h1, h2⟩
        unfold P_congr_Quotient_l29
        rw [gf i hi, hlen, mkz_ok (by omega) (by omega)]
        simp only [Option.bind_some]
        rw [gi_lt [] (by omega)]
        simp only [Option.bind_some, Int.toNat_natCast]
        obtain ⟨y, hy, q1, q2, q3, q4⟩ := forS_inv (n := ncl p) (f := fun k x => P_congr_Quotient_l76 i p (fstL p p.length) t (fpt p i : Int) k x) (x := X.set i (List.replicate (ncl p) 0))
          (fun j Y => Y.length = ncl p ∧ (∀ q, q ≠ i → Y.getD q [] = X.getD q []) ∧ (Y.getD i []).length = ncl p ∧ ∀ q, q < j → (Y.getD i []).getD q 0 = (quoT T p i q : Int))
          ⟨by simp [h1], fun q hq => by rw [getD_set', if_neg (fun h => hq h.1.symm)], by rw [getD_set', if_pos ⟨rfl, by omega⟩]; simp, fun q hq => by omega⟩ (by
            rintro j Y hj ⟨q1, q2, q3, q4⟩
            unfold P_congr_Quotient_l76
            rw [gf j hj, gi_lt [] (by omega)]
            simp only [Option.bind_some]
            rw [h.gi1 (hf i hi)]; simp only [Option.bind_some]
            rw [h.gi2 (hf i hi) (hf j hj)]; simp only [Option.bind_some]
            rw [hval i j hi hj]; simp only [Option.bind_some]
            rw [si_lt (by omega)]
            refine ⟨_, rfl, by simpa using q1, fun q hq => ?_, ?_, fun q hq => ?_⟩
            · rw [Int.toNat_natCast, getD_set', if_neg (fun h => hq h.1.symm)]; exact q2 q hq
            · rw [Int.toNat_natCast, getD_set', if_pos ⟨rfl, by omega⟩]; simpa using q3
            · rw [Int.toNat_natCast, getD_set', if_pos ⟨rfl, by omega⟩, getD_set']
              split
              · rename_i e; rw [e.1]
              · rename_i e
                exact q4 q (by
                  rcases Nat.lt_or_ge q j with h | h
                  · exact h
                  · exact absurd ⟨by omega, by omega⟩ e))
        rw [hy]
        refine ⟨_, rfl, q1, fun q hq => ?_⟩
        by_cases e : q = i
        · subst e
          exact list_ext 0 (by simpa using q3) fun w hw => by rw [q4 w (by omega), tab_getD (by omega)]
        · rw [q2 q e]; exact h2 q (by omega))
    rw [hy]
    simp only [Option.bind_some, Option.some.injEq, Prod.mk.injEq, and_true]
    exact list_ext [] (by simp [quoL, h1]) fun i hi => by rw [h2 i (by omega)]; unfold quoL; rw [tab_getD (by omega)]
  · rw [decide_eq_false hC, if_neg hC]
    rfl

end Go.Proofs.Ytmdpejgnkoneoaa.Mt
set_option maxRecDepth 100000
set_option maxHeartbeats 4000000
namespace Go.Proofs.Ytmdpejgnkoneoaa.Pu
open Go Go.AM Go.Proofs.Ytmdpejgnkoneoaa.Code

noncomputable def P_subdirect_meet_l8 (but : Int) (list : List (List Int)) (k10 : Nat) (x9 : List Int) : Option ((List Int)) :=
 Option.bind (gi list (k10 : Int)) fun x21 =>
 if !decide ((k10 : Int) = but) then
  Option.bind (P_partition_Meet x9 x21) fun r31 =>
  some r31
 else
  some x9
noncomputable def P_subdirect_meet (n : Int) (list : List (List Int)) (but : Int) : Option ((List Int)) :=
 Option.bind (P_partition_Trivial n) fun r1 =>
 Option.bind (forS list.length (fun k x => P_subdirect_meet_l8 but list k x) r1) fun z14 =>
 some z14
theorem R_subdirect_meet {G : List Frag} {W H : AH} {v_1 : AV} {n : Int} {list : List (List Int)} {but : Int} (hst : St G W H) (h_1 : Rp.rv W v_1 list) {r : (List Int)} (hp : P_subdirect_meet n list but = some r) :
  wpc E0 N_subdirect_meet [.int .i64 n, v_1, .int .i64 but] H fun rv H' => ∃ W', Wle W W' ∧ ∃ (g0 : Frag), St (g0 :: G) W' H' ∧ OwS W' rv g0 (r : List Int) := by
 refine enterN (F := f_subdirect_meet) rfl (Nat.le_of_ble_eq_true rfl) fun s hl hg => ?_;replace hl : s.length = 27 := hl;have g0 : gt s 0 = .int .i64 n := hg 0 (Nat.le_of_ble_eq_true rfl);have g1 : gt s 1 = v_1 := hg 1 (Nat.le_of_ble_eq_true rfl);have g2 : gt s 2 = .int .i64 but := hg 2 (Nat.le_of_ble_eq_true rfl);clear hg;unfold P_subdirect_meet at hp;show wp E0 c_subdirect_meet s H _;unfold c_subdirect_meet;refine AM.wp_seq hp0 (AM.wp_reg hp0 ?_);refine wpo_seg hp0 1 (fun s H' => s.length = 27 ∧ gt s 0 = .int .i64 n ∧ gt s 1 = v_1 ∧ gt s 2 = .int .i64 but ∧ H = H') (by simp only [↓runs, isCall, ↓reduceIte, ↓gd_true, ↓gd_false, evs, AV.cells, Nat.reduceEqDiff, Nat.reduceLT, reduceCtorEq, Nat.reduceAdd, sy, g0, g1, g2, hl]) ?_;rintro s _ ⟨hl, g0, g1, g2, rfl⟩;refine wpo_nil (then_n ?_);refine AM.wp_seq hp0 (AM.wp_reg hp0 ?_);refine wpo_seg hp0 1 (fun s H' => s.length = 27 ∧ gt s 1 = v_1 ∧ gt s 2 = .int .i64 but ∧ gt s 10 = .int .i64 n ∧ H = H') (by simp only [↓runs, isCall, ↓reduceIte, ↓gd_true, ↓gd_false, evs, AV.cells, Nat.reduceEqDiff, Nat.reduceLT, reduceCtorEq, Nat.reduceAdd, sy, g0, g1, g2, hl]) ?_;rintro s _ ⟨hl, g1, g2, g10, rfl⟩;obtain ⟨r1, e2, hp⟩ := bn hp;refine wpo_callK hp0 rfl (ys := [.int .i64 n]) (by simp only [evs, List.map_cons, List.map_nil, ev_t, ev_c, g10]) (R_partition_Trivial hst e2) ?_;rintro rv3 H ⟨W, w4, fg5, hst, o6⟩;replace h_1 := Rp.mono w4 h_1;refine wpo_seg hp0 1 (fun s H' => s.length = 27 ∧ gt s 1 = v_1 ∧ gt s 2 = .int .i64 but ∧ gt s 7 = rv3 ∧ H = H') (by simp only [↓runs, isCall, ↓reduceIte, ↓gd_true, ↓gd_false, evs, AV.cells, Nat.reduceEqDiff, Nat.reduceLT, reduceCtorEq, Nat.reduceAdd, sy, gt_other, g1, g2, g10, hl]) ?_;rintro s _ ⟨hl, g1, g2, g7, rfl⟩;refine wpo_nil (then_n ?_);refine AM.wp_seq hp0 (AM.wp_seq hp0 (AM.wp_reg hp0 ?_));have f7 := fz_ln h_1;refine wpo_seg hp0 3 (fun s H' => s.length = 27 ∧ gt s 2 = .int .i64 but ∧ gt s 7 = rv3 ∧ gt s 12 = v_1 ∧ gt s 13 = .int .i64 (list.length : Int) ∧ gt s 14 = .int .i64 0 ∧ H = H') (by simp only [↓runs, isCall, ↓reduceIte, ↓gd_true, ↓gd_false, evs, AV.cells, Nat.reduceEqDiff, Nat.reduceLT, reduceCtorEq, Nat.reduceAdd, sy, f7, g1, g2, g7, hl]) ?_;rintro s _ ⟨hl, g2, g7, g12, g13, g14, rfl⟩;refine wpo_nil (then_n ?_);obtain ⟨z14, e15, hp⟩ := bn hp;refine rangeS_ref hp0 27 list.length (fun k x => P_subdirect_meet_l8 but list k x) (fun _ x s H' => ∃ (W' : AH) (w7 : AV) (q7 : Frag), s.length = 27 ∧ gt s 7 = w7 ∧ gt s 2 = .int .i64 but ∧ gt s 12 = v_1 ∧  Wle W W' ∧ St (q7 :: G) W' H' ∧ OwS W' w7 q7 (x : List Int)) e15 (fz_big h_1) rfl ?_ ?_ hl g14 g13 ?_ ?_
 ·intro k x s H d v hd h; rcases hd with rfl | rfl | rfl <;> simpa only [gt_other, pt_length, Nat.reduceEqDiff, not_false_eq_true] using h
 ·exact ⟨W, _, _, hl, g7, g2, g12, .refl _, hst, o6⟩
 ·intro k10 x9 y11 s H hk hI hl g14 g13 hy12;change P_subdirect_meet_l8 but list k10 x9 = some y11 at hy12;unfold P_subdirect_meet_l8 at hy12;obtain ⟨W, v18, fg19, hl, g7, g2, g12, w17, hst, o20⟩ := hI;replace h_1 := Rp.mono w17 h_1;refine AM.wp_seq hp0 (AM.wp_reg hp0 ?_);obtain ⟨x21, e22, hy12⟩ := bn hy12;obtain ⟨p23, y24, f25, f26, h27⟩ := fz_at (k := .i64) hst h_1 e22 rfl;refine wpo_seg hp0 5 (fun s H' => s.length = 27 ∧ gt s 2 = .int .i64 but ∧ gt s 7 = v18 ∧ gt s 8 = .int .i64 (k10 : Int) ∧ gt s 9 = y24 ∧ gt s 12 = v_1 ∧ gt s 13 = .int .i64 (list.length : Int) ∧ gt s 14 = .int .i64 (k10 : Int) ∧ H = H') (by simp only [↓runs, isCall, ↓reduceIte, ↓gd_true, ↓gd_false, evs, AV.cells, Nat.reduceEqDiff, Nat.reduceLT, reduceCtorEq, Nat.reduceAdd, sy, f25, f26, g2, g7, g12, g13, g14, hl]) ?_;rintro s _ ⟨hl, g2, g7, g8, g9, g12, g13, g14, rfl⟩;refine wpo_nil (then_n ?_);refine AM.wp_seq hp0 (AM.wp_reg hp0 ?_);refine wpo_seg hp0 3 (fun s H' => s.length = 27 ∧ gt s 2 = .int .i64 but ∧ gt s 7 = v18 ∧ gt s 9 = y24 ∧ gt s 12 = v_1 ∧ gt s 13 = .int .i64 (list.length : Int) ∧ gt s 14 = .int .i64 (k10 : Int) ∧ gt s 21 = .bool (!decide ((k10 : Int) = but)) ∧ H = H') (by simp only [↓runs, isCall, ↓reduceIte, ↓gd_true, ↓gd_false, evs, AV.cells, Nat.reduceEqDiff, Nat.reduceLT, reduceCtorEq, Nat.reduceAdd, sy, g2, g7, g8, g9, g12, g13, g14, hl]) ?_;rintro s _ ⟨hl, g2, g7, g9, g12, g13, g14, g21, rfl⟩;refine wpo_nil (then_n ?_);rcases Bool.eq_false_or_eq_true (!decide ((k10 : Int) = but)) with c28 | c28
  ·replace hy12 := ifT c28 hy12;refine AM.wp_condT (by simp only [ev_t, ev_c, g21, c28]) ?_;refine AM.wp_reg hp0 ?_;refine wpo_seg hp0 2 (fun s H' => s.length = 27 ∧ gt s 2 = .int .i64 but ∧ gt s 7 = v18 ∧ gt s 12 = v_1 ∧ gt s 13 = .int .i64 (list.length : Int) ∧ gt s 14 = .int .i64 (k10 : Int) ∧ gt s 22 = v18 ∧ gt s 23 = y24 ∧ H = H') (by simp only [↓runs, isCall, ↓reduceIte, ↓gd_true, ↓gd_false, evs, AV.cells, Nat.reduceEqDiff, Nat.reduceLT, reduceCtorEq, Nat.reduceAdd, sy, g2, g7, g9, g12, g13, g14, g21, hl]) ?_;rintro s _ ⟨hl, g2, g7, g12, g13, g14, g22, g23, rfl⟩;obtain ⟨W, w30, hst, h29⟩ := ow_frz hst o20;replace h_1 := Rp.mono w30 h_1;replace h27 := Rp.mono w30 h27;obtain ⟨r31, e32, hy12⟩ := bn hy12;refine wpo_callK hp0 rfl (ys := [v18, y24]) (by simp only [evs, List.map_cons, List.map_nil, ev_t, ev_c, g22, g23]) (R_partition_Meet hst h29 h27 e32) ?_;rintro rv33 H ⟨W, w34, fg35, hst, o36⟩;replace h_1 := Rp.mono w34 h_1;replace h27 := Rp.mono w34 h27;replace h29 := Rp.mono w34 h29;refine wpo_seg hp0 1 (fun s H' => s.length = 27 ∧ gt s 2 = .int .i64 but ∧ gt s 7 = rv33 ∧ gt s 12 = v_1 ∧ gt s 13 = .int .i64 (list.length : Int) ∧ gt s 14 = .int .i64 (k10 : Int) ∧ H = H') (by simp only [↓runs, isCall, ↓reduceIte, ↓gd_true, ↓gd_false, evs, AV.cells, Nat.reduceEqDiff, Nat.reduceLT, reduceCtorEq, Nat.reduceAdd, sy, gt_other, g2, g7, g12, g13, g14, g22, g23, hl]) ?_;rintro s _ ⟨hl, g2, g7, g12, g13, g14, rfl⟩;refine wpo_nil ?_;refine rnd_n ?_;obtain rfl := Option.some.inj hy12;exact ⟨hl, g14, g13, ⟨W, _, _, hl, g7, g2, g12, ((w17.trans w30).trans w34), hst, o36⟩⟩
  ·replace hy12 := ifF c28 hy12;refine AM.wp_condF (by simp only [ev_t, ev_c, g21, c28]) ?_;refine AM.wp_skip ?_;refine rnd_n ?_;obtain rfl := Option.some.inj hy12;exact ⟨hl, g14, g13, ⟨W, _, _, hl, g7, g2, g12, w17, hst, o20⟩⟩
 ·rintro s H hI _;obtain ⟨W, v38, fg39, hl, g7, g2, g12, w37, hst, o40⟩ := hI;replace h_1 := Rp.mono w37 h_1;refine then_n ?_;refine AM.wp_seq hp0 (AM.wp_reg hp0 ?_);refine wpo_seg hp0 2 (fun s H' => s.length = 27 ∧ gt s 6 = v38 ∧ H = H') (by simp only [↓runs, isCall, ↓reduceIte, ↓gd_true, ↓gd_false, evs, AV.cells, Nat.reduceEqDiff, Nat.reduceLT, reduceCtorEq, Nat.reduceAdd, sy, g2, g7, g12, hl]) ?_;rintro s _ ⟨hl, g6, rfl⟩;refine wpo_nil (then_n ?_);refine AM.wp_ret ?_;obtain rfl := Option.some.inj hp;refine body_ret (vs := [v38]) (by simp only [rvs, f_subdirect_meet, Option.map_some, g6]) ?_;exact ⟨W, (w4.trans w37), _, hst, o40⟩

end Go.Proofs.Ytmdpejgnkoneoaa.Pu
