/- Part 6 of the proof that the law SubdirectTurned holds: words and lemmas it rests on. No condition. -/
import Derived.Test.YtmdpejgnkoneoaaT5
set_option linter.unusedSimpArgs false
set_option linter.unusedVariables false
set_option linter.unnecessarySimpa false
set_option linter.unusedSectionVars false
set_option maxRecDepth 100000
set_option maxHeartbeats 4000000
namespace Go.Proofs.Ytmdpejgnkoneoaa.Pu
open Go Go.AM Go.Proofs.Ytmdpejgnkoneoaa.Code

noncomputable def P_partition_Trivial (n : Int) : Option ((List Int)) :=
 Option.bind (
  if decide (n < 0) then
   some true
  else
   some (decide (4096 < n))) fun z1 =>
 if z1 then
  some []
 else
  Option.bind (mkz (α := Int) 8 n n 0) fun x7 =>
  some x7
theorem R_partition_Trivial {G : List Frag} {W H : AH} {n : Int} (hst : St G W H) {r : (List Int)} (hp : P_partition_Trivial n = some r) :
  wpc E0 N_partition_Trivial [.int .i64 n] H fun rv H' => ∃ W', Wle W W' ∧ ∃ (g0 : Frag), St (g0 :: G) W' H' ∧ OwS W' rv g0 (r : List Int) := by
 refine enterN (F := f_partition_Trivial) rfl (Nat.le_of_ble_eq_true rfl) fun s hl hg => ?_;replace hl : s.length = 11 := hl;have g0 : gt s 0 = .int .i64 n := hg 0 (Nat.le_of_ble_eq_true rfl);clear hg;unfold P_partition_Trivial at hp;show wp E0 c_partition_Trivial s H _;unfold c_partition_Trivial;refine AM.wp_seq hp0 (AM.wp_reg hp0 ?_);refine wpo_seg hp0 1 (fun s H' => s.length = 11 ∧ gt s 0 = .int .i64 n ∧ H = H') (by simp only [↓runs, isCall, ↓reduceIte, ↓gd_true, ↓gd_false, evs, AV.cells, Nat.reduceEqDiff, Nat.reduceLT, reduceCtorEq, Nat.reduceAdd, sy, g0, hl]) ?_;rintro s _ ⟨hl, g0, rfl⟩;refine wpo_nil (then_n ?_);refine AM.wp_seq hp0 (AM.wp_seq hp0 ?_);obtain ⟨z1, hj2, hp⟩ := bn hp;refine AM.wp_regK hp0 (fun s H' => s.length = 11 ∧ gt s 8 = .bool z1 ∧ gt s 0 = .int .i64 n ∧ H = H') ?_ ?_
 ·rcases Bool.eq_false_or_eq_true (decide (n < 0)) with c3 | c3
  ·replace hj2 := ifT c3 hj2;refine wpo_seg hp0 6 (fun s H' => s.length = 11 ∧ gt s 0 = .int .i64 n ∧ gt s 8 = .bool true ∧ H = H') (by simp only [↓runs, isCall, ↓reduceIte, ↓gd_true, ↓gd_false, evs, AV.cells, Nat.reduceEqDiff, Nat.reduceLT, reduceCtorEq, Nat.reduceAdd, sy, c3, g0, hl]) ?_;rintro s _ ⟨hl, g0, g8, rfl⟩;refine wpo_nil ?_;obtain rfl := Option.some.inj hj2;exact ⟨hl, g8, g0, rfl⟩
  ·replace hj2 := ifF c3 hj2;refine wpo_seg hp0 6 (fun s H' => s.length = 11 ∧ gt s 0 = .int .i64 n ∧ gt s 8 = .bool (decide (4096 < n)) ∧ H = H') (by simp only [↓runs, isCall, ↓reduceIte, ↓gd_true, ↓gd_false, evs, AV.cells, Nat.reduceEqDiff, Nat.reduceLT, reduceCtorEq, Nat.reduceAdd, sy, c3, g0, hl]) ?_;rintro s _ ⟨hl, g0, g8, rfl⟩;refine wpo_nil ?_;obtain rfl := Option.some.inj hj2;exact ⟨hl, g8, g0, rfl⟩
 ·rintro s _ ⟨hl, g8, g0, rfl⟩;refine then_n ?_;rcases Bool.eq_false_or_eq_true (z1) with c5 | c5
  ·replace hp := ifT c5 hp;refine AM.wp_condT (by simp only [ev_t, ev_c, g8, c5]) ?_;refine AM.wp_seq hp0 (AM.wp_reg hp0 ?_);refine wpo_seg hp0 1 (fun s H' => s.length = 11 ∧ gt s 2 = .nils ∧ H = H') (by simp only [↓runs, isCall, ↓reduceIte, ↓gd_true, ↓gd_false, evs, AV.cells, Nat.reduceEqDiff, Nat.reduceLT, reduceCtorEq, Nat.reduceAdd, sy, g0, g8, hl]) ?_;rintro s _ ⟨hl, g2, rfl⟩;refine wpo_nil (then_n ?_);refine AM.wp_ret ?_;refine then_r ?_;replace hst := hst.nil;have o6 := ow_nil (α := Int) W;obtain rfl := Option.some.inj hp;refine body_ret (vs := [.nils]) (by simp only [rvs, f_partition_Trivial, Option.map_some, g2]) ?_;exact ⟨W, .refl _, _, hst, o6⟩
  ·replace hp := ifF c5 hp;refine AM.wp_condF (by simp only [ev_t, ev_c, g8, c5]) ?_;refine AM.wp_skip ?_;refine then_n ?_;refine AM.wp_seq hp0 (AM.wp_reg hp0 ?_);obtain ⟨x7, e8, hp⟩ := bn hp;obtain ⟨v9, H10, fg11, W, f13, w12, hst, o14⟩ := ow_mk (kn := .i64) (kc := .i64) hst (show Rp.rv _ (.int .i64 0) (0 : Int) from rfl) [.int .i64 0] rfl e8;refine wpo_seg hp0 3 (fun s H' => s.length = 11 ∧ gt s 2 = v9 ∧ H10 = H') (by simp only [↓runs, isCall, ↓reduceIte, ↓gd_true, ↓gd_false, evs, AV.cells, Nat.reduceEqDiff, Nat.reduceLT, reduceCtorEq, Nat.reduceAdd, sy, f13, g0, g8, hl]) ?_;rintro s _ ⟨hl, g2, rfl⟩;refine wpo_nil (then_n ?_);refine AM.wp_ret ?_;obtain rfl := Option.some.inj hp;refine body_ret (vs := [v9]) (by simp only [rvs, f_partition_Trivial, Option.map_some, g2]) ?_;exact ⟨W, w12, _, hst, o14⟩

end Go.Proofs.Ytmdpejgnkoneoaa.Pu
set_option maxRecDepth 100000
set_option maxHeartbeats 4000000
namespace Go.Proofs.Ytmdpejgnkoneoaa.Pu
open Go Go.AM Go.Proofs.Ytmdpejgnkoneoaa.Code

noncomputable def P_partition_Discrete_l17 (k19 : Nat) (x18 : List Int) : Option ((List Int)) :=
 Option.bind (si x18 (k19 : Int) (k19 : Int)) fun x29 =>
 some x29
noncomputable def P_partition_Discrete (n : Int) : Option ((List Int)) :=
 Option.bind (
  if decide (n < 0) then
   some true
  else
   some (decide (4096 < n))) fun z1 =>
 if z1 then
  some []
 else
  Option.bind (mkz (α := Int) 8 n n 0) fun x7 =>
  Option.bind (forS x7.length (fun k x => P_partition_Discrete_l17 k x) x7) fun z23 =>
  some z23
theorem R_partition_Discrete {G : List Frag} {W H : AH} {n : Int} (hst : St G W H) {r : (List Int)} (hp : P_partition_Discrete n = some r) :
  wpc E0 N_partition_Discrete [.int .i64 n] H fun rv H' => ∃ W', Wle W W' ∧ ∃ (g0 : Frag), St (g0 :: G) W' H' ∧ OwS W' rv g0 (r : List Int) := by
 refine enterN (F := f_partition_Discrete) rfl (Nat.le_of_ble_eq_true rfl) fun s hl hg => ?_;replace hl : s.length = 24 := hl;have g0 : gt s 0 = .int .i64 n := hg 0 (Nat.le_of_ble_eq_true rfl);clear hg;unfold P_partition_Discrete at hp;show wp E0 c_partition_Discrete s H _;unfold c_partition_Discrete;refine AM.wp_seq hp0 (AM.wp_reg hp0 ?_);refine wpo_seg hp0 1 (fun s H' => s.length = 24 ∧ gt s 0 = .int .i64 n ∧ H = H') (by simp only [↓runs, isCall, ↓reduceIte, ↓gd_true, ↓gd_false, evs, AV.cells, Nat.reduceEqDiff, Nat.reduceLT, reduceCtorEq, Nat.reduceAdd, sy, g0, hl]) ?_;rintro s _ ⟨hl, g0, rfl⟩;refine wpo_nil (then_n ?_);refine AM.wp_seq hp0 (AM.wp_seq hp0 ?_);obtain ⟨z1, hj2, hp⟩ := bn hp;refine AM.wp_regK hp0 (fun s H' => s.length = 24 ∧ gt s 10 = .bool z1 ∧ gt s 0 = .int .i64 n ∧ H = H') ?_ ?_
 ·rcases Bool.eq_false_or_eq_true (decide (n < 0)) with c3 | c3
  ·replace hj2 := ifT c3 hj2;refine wpo_seg hp0 6 (fun s H' => s.length = 24 ∧ gt s 0 = .int .i64 n ∧ gt s 10 = .bool true ∧ H = H') (by simp only [↓runs, isCall, ↓reduceIte, ↓gd_true, ↓gd_false, evs, AV.cells, Nat.reduceEqDiff, Nat.reduceLT, reduceCtorEq, Nat.reduceAdd, sy, c3, g0, hl]) ?_;rintro s _ ⟨hl, g0, g10, rfl⟩;refine wpo_nil ?_;obtain rfl := Option.some.inj hj2;exact ⟨hl, g10, g0, rfl⟩
  ·replace hj2 := ifF c3 hj2;refine wpo_seg hp0 6 (fun s H' => s.length = 24 ∧ gt s 0 = .int .i64 n ∧ gt s 10 = .bool (decide (4096 < n)) ∧ H = H') (by simp only [↓runs, isCall, ↓reduceIte, ↓gd_true, ↓gd_false, evs, AV.cells, Nat.reduceEqDiff, Nat.reduceLT, reduceCtorEq, Nat.reduceAdd, sy, c3, g0, hl]) ?_;rintro s _ ⟨hl, g0, g10, rfl⟩;refine wpo_nil ?_;obtain rfl := Option.some.inj hj2;exact ⟨hl, g10, g0, rfl⟩
 ·rintro s _ ⟨hl, g10, g0, rfl⟩;refine then_n ?_;rcases Bool.eq_false_or_eq_true (z1) with c5 | c5
  ·replace hp := ifT c5 hp;refine AM.wp_condT (by simp only [ev_t, ev_c, g10, c5]) ?_;refine AM.wp_seq hp0 (AM.wp_reg hp0 ?_);refine wpo_seg hp0 1 (fun s H' => s.length = 24 ∧ gt s 2 = .nils ∧ H = H') (by simp only [↓runs, isCall, ↓reduceIte, ↓gd_true, ↓gd_false, evs, AV.cells, Nat.reduceEqDiff, Nat.reduceLT, reduceCtorEq, Nat.reduceAdd, sy, g0, g10, hl]) ?_;rintro s _ ⟨hl, g2, rfl⟩;refine wpo_nil (then_n ?_);refine AM.wp_ret ?_;refine then_r ?_;replace hst := hst.nil;have o6 := ow_nil (α := Int) W;obtain rfl := Option.some.inj hp;refine body_ret (vs := [.nils]) (by simp only [rvs, f_partition_Discrete, Option.map_some, g2]) ?_;exact ⟨W, .refl _, _, hst, o6⟩
  ·replace hp := ifF c5 hp;refine AM.wp_condF (by simp only [ev_t, ev_c, g10, c5]) ?_;refine AM.wp_skip ?_;refine then_n ?_;refine AM.wp_seq hp0 (AM.wp_reg hp0 ?_);obtain ⟨x7, e8, hp⟩ := bn hp;obtain ⟨v9, H10, fg11, W, f13, w12, hst, o14⟩ := ow_mk (kn := .i64) (kc := .i64) hst (show Rp.rv _ (.int .i64 0) (0 : Int) from rfl) [.int .i64 0] rfl e8;refine wpo_seg hp0 3 (fun s H' => s.length = 24 ∧ gt s 3 = v9 ∧ H10 = H') (by simp only [↓runs, isCall, ↓reduceIte, ↓gd_true, ↓gd_false, evs, AV.cells, Nat.reduceEqDiff, Nat.reduceLT, reduceCtorEq, Nat.reduceAdd, sy, f13, g0, g10, hl]) ?_;rintro s _ ⟨hl, g3, rfl⟩;refine wpo_nil (then_n ?_);refine AM.wp_seq hp0 (AM.wp_seq hp0 (AM.wp_reg hp0 ?_));have f15 := ow_ln o14;have b16 := ow_big o14;refine wpo_seg hp0 3 (fun s H' => s.length = 24 ∧ gt s 3 = v9 ∧ gt s 14 = .int .i64 (x7.length : Int) ∧ gt s 15 = .int .i64 0 ∧ H10 = H') (by simp only [↓runs, isCall, ↓reduceIte, ↓gd_true, ↓gd_false, evs, AV.cells, Nat.reduceEqDiff, Nat.reduceLT, reduceCtorEq, Nat.reduceAdd, sy, f15, g3, hl]) ?_;rintro s _ ⟨hl, g3, g14, g15, rfl⟩;refine wpo_nil (then_n ?_);obtain ⟨z23, e24, hp⟩ := bn hp;refine rangeS_ref hp0 24 x7.length (fun k x => P_partition_Discrete_l17 k x) (fun _ x s H' => ∃ (W' : AH) (qo2 : Frag), s.length = 24 ∧ gt s 3 = v9 ∧  Wle W W' ∧ St (qo2 :: G) W' H' ∧ OwS W' v9 qo2 (x : List Int)) e24 (b16) rfl ?_ ?_ hl g15 g14 ?_ ?_
   ·intro k x s H d v hd h; rcases hd with rfl | rfl | rfl <;> simpa only [gt_other, pt_length, Nat.reduceEqDiff, not_false_eq_true] using h
   ·exact ⟨W, _, hl, g3, .refl _, hst, o14⟩
   ·intro k19 x18 y20 s H hk hI hl g15 g14 hy21;change P_partition_Discrete_l17 k19 x18 = some y20 at hy21;unfold P_partition_Discrete_l17 at hy21;obtain ⟨W, fg27, hl, g3, w26, hst, o28⟩ := hI;refine AM.wp_seq hp0 (AM.wp_reg hp0 ?_);refine wpo_seg hp0 2 (fun s H' => s.length = 24 ∧ gt s 3 = v9 ∧ gt s 4 = .int .i64 (k19 : Int) ∧ gt s 14 = .int .i64 (x7.length : Int) ∧ gt s 15 = .int .i64 (k19 : Int) ∧ H = H') (by simp only [↓runs, isCall, ↓reduceIte, ↓gd_true, ↓gd_false, evs, AV.cells, Nat.reduceEqDiff, Nat.reduceLT, reduceCtorEq, Nat.reduceAdd, sy, g3, g14, g15, hl]) ?_;rintro s _ ⟨hl, g3, g4, g14, g15, rfl⟩;refine wpo_nil (then_n ?_);refine AM.wp_reg hp0 ?_;obtain ⟨x29, e30, hy21⟩ := bn hy21;obtain ⟨p31, H32, fg33, f34, f35, hst, o36⟩ := ow_set (k := .i64) 1 rfl hst o28 (show Rp.rv W (.int .i64 (k19 : Int)) ((k19 : Int) : Int) from rfl) e30;refine wpo_seg hp0 5 (fun s H' => s.length = 24 ∧ gt s 3 = v9 ∧ gt s 14 = .int .i64 (x7.length : Int) ∧ gt s 15 = .int .i64 (k19 : Int) ∧ H32 = H') (by simp only [↓runs, isCall, ↓reduceIte, ↓gd_true, ↓gd_false, evs, AV.cells, Nat.reduceEqDiff, Nat.reduceLT, reduceCtorEq, Nat.reduceAdd, sy, f34, f35, g3, g4, g14, g15, hl]) ?_;rintro s _ ⟨hl, g3, g14, g15, rfl⟩;refine wpo_nil ?_;refine rnd_n ?_;obtain rfl := Option.some.inj hy21;exact ⟨hl, g15, g14, ⟨W, _, hl, g3, w26, hst, o36⟩⟩
   ·rintro s H hI _;obtain ⟨W, fg38, hl, g3, w37, hst, o39⟩ := hI;refine then_n ?_;refine AM.wp_seq hp0 (AM.wp_reg hp0 ?_);refine wpo_seg hp0 2 (fun s H' => s.length = 24 ∧ gt s 2 = v9 ∧ H = H') (by simp only [↓runs, isCall, ↓reduceIte, ↓gd_true, ↓gd_false, evs, AV.cells, Nat.reduceEqDiff, Nat.reduceLT, reduceCtorEq, Nat.reduceAdd, sy, g3, hl]) ?_;rintro s _ ⟨hl, g2, rfl⟩;refine wpo_nil (then_n ?_);refine AM.wp_ret ?_;obtain rfl := Option.some.inj hp;refine body_ret (vs := [v9]) (by simp only [rvs, f_partition_Discrete, Option.map_some, g2]) ?_;exact ⟨W, (w12.trans w37), _, hst, o39⟩

end Go.Proofs.Ytmdpejgnkoneoaa.Pu
set_option maxRecDepth 100000
set_option maxHeartbeats 4000000
namespace Go.Proofs.Ytmdpejgnkoneoaa.Pu
open Go Go.AM Go.Proofs.Ytmdpejgnkoneoaa.Code

noncomputable def P_partition_Valid_l4 (p_ : List Int) (k6 : Nat) (x5 : Int) : Option (Lp (Int) (Bool)) :=
 Option.bind (gi p_ (k6 : Int)) fun x14 =>
 Option.bind (
  if decide (x14 < 0) then
   some true
  else
   some (decide (x5 < x14))) fun z21 =>
 if z21 then
  some (.ex false)
 else
  if decide (x14 = x5) then
   some (.go (w64 (x5 + 1)))
  else
   some (.go x5)
noncomputable def P_partition_Valid (p_ : List Int) : Option (Bool) :=
 if decide (4096 < (p_.length : Int)) then
  some false
 else
  Option.bind (forR p_.length (fun k x => P_partition_Valid_l4 p_ k x) 0) fun z10 =>
  match z10 with
  | .inl x27 =>
   some true
  | .inr b => some b
theorem R_partition_Valid {G : List Frag} {W H : AH} {v_0 : AV} {p_ : List Int} (hst : St G W H) (h_0 : Rp.rv W v_0 p_) {r : Bool} (hp : P_partition_Valid p_ = some r) :
  wpc E0 N_partition_Valid [v_0] H fun rv H' => ∃ W', Wle W W' ∧ St G W' H' ∧ rv = .bool r := by
 refine enterN (F := f_partition_Valid) rfl (Nat.le_of_ble_eq_true rfl) fun s hl hg => ?_;replace hl : s.length = 28 := hl;have g0 : gt s 0 = v_0 := hg 0 (Nat.le_of_ble_eq_true rfl);clear hg;unfold P_partition_Valid at hp;show wp E0 c_partition_Valid s H _;unfold c_partition_Valid;refine AM.wp_seq hp0 (AM.wp_reg hp0 ?_);refine wpo_seg hp0 1 (fun s H' => s.length = 28 ∧ gt s 0 = v_0 ∧ H = H') (by simp only [↓runs, isCall, ↓reduceIte, ↓gd_true, ↓gd_false, evs, AV.cells, Nat.reduceEqDiff, Nat.reduceLT, reduceCtorEq, Nat.reduceAdd, sy, g0, hl]) ?_;rintro s _ ⟨hl, g0, rfl⟩;refine wpo_nil (then_n ?_);refine AM.wp_seq hp0 (AM.wp_seq hp0 (AM.wp_reg hp0 ?_));have f1 := fz_ln h_0;refine wpo_seg hp0 3 (fun s H' => s.length = 28 ∧ gt s 0 = v_0 ∧ gt s 8 = .bool (decide (4096 < (p_.length : Int))) ∧ H = H') (by simp only [↓runs, isCall, ↓reduceIte, ↓gd_true, ↓gd_false, evs, AV.cells, Nat.reduceEqDiff, Nat.reduceLT, reduceCtorEq, Nat.reduceAdd, sy, f1, g0, hl]) ?_;rintro s _ ⟨hl, g0, g8, rfl⟩;refine wpo_nil (then_n ?_);rcases Bool.eq_false_or_eq_true (decide (4096 < (p_.length : Int))) with c2 | c2
 ·replace hp := ifT c2 hp;refine AM.wp_condT (by simp only [ev_t, ev_c, g8, c2]) ?_;refine AM.wp_seq hp0 (AM.wp_reg hp0 ?_);refine wpo_seg hp0 1 (fun s H' => s.length = 28 ∧ gt s 2 = .bool false ∧ H = H') (by simp only [↓runs, isCall, ↓reduceIte, ↓gd_true, ↓gd_false, evs, AV.cells, Nat.reduceEqDiff, Nat.reduceLT, reduceCtorEq, Nat.reduceAdd, sy, g0, g8, hl]) ?_;rintro s _ ⟨hl, g2, rfl⟩;refine wpo_nil (then_n ?_);refine AM.wp_ret ?_;refine then_r ?_;obtain rfl := Option.some.inj hp;refine body_ret (vs := [.bool false]) (by simp only [rvs, f_partition_Valid, Option.map_some, g2]) ?_;exact ⟨W, .refl _, hst, rfl⟩
 ·replace hp := ifF c2 hp;refine AM.wp_condF (by simp only [ev_t, ev_c, g8, c2]) ?_;refine AM.wp_skip ?_;refine then_n ?_;refine AM.wp_seq hp0 (AM.wp_reg hp0 ?_);refine wpo_seg hp0 1 (fun s H' => s.length = 28 ∧ gt s 0 = v_0 ∧ gt s 3 = .int .i64 0 ∧ H = H') (by simp only [↓runs, isCall, ↓reduceIte, ↓gd_true, ↓gd_false, evs, AV.cells, Nat.reduceEqDiff, Nat.reduceLT, reduceCtorEq, Nat.reduceAdd, sy, g0, g8, hl]) ?_;rintro s _ ⟨hl, g0, g3, rfl⟩;refine wpo_nil (then_n ?_);refine AM.wp_seq hp0 (AM.wp_seq hp0 (AM.wp_reg hp0 ?_));have f3 := fz_ln h_0;refine wpo_seg hp0 3 (fun s H' => s.length = 28 ∧ gt s 3 = .int .i64 0 ∧ gt s 9 = v_0 ∧ gt s 10 = .int .i64 (p_.length : Int) ∧ gt s 11 = .int .i64 0 ∧ H = H') (by simp only [↓runs, isCall, ↓reduceIte, ↓gd_true, ↓gd_false, evs, AV.cells, Nat.reduceEqDiff, Nat.reduceLT, reduceCtorEq, Nat.reduceAdd, sy, f3, g0, g3, hl]) ?_;rintro s _ ⟨hl, g3, g9, g10, g11, rfl⟩;refine wpo_nil (then_n ?_);obtain ⟨z10, e11, hp⟩ := bn hp;refine range_ref hp0 28 p_.length (fun k x => P_partition_Valid_l4 p_ k x) (fun _ x s H' => s.length = 28 ∧ gt s 3 = .int .i64 x ∧ gt s 9 = v_0 ∧ H = H') (fun _ x s H' => s.length = 28 ∧ H = H') e11 (fz_big h_0) rfl ?_ ?_ hl g11 g10 ?_ ?_
  ·intro k x s H d v hd h; rcases hd with rfl | rfl | rfl <;> simpa only [gt_other, pt_length, Nat.reduceEqDiff, not_false_eq_true] using h
  ·exact ⟨hl, g3, g9, rfl⟩
  ·intro k6 x5 y7 s H hk hI hl g11 g10 hy8 hx9;change P_partition_Valid_l4 p_ k6 x5 = some y7 at hy8;unfold P_partition_Valid_l4 at hy8;obtain ⟨hl, g3, g9, rfl⟩ := hI;refine AM.wp_seq hp0 (AM.wp_reg hp0 ?_);obtain ⟨x14, e15, hy8⟩ := bn hy8;obtain ⟨p16, _, f18, f19, rfl⟩ := fz_at (k := .i64) hst h_0 e15 rfl;refine wpo_seg hp0 3 (fun s H' => s.length = 28 ∧ gt s 3 = .int .i64 x5 ∧ gt s 5 = .int .i64 x14 ∧ gt s 9 = v_0 ∧ gt s 10 = .int .i64 (p_.length : Int) ∧ gt s 11 = .int .i64 (k6 : Int) ∧ H = H') (by simp only [↓runs, isCall, ↓reduceIte, ↓gd_true, ↓gd_false, evs, AV.cells, Nat.reduceEqDiff, Nat.reduceLT, reduceCtorEq, Nat.reduceAdd, sy, f18, f19, g3, g9, g10, g11, hl]) ?_;rintro s _ ⟨hl, g3, g5, g9, g10, g11, rfl⟩;refine wpo_nil (then_n ?_);refine AM.wp_seq hp0 (AM.wp_seq hp0 ?_);obtain ⟨z21, hj22, hy8⟩ := bn hy8;refine AM.wp_regK hp0 (fun s H' => s.length = 28 ∧ gt s 21 = .bool z21 ∧ gt s 3 = .int .i64 x5 ∧ gt s 5 = .int .i64 x14 ∧ gt s 9 = v_0 ∧ gt s 10 = .int .i64 (p_.length : Int) ∧ gt s 11 = .int .i64 (k6 : Int) ∧ H = H') ?_ ?_
   ·rcases Bool.eq_false_or_eq_true (decide (x14 < 0)) with c23 | c23
    ·replace hj22 := ifT c23 hj22;refine wpo_seg hp0 7 (fun s H' => s.length = 28 ∧ gt s 3 = .int .i64 x5 ∧ gt s 5 = .int .i64 x14 ∧ gt s 9 = v_0 ∧ gt s 10 = .int .i64 (p_.length : Int) ∧ gt s 11 = .int .i64 (k6 : Int) ∧ gt s 21 = .bool true ∧ H = H') (by simp only [↓runs, isCall, ↓reduceIte, ↓gd_true, ↓gd_false, evs, AV.cells, Nat.reduceEqDiff, Nat.reduceLT, reduceCtorEq, Nat.reduceAdd, sy, c23, g3, g5, g9, g10, g11, hl]) ?_;rintro s _ ⟨hl, g3, g5, g9, g10, g11, g21, rfl⟩;refine wpo_nil ?_;obtain rfl := Option.some.inj hj22;exact ⟨hl, g21, g3, g5, g9, g10, g11, rfl⟩
    ·replace hj22 := ifF c23 hj22;refine wpo_seg hp0 7 (fun s H' => s.length = 28 ∧ gt s 3 = .int .i64 x5 ∧ gt s 5 = .int .i64 x14 ∧ gt s 9 = v_0 ∧ gt s 10 = .int .i64 (p_.length : Int) ∧ gt s 11 = .int .i64 (k6 : Int) ∧ gt s 21 = .bool (decide (x5 < x14)) ∧ H = H') (by simp only [↓runs, isCall, ↓reduceIte, ↓gd_true, ↓gd_false, evs, AV.cells, Nat.reduceEqDiff, Nat.reduceLT, reduceCtorEq, Nat.reduceAdd, sy, c23, g3, g5, g9, g10, g11, hl]) ?_;rintro s _ ⟨hl, g3, g5, g9, g10, g11, g21, rfl⟩;refine wpo_nil ?_;obtain rfl := Option.some.inj hj22;exact ⟨hl, g21, g3, g5, g9, g10, g11, rfl⟩
   ·rintro s _ ⟨hl, g21, g3, g5, g9, g10, g11, rfl⟩;refine then_n ?_;rcases Bool.eq_false_or_eq_true (z21) with c25 | c25
    ·replace hy8 := ifT c25 hy8;refine AM.wp_condT (by simp only [ev_t, ev_c, g21, c25]) ?_;refine AM.wp_seq hp0 (AM.wp_reg hp0 ?_);refine wpo_seg hp0 1 (fun s H' => s.length = 28 ∧ gt s 2 = .bool false ∧ H = H') (by simp only [↓runs, isCall, ↓reduceIte, ↓gd_true, ↓gd_false, evs, AV.cells, Nat.reduceEqDiff, Nat.reduceLT, reduceCtorEq, Nat.reduceAdd, sy, g3, g5, g9, g10, g11, g21, hl]) ?_;rintro s _ ⟨hl, g2, rfl⟩;refine wpo_nil (then_n ?_);refine AM.wp_ret ?_;refine then_r ?_;refine rnd_r ?_;refine then_r ?_;obtain rfl := Option.some.inj hy8;have hx := hx9 _ rfl;subst hx;dsimp only at hp;obtain rfl := Option.some.inj hp;refine body_ret (vs := [.bool false]) (by simp only [rvs, f_partition_Valid, Option.map_some, g2]) ?_;exact ⟨W, .refl _, hst, rfl⟩
    ·replace hy8 := ifF c25 hy8;refine AM.wp_condF (by simp only [ev_t, ev_c, g21, c25]) ?_;refine AM.wp_skip ?_;refine then_n ?_;refine AM.wp_seq hp0 (AM.wp_reg hp0 ?_);refine wpo_seg hp0 3 (fun s H' => s.length = 28 ∧ gt s 3 = .int .i64 x5 ∧ gt s 9 = v_0 ∧ gt s 10 = .int .i64 (p_.length : Int) ∧ gt s 11 = .int .i64 (k6 : Int) ∧ gt s 24 = .bool (decide (x14 = x5)) ∧ H = H') (by simp only [↓runs, isCall, ↓reduceIte, ↓gd_true, ↓gd_false, evs, AV.cells, Nat.reduceEqDiff, Nat.reduceLT, reduceCtorEq, Nat.reduceAdd, sy, g3, g5, g9, g10, g11, g21, hl]) ?_;rintro s _ ⟨hl, g3, g9, g10, g11, g24, rfl⟩;refine wpo_nil (then_n ?_);rcases Bool.eq_false_or_eq_true (decide (x14 = x5)) with c26 | c26
     ·replace hy8 := ifT c26 hy8;refine AM.wp_condT (by simp only [ev_t, ev_c, g24, c26]) ?_;refine AM.wp_reg hp0 ?_;refine wpo_seg hp0 3 (fun s H' => s.length = 28 ∧ gt s 3 = .int .i64 (w64 (x5 + 1)) ∧ gt s 9 = v_0 ∧ gt s 10 = .int .i64 (p_.length : Int) ∧ gt s 11 = .int .i64 (k6 : Int) ∧ H = H') (by simp only [↓runs, isCall, ↓reduceIte, ↓gd_true, ↓gd_false, evs, AV.cells, Nat.reduceEqDiff, Nat.reduceLT, reduceCtorEq, Nat.reduceAdd, sy, g3, g9, g10, g11, g24, hl]) ?_;rintro s _ ⟨hl, g3, g9, g10, g11, rfl⟩;refine wpo_nil ?_;refine rnd_n ?_;obtain rfl := Option.some.inj hy8;exact ⟨_, rfl, hl, g11, g10, ⟨hl, g3, g9, rfl⟩⟩
     ·replace hy8 := ifF c26 hy8;refine AM.wp_condF (by simp only [ev_t, ev_c, g24, c26]) ?_;refine AM.wp_skip ?_;refine rnd_n ?_;obtain rfl := Option.some.inj hy8;exact ⟨_, rfl, hl, g11, g10, ⟨hl, g3, g9, rfl⟩⟩
  ·rintro x27 s Hn hz hI;replace hI : (fun s H' => s.length = 28 ∧ H = H') s Hn := by
    rcases hI with ⟨hI, -⟩ | ⟨_, hI⟩
    ·obtain ⟨hl, g3, g9, e2⟩ := hI;exact ⟨hl, e2⟩
    ·exact hI
   subst hz;dsimp only at hp hI;obtain ⟨hl, rfl⟩ := hI;refine then_n ?_;refine AM.wp_seq hp0 (AM.wp_reg hp0 ?_);refine wpo_seg hp0 1 (fun s H' => s.length = 28 ∧ gt s 2 = .bool true ∧ H = H') (by simp only [↓runs, isCall, ↓reduceIte, ↓gd_true, ↓gd_false, evs, AV.cells, Nat.reduceEqDiff, Nat.reduceLT, reduceCtorEq, Nat.reduceAdd, sy, hl]) ?_;rintro s _ ⟨hl, g2, rfl⟩;refine wpo_nil (then_n ?_);refine AM.wp_ret ?_;obtain rfl := Option.some.inj hp;refine body_ret (vs := [.bool true]) (by simp only [rvs, f_partition_Valid, Option.map_some, g2]) ?_;exact ⟨W, .refl _, hst, rfl⟩

end Go.Proofs.Ytmdpejgnkoneoaa.Pu
set_option maxRecDepth 100000
set_option maxHeartbeats 4000000
namespace Go.Proofs.Ytmdpejgnkoneoaa.Pu
open Go Go.AM Go.Proofs.Ytmdpejgnkoneoaa.Code

noncomputable def P_partition_both (p_ : List Int) (q : List Int) : Option (Bool) :=
 Option.bind (
  if decide ((p_.length : Int) = (q.length : Int)) then
   Option.bind (P_partition_Valid p_) fun r6 =>
   if r6 then
    Option.bind (P_partition_Valid q) fun r11 =>
    some r11
   else
    some false
  else
   some false) fun z1 =>
 some z1
theorem R_partition_both {G : List Frag} {W H : AH} {v_0 v_1 : AV} {p_ : List Int} {q : List Int} (hst : St G W H) (h_0 : Rp.rv W v_0 p_) (h_1 : Rp.rv W v_1 q) {r : Bool} (hp : P_partition_both p_ q = some r) :
  wpc E0 N_partition_both [v_0, v_1] H fun rv H' => ∃ W', Wle W W' ∧ St G W' H' ∧ rv = .bool r := by
 refine enterN (F := f_partition_both) rfl (Nat.le_of_ble_eq_true rfl) fun s hl hg => ?_;replace hl : s.length = 18 := hl;have g0 : gt s 0 = v_0 := hg 0 (Nat.le_of_ble_eq_true rfl);have g1 : gt s 1 = v_1 := hg 1 (Nat.le_of_ble_eq_true rfl);clear hg;unfold P_partition_both at hp;show wp E0 c_partition_both s H _;unfold c_partition_both;refine AM.wp_seq hp0 (AM.wp_reg hp0 ?_);refine wpo_seg hp0 1 (fun s H' => s.length = 18 ∧ gt s 0 = v_0 ∧ gt s 1 = v_1 ∧ H = H') (by simp only [↓runs, isCall, ↓reduceIte, ↓gd_true, ↓gd_false, evs, AV.cells, Nat.reduceEqDiff, Nat.reduceLT, reduceCtorEq, Nat.reduceAdd, sy, g0, g1, hl]) ?_;rintro s _ ⟨hl, g0, g1, rfl⟩;refine wpo_nil (then_n ?_);refine AM.wp_seq hp0 ?_;obtain ⟨z1, hj2, hp⟩ := bn hp;refine AM.wp_regK hp0 (fun s H' => ∃ (W' : AH), s.length = 18 ∧ gt s 4 = .bool z1 ∧  Wle W W' ∧ St G W' H') ?_ ?_
 ·have f3 := fz_ln h_0;have f4 := fz_ln h_1;rcases Bool.eq_false_or_eq_true (decide ((p_.length : Int) = (q.length : Int))) with c5 | c5
  ·replace hj2 := ifT c5 hj2;refine wpo_seg hp0 7 (fun s H' => s.length = 18 ∧ gt s 1 = v_1 ∧ gt s 10 = .bool true ∧ gt s 11 = v_0 ∧ H = H') (by simp only [↓runs, isCall, ↓reduceIte, ↓gd_true, ↓gd_false, evs, AV.cells, Nat.reduceEqDiff, Nat.reduceLT, reduceCtorEq, Nat.reduceAdd, sy, f3, f4, c5, g0, g1, hl]) ?_;rintro s _ ⟨hl, g1, g10, g11, rfl⟩;obtain ⟨r6, e7, hj2⟩ := bn hj2;refine wpo_callK hp0 (by simp only [wanted, g10, beq_self_eq_true]) (ys := [v_0]) (by simp only [evs, List.map_cons, List.map_nil, ev_t, ev_c, g11]) (R_partition_Valid hst h_0 e7) ?_;rintro rv8 H ⟨W, w9, hst, rfl⟩;replace h_0 := Rp.mono w9 h_0;replace h_1 := Rp.mono w9 h_1;rcases Bool.eq_false_or_eq_true (r6) with c10 | c10
   ·replace hj2 := ifT c10 hj2;refine wpo_seg hp0 3 (fun s H' => s.length = 18 ∧ gt s 14 = .bool true ∧ gt s 15 = v_1 ∧ H = H') (by simp only [↓runs, isCall, ↓reduceIte, ↓gd_true, ↓gd_false, evs, AV.cells, Nat.reduceEqDiff, Nat.reduceLT, reduceCtorEq, Nat.reduceAdd, sy, gt_other, c10, g1, g10, g11, hl]) ?_;rintro s _ ⟨hl, g14, g15, rfl⟩;obtain ⟨r11, e12, hj2⟩ := bn hj2;refine wpo_callK hp0 (by simp only [wanted, g14, beq_self_eq_true]) (ys := [v_1]) (by simp only [evs, List.map_cons, List.map_nil, ev_t, ev_c, g15]) (R_partition_Valid hst h_1 e12) ?_;rintro rv13 H ⟨W, w14, hst, rfl⟩;replace h_0 := Rp.mono w14 h_0;replace h_1 := Rp.mono w14 h_1;refine wpo_seg hp0 2 (fun s H' => s.length = 18 ∧ gt s 4 = .bool r11 ∧ H = H') (by simp only [↓runs, isCall, ↓reduceIte, ↓gd_true, ↓gd_false, evs, AV.cells, Nat.reduceEqDiff, Nat.reduceLT, reduceCtorEq, Nat.reduceAdd, sy, gt_other, g14, g15, hl]) ?_;rintro s _ ⟨hl, g4, rfl⟩;refine wpo_nil ?_;obtain rfl := Option.some.inj hj2;exact ⟨W, hl, g4, (w9.trans w14), hst⟩
   ·replace hj2 := ifF c10 hj2;refine wpo_seg hp0 6 (fun s H' => s.length = 18 ∧ gt s 4 = .bool false ∧ H = H') (by simp only [↓runs, isCall, ↓reduceIte, ↓gd_true, ↓gd_false, evs, AV.cells, Nat.reduceEqDiff, Nat.reduceLT, reduceCtorEq, Nat.reduceAdd, sy, gt_other, c10, g1, g10, g11, hl]) ?_;rintro s _ ⟨hl, g4, rfl⟩;refine wpo_nil ?_;obtain rfl := Option.some.inj hj2;exact ⟨W, hl, g4, w9, hst⟩
  ·replace hj2 := ifF c5 hj2;refine wpo_seg hp0 14 (fun s H' => s.length = 18 ∧ gt s 4 = .bool false ∧ H = H') (by simp (maxSteps := 1000000) only [↓runs, isCall, ↓reduceIte, ↓gd_true, ↓gd_false, evs, AV.cells, Nat.reduceEqDiff, Nat.reduceLT, reduceCtorEq, Nat.reduceAdd, sy, f3, f4, c5, g0, g1, hl]) ?_;rintro s _ ⟨hl, g4, rfl⟩;refine wpo_nil ?_;obtain rfl := Option.some.inj hj2;exact ⟨W, hl, g4, .refl _, hst⟩
 ·rintro s H ⟨W, hl, g4, w15, hst⟩;refine then_n ?_;refine AM.wp_ret ?_;obtain rfl := Option.some.inj hp;refine body_ret (vs := [.bool z1]) (by simp only [rvs, f_partition_both, Option.map_some, g4]) ?_;exact ⟨W, w15, hst, rfl⟩

end Go.Proofs.Ytmdpejgnkoneoaa.Pu
set_option maxRecDepth 100000
set_option maxHeartbeats 4000000
namespace Go.Proofs.Ytmdpejgnkoneoaa.Pu
open Go Go.AM Go.Proofs.Ytmdpejgnkoneoaa.Code

noncomputable def P_partition_Meet_l17 (p_ : List Int) (q : List Int) (k19 : Nat) (x18 : List Int) : Option ((List Int)) :=
 Option.bind (gi p_ (k19 : Int)) fun x29 =>
 Option.bind (gi q (k19 : Int)) fun x36 =>
 Option.bind (si x18 (k19 : Int) (w64 ((w64 (x29 * 4096)) + x36))) fun x43 =>
 some x43
noncomputable def P_partition_Meet (p_ : List Int) (q : List Int) : Option ((List Int)) :=
 Option.bind (P_partition_both p_ q) fun r1 =>
 if !r1 then
  some []
 else
  Option.bind (mkz (α := Int) 8 (p_.length : Int) (p_.length : Int) 0) fun x8 =>
  Option.bind (forS p_.length (fun k x => P_partition_Meet_l17 p_ q k x) x8) fun z23 =>
  Option.bind (P_partition_Canonical z23) fun r56 =>
  some r56
theorem R_partition_Meet {G : List Frag} {W H : AH} {v_0 v_1 : AV} {p_ : List Int} {q : List Int} (hst : St G W H) (h_0 : Rp.rv W v_0 p_) (h_1 : Rp.rv W v_1 q) {r : (List Int)} (hp : P_partition_Meet p_ q = some r) :
  wpc E0 N_partition_Meet [v_0, v_1] H fun rv H' => ∃ W', Wle W W' ∧ ∃ (g0 : Frag), St (g0 :: G) W' H' ∧ OwS W' rv g0 (r : List Int) := by
 refine enterN (F := f_partition_Meet) rfl (Nat.le_of_ble_eq_true rfl) fun s hl hg => ?_;replace hl : s.length = 35 := hl;have g0 : gt s 0 = v_0 := hg 0 (Nat.le_of_ble_eq_true rfl);have g1 : gt s 1 = v_1 := hg 1 (Nat.le_of_ble_eq_true rfl);clear hg;unfold P_partition_Meet at hp;show wp E0 c_partition_Meet s H _;unfold c_partition_Meet;refine AM.wp_seq hp0 (AM.wp_reg hp0 ?_);refine wpo_seg hp0 1 (fun s H' => s.length = 35 ∧ gt s 0 = v_0 ∧ gt s 1 = v_1 ∧ H = H') (by simp only [↓runs, isCall, ↓reduceIte, ↓gd_true, ↓gd_false, evs, AV.cells, Nat.reduceEqDiff, Nat.reduceLT, reduceCtorEq, Nat.reduceAdd, sy, g0, g1, hl]) ?_;rintro s _ ⟨hl, g0, g1, rfl⟩;refine wpo_nil (then_n ?_);refine AM.wp_seq hp0 (AM.wp_seq hp0 (AM.wp_reg hp0 ?_));refine wpo_seg hp0 2 (fun s H' => s.length = 35 ∧ gt s 0 = v_0 ∧ gt s 1 = v_1 ∧ gt s 7 = v_0 ∧ gt s 8 = v_1 ∧ H = H') (by simp only [↓runs, isCall, ↓reduceIte, ↓gd_true, ↓gd_false, evs, AV.cells, Nat.reduceEqDiff, Nat.reduceLT, reduceCtorEq, Nat.reduceAdd, sy, g0, g1, hl]) ?_;rintro s _ ⟨hl, g0, g1, g7, g8, rfl⟩;obtain ⟨r1, e2, hp⟩ := bn hp;refine wpo_callK hp0 rfl (ys := [v_0, v_1]) (by simp only [evs, List.map_cons, List.map_nil, ev_t, ev_c, g7, g8]) (R_partition_both hst h_0 h_1 e2) ?_;rintro rv3 H ⟨W, w4, hst, rfl⟩;replace h_0 := Rp.mono w4 h_0;replace h_1 := Rp.mono w4 h_1;refine wpo_seg hp0 1 (fun s H' => s.length = 35 ∧ gt s 0 = v_0 ∧ gt s 1 = v_1 ∧ gt s 10 = .bool (!r1) ∧ H = H') (by simp only [↓runs, isCall, ↓reduceIte, ↓gd_true, ↓gd_false, evs, AV.cells, Nat.reduceEqDiff, Nat.reduceLT, reduceCtorEq, Nat.reduceAdd, sy, gt_other, g0, g1, g7, g8, hl]) ?_;rintro s _ ⟨hl, g0, g1, g10, rfl⟩;refine wpo_nil (then_n ?_);rcases Bool.eq_false_or_eq_true (!r1) with c5 | c5
 ·replace hp := ifT c5 hp;refine AM.wp_condT (by simp only [ev_t, ev_c, g10, c5]) ?_;refine AM.wp_seq hp0 (AM.wp_reg hp0 ?_);refine wpo_seg hp0 1 (fun s H' => s.length = 35 ∧ gt s 4 = .nils ∧ H = H') (by simp only [↓runs, isCall, ↓reduceIte, ↓gd_true, ↓gd_false, evs, AV.cells, Nat.reduceEqDiff, Nat.reduceLT, reduceCtorEq, Nat.reduceAdd, sy, g0, g1, g10, hl]) ?_;rintro s _ ⟨hl, g4, rfl⟩;refine wpo_nil (then_n ?_);refine AM.wp_ret ?_;refine then_r ?_;replace hst := hst.nil;have o6 := ow_nil (α := Int) W;obtain rfl := Option.some.inj hp;refine body_ret (vs := [.nils]) (by simp only [rvs, f_partition_Meet, Option.map_some, g4]) ?_;exact ⟨W, w4, _, hst, o6⟩
 ·replace hp := ifF c5 hp;refine AM.wp_condF (by simp only [ev_t, ev_c, g10, c5]) ?_;refine AM.wp_skip ?_;refine then_n ?_;refine AM.wp_seq hp0 (AM.wp_reg hp0 ?_);have f7 := fz_ln h_0;obtain ⟨x8, e9, hp⟩ := bn hp;obtain ⟨v10, H11, fg12, W, f14, w13, hst, o15⟩ := ow_mk (kn := .i64) (kc := .i64) hst (show Rp.rv _ (.int .i64 0) (0 : Int) from rfl) [.int .i64 0] rfl e9;replace h_0 := Rp.mono w13 h_0;replace h_1 := Rp.mono w13 h_1;refine wpo_seg hp0 4 (fun s H' => s.length = 35 ∧ gt s 0 = v_0 ∧ gt s 1 = v_1 ∧ gt s 5 = v10 ∧ H11 = H') (by simp only [↓runs, isCall, ↓reduceIte, ↓gd_true, ↓gd_false, evs, AV.cells, Nat.reduceEqDiff, Nat.reduceLT, reduceCtorEq, Nat.reduceAdd, sy, f7, f14, g0, g1, g10, hl]) ?_;rintro s _ ⟨hl, g0, g1, g5, rfl⟩;refine wpo_nil (then_n ?_);refine AM.wp_seq hp0 (AM.wp_seq hp0 (AM.wp_reg hp0 ?_));have f16 := fz_ln h_0;refine wpo_seg hp0 3 (fun s H' => s.length = 35 ∧ gt s 0 = v_0 ∧ gt s 1 = v_1 ∧ gt s 5 = v10 ∧ gt s 15 = .int .i64 (p_.length : Int) ∧ gt s 16 = .int .i64 0 ∧ H11 = H') (by simp only [↓runs, isCall, ↓reduceIte, ↓gd_true, ↓gd_false, evs, AV.cells, Nat.reduceEqDiff, Nat.reduceLT, reduceCtorEq, Nat.reduceAdd, sy, f16, g0, g1, g5, hl]) ?_;rintro s _ ⟨hl, g0, g1, g5, g15, g16, rfl⟩;refine wpo_nil (then_n ?_);obtain ⟨z23, e24, hp⟩ := bn hp;refine rangeS_ref hp0 35 p_.length (fun k x => P_partition_Meet_l17 p_ q k x) (fun _ x s H' => ∃ (W' : AH) (qo2 : Frag), s.length = 35 ∧ gt s 0 = v_0 ∧ gt s 1 = v_1 ∧ gt s 5 = v10 ∧  Wle W W' ∧ St (qo2 :: G) W' H' ∧ OwS W' v10 qo2 (x : List Int)) e24 (fz_big h_0) rfl ?_ ?_ hl g16 g15 ?_ ?_
  ·intro k x s H d v hd h; rcases hd with rfl | rfl | rfl <;> simpa only [gt_other, pt_length, Nat.reduceEqDiff, not_false_eq_true] using h
  ·exact ⟨W, _, hl, g0, g1, g5, .refl _, hst, o15⟩
  ·intro k19 x18 y20 s H hk hI hl g16 g15 hy21;change P_partition_Meet_l17 p_ q k19 x18 = some y20 at hy21;unfold P_partition_Meet_l17 at hy21;obtain ⟨W, fg27, hl, g0, g1, g5, w26, hst, o28⟩ := hI;replace h_0 := Rp.mono w26 h_0;replace h_1 := Rp.mono w26 h_1;refine AM.wp_seq hp0 (AM.wp_reg hp0 ?_);refine wpo_seg hp0 2 (fun s H' => s.length = 35 ∧ gt s 0 = v_0 ∧ gt s 1 = v_1 ∧ gt s 5 = v10 ∧ gt s 6 = .int .i64 (k19 : Int) ∧ gt s 15 = .int .i64 (p_.length : Int) ∧ gt s 16 = .int .i64 (k19 : Int) ∧ H = H') (by simp only [↓runs, isCall, ↓reduceIte, ↓gd_true, ↓gd_false, evs, AV.cells, Nat.reduceEqDiff, Nat.reduceLT, reduceCtorEq, Nat.reduceAdd, sy, g0, g1, g5, g15, g16, hl]) ?_;rintro s _ ⟨hl, g0, g1, g5, g6, g15, g16, rfl⟩;refine wpo_nil (then_n ?_);refine AM.wp_reg hp0 ?_;obtain ⟨x29, e30, hy21⟩ := bn hy21;obtain ⟨p31, _, f33, f34, rfl⟩ := fz_at (k := .i64) hst h_0 e30 rfl;obtain ⟨x36, e37, hy21⟩ := bn hy21;obtain ⟨p38, _, f40, f41, rfl⟩ := fz_at (k := .i64) hst h_1 e37 rfl;obtain ⟨x43, e44, hy21⟩ := bn hy21;obtain ⟨p45, H46, fg47, f48, f49, hst, o50⟩ := ow_set (k := .i64) 1 rfl hst o28 (show Rp.rv W (.int .i64 (w64 ((w64 (x29 * 4096)) + x36))) (w64 ((w64 (x29 * 4096)) + x36) : Int) from rfl) e44;refine wpo_seg hp0 14 (fun s H' => s.length = 35 ∧ gt s 0 = v_0 ∧ gt s 1 = v_1 ∧ gt s 5 = v10 ∧ gt s 15 = .int .i64 (p_.length : Int) ∧ gt s 16 = .int .i64 (k19 : Int) ∧ H46 = H') (by simp (maxSteps := 1000000) only [↓runs, isCall, ↓reduceIte, ↓gd_true, ↓gd_false, evs, AV.cells, Nat.reduceEqDiff, Nat.reduceLT, reduceCtorEq, Nat.reduceAdd, sy, f33, f34, f40, f41, f48, f49, g0, g1, g5, g6, g15, g16, hl]) ?_;rintro s _ ⟨hl, g0, g1, g5, g15, g16, rfl⟩;refine wpo_nil ?_;refine rnd_n ?_;obtain rfl := Option.some.inj hy21;exact ⟨hl, g16, g15, ⟨W, _, hl, g0, g1, g5, w26, hst, o50⟩⟩
  ·rintro s H hI _;obtain ⟨W, fg52, hl, g0, g1, g5, w51, hst, o53⟩ := hI;replace h_0 := Rp.mono w51 h_0;replace h_1 := Rp.mono w51 h_1;refine then_n ?_;refine AM.wp_seq hp0 (AM.wp_reg hp0 ?_);refine wpo_seg hp0 1 (fun s H' => s.length = 35 ∧ gt s 33 = v10 ∧ H = H') (by simp only [↓runs, isCall, ↓reduceIte, ↓gd_true, ↓gd_false, evs, AV.cells, Nat.reduceEqDiff, Nat.reduceLT, reduceCtorEq, Nat.reduceAdd, sy, g0, g1, g5, hl]) ?_;rintro s _ ⟨hl, g33, rfl⟩;obtain ⟨W, w55, hst, h54⟩ := ow_frz hst o53;obtain ⟨r56, e57, hp⟩ := bn hp;refine wpo_callK hp0 rfl (ys := [v10]) (by simp only [evs, List.map_cons, List.map_nil, ev_t, ev_c, g33]) (R_partition_Canonical hst h54 e57) ?_;rintro rv58 H ⟨W, w59, fg60, hst, o61⟩;replace h54 := Rp.mono w59 h54;refine wpo_seg hp0 1 (fun s H' => s.length = 35 ∧ gt s 4 = rv58 ∧ H = H') (by simp only [↓runs, isCall, ↓reduceIte, ↓gd_true, ↓gd_false, evs, AV.cells, Nat.reduceEqDiff, Nat.reduceLT, reduceCtorEq, Nat.reduceAdd, sy, gt_other, g33, hl]) ?_;rintro s _ ⟨hl, g4, rfl⟩;refine wpo_nil (then_n ?_);refine AM.wp_ret ?_;obtain rfl := Option.some.inj hp;refine body_ret (vs := [rv58]) (by simp only [rvs, f_partition_Meet, Option.map_some, g4]) ?_;exact ⟨W, ((((w4.trans w13).trans w51).trans w55).trans w59), _, hst, o61⟩

end Go.Proofs.Ytmdpejgnkoneoaa.Pu
set_option maxRecDepth 100000
set_option maxHeartbeats 4000000
namespace Go.Proofs.Ytmdpejgnkoneoaa.Pu
open Go Go.AM Go.Proofs.Ytmdpejgnkoneoaa.Code

noncomputable def P_partition_Count_l7 (p_ : List Int) (k9 : Nat) (x8 : Int) : Option (Int) :=
 Option.bind (gi p_ (k9 : Int)) fun x18 =>
 some (if w64 (x18 + 1) > x8 then w64 (x18 + 1) else x8)
noncomputable def P_partition_Count (p_ : List Int) : Option (Int) :=
 Option.bind (P_partition_Valid p_) fun r1 =>
 if !r1 then
  some 0
 else
  Option.bind (forS p_.length (fun k x => P_partition_Count_l7 p_ k x) 0) fun z13 =>
  some z13
theorem R_partition_Count {G : List Frag} {W H : AH} {v_0 : AV} {p_ : List Int} (hst : St G W H) (h_0 : Rp.rv W v_0 p_) {r : Int} (hp : P_partition_Count p_ = some r) :
  wpc E0 N_partition_Count [v_0] H fun rv H' => ∃ W', Wle W W' ∧ St G W' H' ∧ rv = .int .i64 r := by
 refine enterN (F := f_partition_Count) rfl (Nat.le_of_ble_eq_true rfl) fun s hl hg => ?_;replace hl : s.length = 21 := hl;have g0 : gt s 0 = v_0 := hg 0 (Nat.le_of_ble_eq_true rfl);clear hg;unfold P_partition_Count at hp;show wp E0 c_partition_Count s H _;unfold c_partition_Count;refine AM.wp_seq hp0 (AM.wp_reg hp0 ?_);refine wpo_seg hp0 1 (fun s H' => s.length = 21 ∧ gt s 0 = v_0 ∧ H = H') (by simp only [↓runs, isCall, ↓reduceIte, ↓gd_true, ↓gd_false, evs, AV.cells, Nat.reduceEqDiff, Nat.reduceLT, reduceCtorEq, Nat.reduceAdd, sy, g0, hl]) ?_;rintro s _ ⟨hl, g0, rfl⟩;refine wpo_nil (then_n ?_);refine AM.wp_seq hp0 (AM.wp_seq hp0 (AM.wp_reg hp0 ?_));refine wpo_seg hp0 1 (fun s H' => s.length = 21 ∧ gt s 0 = v_0 ∧ gt s 6 = v_0 ∧ H = H') (by simp only [↓runs, isCall, ↓reduceIte, ↓gd_true, ↓gd_false, evs, AV.cells, Nat.reduceEqDiff, Nat.reduceLT, reduceCtorEq, Nat.reduceAdd, sy, g0, hl]) ?_;rintro s _ ⟨hl, g0, g6, rfl⟩;obtain ⟨r1, e2, hp⟩ := bn hp;refine wpo_callK hp0 rfl (ys := [v_0]) (by simp only [evs, List.map_cons, List.map_nil, ev_t, ev_c, g6]) (R_partition_Valid hst h_0 e2) ?_;rintro rv3 H ⟨W, w4, hst, rfl⟩;replace h_0 := Rp.mono w4 h_0;refine wpo_seg hp0 1 (fun s H' => s.length = 21 ∧ gt s 0 = v_0 ∧ gt s 8 = .bool (!r1) ∧ H = H') (by simp only [↓runs, isCall, ↓reduceIte, ↓gd_true, ↓gd_false, evs, AV.cells, Nat.reduceEqDiff, Nat.reduceLT, reduceCtorEq, Nat.reduceAdd, sy, gt_other, g0, g6, hl]) ?_;rintro s _ ⟨hl, g0, g8, rfl⟩;refine wpo_nil (then_n ?_);rcases Bool.eq_false_or_eq_true (!r1) with c5 | c5
 ·replace hp := ifT c5 hp;refine AM.wp_condT (by simp only [ev_t, ev_c, g8, c5]) ?_;refine AM.wp_seq hp0 (AM.wp_reg hp0 ?_);refine wpo_seg hp0 1 (fun s H' => s.length = 21 ∧ gt s 2 = .int .i64 0 ∧ H = H') (by simp only [↓runs, isCall, ↓reduceIte, ↓gd_true, ↓gd_false, evs, AV.cells, Nat.reduceEqDiff, Nat.reduceLT, reduceCtorEq, Nat.reduceAdd, sy, g0, g8, hl]) ?_;rintro s _ ⟨hl, g2, rfl⟩;refine wpo_nil (then_n ?_);refine AM.wp_ret ?_;refine then_r ?_;obtain rfl := Option.some.inj hp;refine body_ret (vs := [.int .i64 0]) (by simp only [rvs, f_partition_Count, Option.map_some, g2]) ?_;exact ⟨W, w4, hst, rfl⟩
 ·replace hp := ifF c5 hp;refine AM.wp_condF (by simp only [ev_t, ev_c, g8, c5]) ?_;refine AM.wp_skip ?_;refine then_n ?_;refine AM.wp_seq hp0 (AM.wp_reg hp0 ?_);refine wpo_seg hp0 1 (fun s H' => s.length = 21 ∧ gt s 0 = v_0 ∧ gt s 3 = .int .i64 0 ∧ H = H') (by simp only [↓runs, isCall, ↓reduceIte, ↓gd_true, ↓gd_false, evs, AV.cells, Nat.reduceEqDiff, Nat.reduceLT, reduceCtorEq, Nat.reduceAdd, sy, g0, g8, hl]) ?_;rintro s _ ⟨hl, g0, g3, rfl⟩;refine wpo_nil (then_n ?_);refine AM.wp_seq hp0 (AM.wp_seq hp0 (AM.wp_reg hp0 ?_));have f6 := fz_ln h_0;refine wpo_seg hp0 3 (fun s H' => s.length = 21 ∧ gt s 3 = .int .i64 0 ∧ gt s 9 = v_0 ∧ gt s 10 = .int .i64 (p_.length : Int) ∧ gt s 11 = .int .i64 0 ∧ H = H') (by simp only [↓runs, isCall, ↓reduceIte, ↓gd_true, ↓gd_false, evs, AV.cells, Nat.reduceEqDiff, Nat.reduceLT, reduceCtorEq, Nat.reduceAdd, sy, f6, g0, g3, hl]) ?_;rintro s _ ⟨hl, g3, g9, g10, g11, rfl⟩;refine wpo_nil (then_n ?_);obtain ⟨z13, e14, hp⟩ := bn hp;refine rangeS_ref hp0 21 p_.length (fun k x => P_partition_Count_l7 p_ k x) (fun _ x s H' => s.length = 21 ∧ gt s 3 = .int .i64 x ∧ gt s 9 = v_0 ∧ H = H') e14 (fz_big h_0) rfl ?_ ?_ hl g11 g10 ?_ ?_
  ·intro k x s H d v hd h; rcases hd with rfl | rfl | rfl <;> simpa only [gt_other, pt_length, Nat.reduceEqDiff, not_false_eq_true] using h
  ·exact ⟨hl, g3, g9, rfl⟩
  ·intro k9 x8 y10 s H hk hI hl g11 g10 hy11;change P_partition_Count_l7 p_ k9 x8 = some y10 at hy11;unfold P_partition_Count_l7 at hy11;obtain ⟨hl, g3, g9, rfl⟩ := hI;refine AM.wp_seq hp0 (AM.wp_reg hp0 ?_);obtain ⟨x18, e19, hy11⟩ := bn hy11;obtain ⟨p20, _, f22, f23, rfl⟩ := fz_at (k := .i64) hst h_0 e19 rfl;refine wpo_seg hp0 3 (fun s H' => s.length = 21 ∧ gt s 3 = .int .i64 x8 ∧ gt s 5 = .int .i64 x18 ∧ gt s 9 = v_0 ∧ gt s 10 = .int .i64 (p_.length : Int) ∧ gt s 11 = .int .i64 (k9 : Int) ∧ H = H') (by simp only [↓runs, isCall, ↓reduceIte, ↓gd_true, ↓gd_false, evs, AV.cells, Nat.reduceEqDiff, Nat.reduceLT, reduceCtorEq, Nat.reduceAdd, sy, f22, f23, g3, g9, g10, g11, hl]) ?_;rintro s _ ⟨hl, g3, g5, g9, g10, g11, rfl⟩;refine wpo_nil (then_n ?_);refine AM.wp_reg hp0 ?_;refine wpo_seg hp0 5 (fun s H' => s.length = 21 ∧ gt s 3 = .int .i64 (if w64 (x18 + 1) > x8 then w64 (x18 + 1) else x8) ∧ gt s 9 = v_0 ∧ gt s 10 = .int .i64 (p_.length : Int) ∧ gt s 11 = .int .i64 (k9 : Int) ∧ H = H') (by simp only [↓runs, isCall, ↓reduceIte, ↓gd_true, ↓gd_false, evs, AV.cells, Nat.reduceEqDiff, Nat.reduceLT, reduceCtorEq, Nat.reduceAdd, sy, g3, g5, g9, g10, g11, hl]) ?_;rintro s _ ⟨hl, g3, g9, g10, g11, rfl⟩;refine wpo_nil ?_;refine rnd_n ?_;obtain rfl := Option.some.inj hy11;exact ⟨hl, g11, g10, ⟨hl, g3, g9, rfl⟩⟩
  ·rintro s H hI _;obtain ⟨hl, g3, g9, rfl⟩ := hI;refine then_n ?_;refine AM.wp_seq hp0 (AM.wp_reg hp0 ?_);refine wpo_seg hp0 2 (fun s H' => s.length = 21 ∧ gt s 2 = .int .i64 z13 ∧ H = H') (by simp only [↓runs, isCall, ↓reduceIte, ↓gd_true, ↓gd_false, evs, AV.cells, Nat.reduceEqDiff, Nat.reduceLT, reduceCtorEq, Nat.reduceAdd, sy, g3, g9, hl]) ?_;rintro s _ ⟨hl, g2, rfl⟩;refine wpo_nil (then_n ?_);refine AM.wp_ret ?_;obtain rfl := Option.some.inj hp;refine body_ret (vs := [.int .i64 z13]) (by simp only [rvs, f_partition_Count, Option.map_some, g2]) ?_;exact ⟨W, w4, hst, rfl⟩

end Go.Proofs.Ytmdpejgnkoneoaa.Pu
set_option maxRecDepth 100000
set_option maxHeartbeats 4000000
namespace Go.Proofs.Ytmdpejgnkoneoaa.Pu
open Go Go.AM Go.Proofs.Ytmdpejgnkoneoaa.Code

noncomputable def P_subdirect_discrete (p_ : List Int) : Option (Bool) :=
 Option.bind (P_partition_Count p_) fun r1 =>
 some (decide (r1 = (p_.length : Int)))
theorem R_subdirect_discrete {G : List Frag} {W H : AH} {v_0 : AV} {p_ : List Int} (hst : St G W H) (h_0 : Rp.rv W v_0 p_) {r : Bool} (hp : P_subdirect_discrete p_ = some r) :
  wpc E0 N_subdirect_discrete [v_0] H fun rv H' => ∃ W', Wle W W' ∧ St G W' H' ∧ rv = .bool r := by
 refine enterN (F := f_subdirect_discrete) rfl (Nat.le_of_ble_eq_true rfl) fun s hl hg => ?_;replace hl : s.length = 8 := hl;have g0 : gt s 0 = v_0 := hg 0 (Nat.le_of_ble_eq_true rfl);clear hg;unfold P_subdirect_discrete at hp;show wp E0 c_subdirect_discrete s H _;unfold c_subdirect_discrete;refine AM.wp_seq hp0 (AM.wp_reg hp0 ?_);refine wpo_seg hp0 1 (fun s H' => s.length = 8 ∧ gt s 0 = v_0 ∧ H = H') (by simp only [↓runs, isCall, ↓reduceIte, ↓gd_true, ↓gd_false, evs, AV.cells, Nat.reduceEqDiff, Nat.reduceLT, reduceCtorEq, Nat.reduceAdd, sy, g0, hl]) ?_;rintro s _ ⟨hl, g0, rfl⟩;refine wpo_nil (then_n ?_);refine AM.wp_seq hp0 (AM.wp_reg hp0 ?_);refine wpo_seg hp0 1 (fun s H' => s.length = 8 ∧ gt s 0 = v_0 ∧ gt s 3 = v_0 ∧ H = H') (by simp only [↓runs, isCall, ↓reduceIte, ↓gd_true, ↓gd_false, evs, AV.cells, Nat.reduceEqDiff, Nat.reduceLT, reduceCtorEq, Nat.reduceAdd, sy, g0, hl]) ?_;rintro s _ ⟨hl, g0, g3, rfl⟩;obtain ⟨r1, e2, hp⟩ := bn hp;refine wpo_callK hp0 rfl (ys := [v_0]) (by simp only [evs, List.map_cons, List.map_nil, ev_t, ev_c, g3]) (R_partition_Count hst h_0 e2) ?_;rintro rv3 H ⟨W, w4, hst, rfl⟩;replace h_0 := Rp.mono w4 h_0;have f5 := fz_ln h_0;refine wpo_seg hp0 4 (fun s H' => s.length = 8 ∧ gt s 2 = .bool (decide (r1 = (p_.length : Int))) ∧ H = H') (by simp only [↓runs, isCall, ↓reduceIte, ↓gd_true, ↓gd_false, evs, AV.cells, Nat.reduceEqDiff, Nat.reduceLT, reduceCtorEq, Nat.reduceAdd, sy, gt_other, f5, g0, g3, hl]) ?_;rintro s _ ⟨hl, g2, rfl⟩;refine wpo_nil (then_n ?_);refine AM.wp_ret ?_;obtain rfl := Option.some.inj hp;refine body_ret (vs := [.bool (decide (r1 = (p_.length : Int)))]) (by simp only [rvs, f_subdirect_discrete, Option.map_some, g2]) ?_;exact ⟨W, w4, hst, rfl⟩

end Go.Proofs.Ytmdpejgnkoneoaa.Pu
namespace Go.Proofs.Ytmdpejgnkoneoaa.Mt
open Go Go.AM Go.AM.Par Go.Proofs.Ytmdpejgnkoneoaa.Pu

def Num (L : List Int) (k : Nat) (M : List (Int × Int)) : Prop := M.length = (nub (L.take k)).length ∧ ∀ v, mget M v = if v ∈ nub (L.take k) then some ((nub (L.take k)).idxOf v : Int) else none
theorem Num.zero (L : List Int) : Num L 0 [] := ⟨by simp [nub], fun v => by simp [nub, mget]⟩
theorem Num.old {L : List Int} {k : Nat} {M : List (Int × Int)} (h : Num L k M) (hk : k < L.length) (hn : ¬ isNew L k) : Num L (k + 1) M := by
  unfold Num; rw [nub_old hk hn]; exact h
theorem Num.new {L : List Int} {k : Nat} {M : List (Int × Int)} (h : Num L k M) (hk : k < L.length) (hn : isNew L k) : Num L (k + 1) (mput M (L.getD k 0) (M.length : Int)) := by
  have hnot := (new_iff hk).2 hn
  unfold Num
  rw [nub_new hk hn]
  refine ⟨by rw [mput_len_new (by rw [h.2, if_neg hnot]), h.1]; simp, fun v => ?_⟩
  rw [mget_mput, h.2, h.1]
  by_cases e : L.getD k 0 = v
  · subst e
    simp only [beq_self_eq_true, if_true]
    rw [if_pos (by simp), List.idxOf_append, if_neg hnot]
    simp
  · have e1 : (L.getD k 0 == v) = false := by simpa using e
    rw [e1]
    simp only [Bool.false_eq_true, if_false, List.mem_append, List.mem_singleton]
    by_cases hv : v ∈ nub (L.take k)
    · rw [if_pos hv, if_pos (.inl hv), List.idxOf_append, if_pos hv]
    · rw [if_neg hv, if_neg]
      rintro (h1 | h1)
      · exact hv h1
      · exact e h1.symm

theorem canonical (L : List Int) (h : L.length ≤ 4096) : P_partition_Canonical L = some (canonI L) := by
  unfold P_partition_Canonical
  rw [if_neg (by simp; omega), mkz_ok (by omega) (by omega)]
  simp only [Option.bind_some]
  obtain ⟨y, hy, h1, h2, h3⟩ := forS_inv (n := L.length) (f := fun k x => P_partition_Canonical_l21 L k x.1 x.2) (x := (List.replicate L.length 0, []))
    (fun k x => x.1.length = L.length ∧ (∀ i, i < k → x.1.getD i 0 = (canonI L).getD i 0) ∧ Num L k x.2) ⟨by simp, fun i hi => by omega, .zero L⟩ (by
      rintro k ⟨X, M⟩ hk ⟨h1, h2, h3⟩
      dsimp only at h1 h2 h3 ⊢
      unfold P_partition_Canonical_l21
      rw [gi_lt 0 hk]
      simp only [Option.bind_some, h3.2]
      have ext : ∀ v : Int, v = (canonI L).getD k 0 → ∀ i, i < k + 1 → (X.set k v).getD i 0 = (canonI L).getD i 0 := fun v hv i hi => by
        rw [getD_set']
        split
        · rename_i e; rw [hv, e.1]
        · rename_i e
          exact h2 i (by
            rcases Nat.lt_or_ge i k with h | h
            · exact h
            · exact absurd ⟨by omega, by omega⟩ e)
      by_cases hn : isNew L k
      · have hnot := (new_iff hk).2 hn
        rw [if_neg hnot]
        simp only [Option.isSome_none, Bool.not_false, if_true]
        rw [si_lt (by omega)]
        refine ⟨_, rfl, by simpa using h1, ext _ ?_, h3.new hk hn⟩
        rw [canonI_new hk hn, h3.1]
      · have hin : L.getD k 0 ∈ nub (L.take k) := Classical.not_not.1 fun h => hn ((new_iff hk).1 h)
        rw [if_pos hin]
        simp only [Option.isSome_some, Bool.not_true, Bool.false_eq_true, if_false, Option.getD_some]
        rw [si_lt (by omega)]
        refine ⟨_, rfl, by simpa using h1, ext _ ?_, h3.old hk hn⟩
        rw [canonI_at hk, ← idx_stay L.length k (by omega) (Nat.le_refl _) hin, List.take_length])
  rw [hy]
  simp only [Option.bind_some, Option.some.injEq]
  exact list_ext 0 (by simp [h1]) fun i hi => h2 i (by omega)

theorem ref_canonical (L : List Int) (h : L.length ≤ 4096) : P_semigroupref03_Canonical L = some (canonI L) := by
  unfold P_semigroupref03_Canonical
  rw [if_neg (by simp; omega), mkz_ok (by omega) (by omega)]
  simp only [Option.bind_some]
  obtain ⟨y, hy, h1, h2, h3, h4⟩ := forS_inv (n := L.length) (f := fun k x => P_semigroupref03_Canonical_l22 L k x.1 x.2.1 x.2.2) (x := (0, [], List.replicate L.length 0))
    (fun k x => x.2.2.length = L.length ∧ (∀ i, i < k → x.2.2.getD i 0 = (canonI L).getD i 0) ∧ Num L k x.2.1 ∧ x.1 = (x.2.1.length : Int)) ⟨by simp, fun i hi => by omega, .zero L, rfl⟩ (by
      rintro k ⟨q, M, X⟩ hk ⟨h1, h2, h3, h4⟩
      dsimp only at h1 h2 h3 h4 ⊢
      unfold P_semigroupref03_Canonical_l22
      rw [gi_lt 0 hk]
      simp only [Option.bind_some, h3.2]
      have ext : ∀ v : Int, v = (canonI L).getD k 0 → ∀ i, i < k + 1 → (X.set k v).getD i 0 = (canonI L).getD i 0 := fun v hv i hi => by
        rw [getD_set']
        split
        · rename_i e; rw [hv, e.1]
        · rename_i e
          exact h2 i (by
            rcases Nat.lt_or_ge i k with h | h
            · exact h
            · exact absurd ⟨by omega, by omega⟩ e)
      have hle := nub_le L k (by omega)
      by_cases hn : isNew L k
      · have hnot := (new_iff hk).2 hn
        rw [if_neg hnot]
        simp only [Option.isSome_none, Bool.not_false, if_true]
        rw [si_lt (by omega)]
        refine ⟨_, rfl, by simpa using h1, ext _ ?_, ?_, ?_⟩
        · rw [canonI_new hk hn, h4, h3.1]
        · rw [h4]; exact h3.new hk hn
        · dsimp only
          rw [mput_len_new (by rw [h3.2, if_neg hnot]), h4, w64_id (by rw [h3.1]; omega) (by rw [h3.1]; omega)]
          simp
      · have hin : L.getD k 0 ∈ nub (L.take k) := Classical.not_not.1 fun h => hn ((new_iff hk).1 h)
        rw [if_pos hin]
        simp only [Option.isSome_some, Bool.not_true, Bool.false_eq_true, if_false, Option.getD_some]
        rw [si_lt (by omega)]
        refine ⟨_, rfl, by simpa using h1, ext _ ?_, h3.old hk hn, h4⟩
        rw [canonI_at hk, ← idx_stay L.length k (by omega) (Nat.le_refl _) hin, List.take_length])
  rw [hy]
  simp only [Option.bind_some, Option.some.injEq]
  exact list_ext 0 (by simp [h1]) fun i hi => h2 i (by omega)

theorem valid (L : List Int) : P_partition_Valid L = some (validP L) := by
  unfold P_partition_Valid
  by_cases h : 4096 < L.length
  · have : validP L = false := by unfold validP; simp; omega
    rw [if_pos (by simp; omega), this]
  · rw [if_neg (by simp; omega)]
    have hv : validP L = rgGo L 0 := by unfold validP; simp; omega
    rw [hv]
    obtain ⟨y, hy, hQ⟩ := forR_inv (n := L.length) (f := fun k x => P_partition_Valid_l4 L k x) (x := 0) (fun k x => ∃ m : Nat, x = m ∧ m ≤ k ∧ rgGo L 0 = rgGo (L.drop k) m)
      (fun y => match y with | .inl _ => rgGo L 0 = true | .inr b => rgGo L 0 = b) ⟨0, rfl, Nat.le_refl _, rfl⟩ (by
        rintro k x hk ⟨m, rfl, hm, hr⟩
        rw [drop_getD hk] at hr
        simp only [rgGo] at hr
        unfold P_partition_Valid_l4
        rw [gi_lt 0 hk]
        simp only [Option.bind_some]
        by_cases h0 : L.getD k 0 < 0
        · rw [if_pos h0] at hr
          exact .inr (.inr ⟨false, by simp only [h0, Option.bind_some, Option.bind_none, decide_true, decide_false, Bool.not_true, Bool.not_false, Bool.true_and, Bool.and_true, Bool.false_eq_true, if_true, if_false, not_true_eq_false, not_false_eq_true, ite_true, ite_false, Bool.not_eq_true, decide_eq_true_eq, decide_eq_false_iff_not, Bool.not_eq_true', Bool.not_eq_false', Option.getD_some, Option.getD_none, Option.isSome_some, Option.isSome_none, Option.isNone_some, Option.isNone_none, eq_self, forall_const, true_implies, false_implies, implies_true], hr⟩)
        · rw [if_neg h0] at hr
          by_cases h1 : (m : Int) < L.getD k 0
          · rw [if_pos h1] at hr
            exact .inr (.inr ⟨false, by simp only [h0, h1, Option.bind_some, Option.bind_none, decide_true, decide_false, Bool.not_true, Bool.not_false, Bool.true_and, Bool.and_true, Bool.false_eq_true, if_true, if_false, not_true_eq_false, not_false_eq_true, ite_true, ite_false, Bool.not_eq_true, decide_eq_true_eq, decide_eq_false_iff_not, Bool.not_eq_true', Bool.not_eq_false', Option.getD_some, Option.getD_none, Option.isSome_some, Option.isSome_none, Option.isNone_some, Option.isNone_none, eq_self, forall_const, true_implies, false_implies, implies_true], hr⟩)
          · rw [if_neg h1] at hr
            left
            by_cases h2 : L.getD k 0 = (m : Int)
            · rw [if_pos h2] at hr
              refine ⟨((m + 1 : Nat) : Int), ?_, m + 1, rfl, by omega, hr⟩
              have : w64 ((m : Int) + 1) = ((m + 1 : Nat) : Int) := by rw [w64_id (by omega) (by omega)]; simp
              have a1 : ¬ (m : Int) < 0 := by omega
              simp only [h2, this, a1, Int.lt_irrefl, Option.bind_some, Option.bind_none, decide_true, decide_false, Bool.not_true, Bool.not_false, Bool.true_and, Bool.and_true, Bool.false_eq_true, if_true, if_false, not_true_eq_false, not_false_eq_true, ite_true, ite_false, Bool.not_eq_true, decide_eq_true_eq, decide_eq_false_iff_not, Bool.not_eq_true', Bool.not_eq_false', Option.getD_some, Option.getD_none, Option.isSome_some, Option.isSome_none, Option.isNone_some, Option.isNone_none, eq_self, forall_const, true_implies, false_implies, implies_true]
            · rw [if_neg h2] at hr
              exact ⟨(m : Int), by simp only [h0, h1, h2, Option.bind_some, Option.bind_none, decide_true, decide_false, Bool.not_true, Bool.not_false, Bool.true_and, Bool.and_true, Bool.false_eq_true, if_true, if_false, not_true_eq_false, not_false_eq_true, ite_true, ite_false, Bool.not_eq_true, decide_eq_true_eq, decide_eq_false_iff_not, Bool.not_eq_true', Bool.not_eq_false', Option.getD_some, Option.getD_none, Option.isSome_some, Option.isSome_none, Option.isNone_some, Option.isNone_none, eq_self, forall_const, true_implies, false_implies, implies_true], m, rfl, by omega, hr⟩)
      (by
        rintro x ⟨m, -, -, hr⟩
        rw [List.drop_length] at hr
        exact hr)
    rw [hy]
    cases y with
    | inl x => simp only [Option.bind_some]; rw [show rgGo L 0 = true from hQ]
    | inr b => simp only [Option.bind_some]; rw [show rgGo L 0 = b from hQ]

theorem same (A B : List Int) : P_semigroupref03_Same A B = some (decide (A = B)) := by
  unfold P_semigroupref03_Same
  by_cases h : A.length = B.length
  · rw [if_neg (by simp [h])]
    rw [look_const (ok := fun k => A.getD k 0 = B.getD k 0) (b := false) fun k hk => by
      unfold P_semigroupref03_Same_l5
      rw [gi_lt 0 hk, gi_lt 0 (by omega)]
      simp only [Option.bind_some]
      by_cases e : A.getD k 0 = B.getD k 0 <;> simp only [e, Option.bind_some, Option.bind_none, decide_true, decide_false, Bool.not_true, Bool.not_false, Bool.true_and, Bool.and_true, Bool.false_eq_true, if_true, if_false, not_true_eq_false, not_false_eq_true, ite_true, ite_false, Bool.not_eq_true, decide_eq_true_eq, decide_eq_false_iff_not, Bool.not_eq_true', Bool.not_eq_false', Option.getD_some, Option.getD_none, Option.isSome_some, Option.isSome_none, Option.isNone_some, Option.isNone_none, eq_self, forall_const, true_implies, false_implies, implies_true]]
    by_cases e : A = B
    · subst e; simp
    · have : ¬ ∀ k, k < A.length → A.getD k 0 = B.getD k 0 := fun h1 => e (list_ext 0 h h1)
      simp only [this, if_false, Option.bind_some, e, decide_false]
  · rw [if_pos (by simp; omega)]
    have : A ≠ B := fun e => h (by rw [e])
    simp [this]

theorem ref_valid (L : List Int) : P_semigroupref03_Valid L = some (validP L) := by
  unfold P_semigroupref03_Valid
  by_cases h : L.length ≤ 4096
  · have h1 : decide ((L.length : Int) ≤ 4096) = true := by simp; omega
    rw [if_pos h1, ref_canonical L h]
    simp only [Option.bind_some, same]
    congr 1
    rw [Bool.eq_iff_iff, validP_iff]
    simp only [decide_eq_true_eq]
    exact ⟨fun e => ⟨h, e.symm⟩, fun e => e.2.symm⟩
  · have h1 : decide ((L.length : Int) ≤ 4096) = false := by simp; omega
    rw [h1]
    have : validP L = false := by unfold validP; simp [h]
    simp [this]

theorem count_step {p : List Int} (hc : canonI p = p) {k : Nat} (hk : k < p.length) : (if p.getD k 0 + 1 > ((nub (p.take k)).length : Int) then p.getD k 0 + 1 else ((nub (p.take k)).length : Int)) = ((nub (p.take (k + 1))).length : Int) := by
  by_cases hn : isNew p k
  · have h1 := canonI_new hk hn
    rw [hc] at h1
    rw [nub_new hk hn, h1, if_pos (by omega)]
    simp
  · have : ∃ i, i < k ∧ p.getD i 0 = p.getD k 0 := by
      refine Classical.byContradiction fun hc => hn fun i hi e => hc ⟨i, hi, e⟩
    obtain ⟨i, hi, e⟩ := this
    have h1 := canonI_lt (L := p) (k := i) (by omega) hi (by omega)
    rw [hc, e] at h1
    rw [nub_old hk hn, if_neg (by omega)]
theorem count (p : List Int) : P_partition_Count p = some (if validP p then ((nub p).length : Int) else 0) := by
  unfold P_partition_Count
  rw [valid]
  simp only [Option.bind_some]
  cases hv : validP p with
  | false => simp
  | true =>
    obtain ⟨hl, hc⟩ := validP_iff.1 hv
    simp only [Bool.not_true, Bool.false_eq_true, if_false, if_true]
    obtain ⟨y, hy, hQ⟩ := forS_inv (n := p.length) (f := fun k x => P_partition_Count_l7 p k x) (x := 0) (fun k x => x = ((nub (p.take k)).length : Int)) (by simp [nub]) (by
      rintro k x hk rfl
      unfold P_partition_Count_l7
      rw [gi_lt 0 hk]
      have hb := (IsP.self hv).bound hk
      simp only [Option.bind_some]
      rw [w64_id (by omega) (by omega), count_step hc hk]
      exact ⟨_, rfl, rfl⟩)
    rw [hy, hQ, List.take_length]; rfl
theorem ref_count {p : List Int} (hv : validP p = true) : P_semigroupref03_Count p = some ((nub p).length : Int) := by
  obtain ⟨hl, hc⟩ := validP_iff.1 hv
  unfold P_semigroupref03_Count
  obtain ⟨y, hy, hQ⟩ := forS_inv (n := p.length) (f := fun k x => P_semigroupref03_Count_l2 p k x) (x := 0) (fun k x => x = ((nub (p.take k)).length : Int)) (by simp [nub]) (by
    rintro k x hk rfl
    unfold P_semigroupref03_Count_l2
    rw [gi_lt 0 hk]
    have hb := (IsP.self hv).bound hk
    simp only [Option.bind_some]
    rw [w64_id (by omega) (by omega), count_step hc hk]
    exact ⟨_, rfl, rfl⟩)
  rw [hy, hQ, List.take_length]; rfl

def Disc (n : Nat) (θ : Nat → Nat → Prop) : Prop := ∀ x y, x < n → y < n → θ x y → x = y
theorem isP_full {n : Nat} {θ : Nat → Nat → Prop} {p : List Int} (hp : IsP n θ p) : (nub p).length = n ↔ Disc n θ := by
  rw [← hp.len, Par.nub_full, hp.len]
  unfold Disc
  constructor
  · intro h x y hx hy e; exact h x y hx hy ((hp.ker x y hx hy).2 e)
  · intro h x y hx hy e; exact h x y hx hy ((hp.ker x y hx hy).1 e)
open Classical in
theorem discrete {n : Nat} {θ : Nat → Nat → Prop} {p : List Int} (hp : IsP n θ p) (hn : n ≤ 4096) : P_subdirect_discrete p = some (decide (Disc n θ)) := by
  unfold P_subdirect_discrete
  rw [count, if_pos (hp.valid hn)]
  simp only [Option.bind_some, Option.some.injEq]
  rw [Bool.eq_iff_iff]
  simp only [decide_eq_true_eq]
  rw [← isP_full hp, ← hp.len]
  omega

theorem both {n : Nat} {θ φ : Nat → Nat → Prop} {p q : List Int} (hp : IsP n θ p) (hq : IsP n φ q) (hn : n ≤ 4096) : P_partition_both p q = some true := by
  unfold P_partition_both
  have h1 : decide ((p.length : Int) = (q.length : Int)) = true := by rw [hp.len, hq.len]; simp
  rw [if_pos h1, valid, valid, hp.valid hn, hq.valid hn]
  rfl
theorem pack {a b : Int} (ha : 0 ≤ a ∧ a < 4096) (hb : 0 ≤ b ∧ b < 4096) : w64 (w64 (a * 4096) + b) = a * 4096 + b := by
  rw [w64_id (x := a * 4096) (by omega) (by omega), w64_id (by omega) (by omega)]
theorem meet_isP {n : Nat} {θ φ : Nat → Nat → Prop} {p q : List Int} (hp : IsP n θ p) (hq : IsP n φ q) (hn : n ≤ 4096) : IsP n (fun x y => θ x y ∧ φ x y) (canonI (tab n fun k => p.getD k 0 * 4096 + q.getD k 0)) := by
  refine IsP.of (by simp) fun x y hx hy => ?_
  rw [tab_getD hx, tab_getD hy, ← hp.ker x y hx hy, ← hq.ker x y hx hy]
  have a := hp.bound hx; have b := hp.bound hy; have c := hq.bound hx; have d := hq.bound hy
  omega
theorem meet {n : Nat} {θ φ : Nat → Nat → Prop} {p q : List Int} (hp : IsP n θ p) (hq : IsP n φ q) (hn : n ≤ 4096) : ∃ r, P_partition_Meet p q = some r ∧ IsP n (fun x y => θ x y ∧ φ x y) r := by
  refine ⟨_, ?_, meet_isP hp hq hn⟩
  unfold P_partition_Meet
  rw [both hp hq hn]
  simp only [Option.bind_some, Bool.not_true, Bool.false_eq_true, if_false]
  rw [mkz_ok (by have := hp.len; omega) (by omega)]
  simp only [Option.bind_some]
  rw [fill_loop (v := fun k => p.getD k 0 * 4096 + q.getD k 0) 0 (by simp) fun k X hk hX => by
    have hk' : k < n := by rw [← hp.len]; exact hk
    unfold P_partition_Meet_l17
    rw [gi_lt 0 hk, gi_lt 0 (by rw [hq.len]; exact hk')]
    have a := hp.bound hk'; have b := hq.bound hk'
    simp only [Option.bind_some]
    rw [pack ⟨by omega, by omega⟩ ⟨by omega, by omega⟩, si_lt (by omega)]
    rfl]
  simp only [Option.bind_some]
  rw [hp.len, canonical _ (by simpa using hn)]
  rfl
theorem ref_meet {n : Nat} {θ φ : Nat → Nat → Prop} {p q : List Int} (hp : IsP n θ p) (hq : IsP n φ q) (hn : n ≤ 4096) : ∃ r, P_semigroupref03_Meet p q = some r ∧ IsP n (fun x y => θ x y ∧ φ x y) r := by
  refine ⟨_, ?_, meet_isP hp hq hn⟩
  unfold P_semigroupref03_Meet
  rw [mkz_ok (by have := hp.len; omega) (by omega)]
  simp only [Option.bind_some]
  rw [fill_loop (v := fun k => p.getD k 0 * 4096 + q.getD k 0) 0 (by simp) fun k X hk hX => by
    have hk' : k < n := by rw [← hp.len]; exact hk
    unfold P_semigroupref03_Meet_l11
    rw [gi_lt 0 hk, gi_lt 0 (by rw [hq.len]; exact hk')]
    have a := hp.bound hk'; have b := hq.bound hk'
    simp only [Option.bind_some]
    rw [pack ⟨by omega, by omega⟩ ⟨by omega, by omega⟩, si_lt (by omega)]
    rfl]
  simp only [Option.bind_some]
  rw [hp.len, ref_canonical _ (by simpa using hn)]
  rfl

theorem rep_isP (n : Nat) : IsP n (fun _ _ => True) (List.replicate n 0) := by
  have h : IsP n (fun _ _ => True) (canonI (List.replicate n 0)) := IsP.of (by simp) fun x y hx hy => by simp [List.getD_eq_getElem?_getD, hx, hy]
  have e : canonI (List.replicate n 0) = List.replicate n 0 := by
    refine list_ext 0 (by simp) fun i hi => ?_
    simp only [canonI_length, List.length_replicate] at hi
    have h0 := (h.ker i 0 hi (by omega)).2 trivial
    have h1 := h.bound (k := 0) (by omega)
    rw [h0, show (List.replicate n (0 : Int)).getD i 0 = 0 by simp [List.getD_eq_getElem?_getD, hi]]
    omega
  rwa [e] at h
theorem trivial' {n : Nat} (hn : n ≤ 4096) : P_partition_Trivial (n : Int) = some (List.replicate n 0) := by
  unfold P_partition_Trivial
  have h1 : decide ((n : Int) < 0) = false := by simp
  have h2 : decide ((4096 : Int) < n) = false := by simp; omega
  rw [h1, h2, mkz_ok (by omega) (by omega)]
  rfl
def iota (n : Nat) : List Int := tab n fun k => (k : Int)
theorem iota_isP (n : Nat) : IsP n (fun x y => x = y) (iota n) := by
  have h : IsP n (fun x y => x = y) (canonI (iota n)) := IsP.of (by simp [iota]) fun x y hx hy => by unfold iota; rw [tab_getD hx, tab_getD hy]; omega
  have e : canonI (iota n) = iota n := by
    have hnew : ∀ k, k < n → isNew (iota n) k := fun k hk i hi => by unfold iota; rw [tab_getD hk, tab_getD (by omega)]; omega
    have hl : ∀ k, k ≤ n → (nub ((iota n).take k)).length = k := by
      intro k
      induction k with
      | zero => intro _; simp [nub]
      | succ k ih => intro hk; rw [nub_new (by simp [iota]; omega) (hnew k (by omega))]; simp [ih (by omega)]
    refine list_ext 0 (by simp) fun i hi => ?_
    simp only [canonI_length] at hi
    have hi' : i < n := by simpa [iota] using hi
    rw [canonI_new hi (hnew i hi'), hl i (by omega)]
    unfold iota; rw [tab_getD hi']
  rwa [e] at h
theorem discrete' {n : Nat} (hn : n ≤ 4096) : P_partition_Discrete (n : Int) = some (iota n) := by
  unfold P_partition_Discrete
  have h1 : decide ((n : Int) < 0) = false := by simp
  have h2 : decide ((4096 : Int) < n) = false := by simp; omega
  rw [h1, h2, mkz_ok (by omega) (by omega)]
  simp only [Bool.false_eq_true, if_false, Option.bind_some, List.length_replicate]
  rw [fill_loop (v := fun k => (k : Int)) 0 (by simp) fun k X hk hX => by
    unfold P_partition_Discrete_l17
    rw [si_lt (by omega)]; rfl]
  rfl
theorem ref_discrete' {n : Nat} (hn : n ≤ 4096) : P_semigroupref03_Discrete (n : Int) = some (iota n) := by
  unfold P_semigroupref03_Discrete
  rw [mkz_ok (by omega) (by omega)]
  simp only [Option.bind_some, List.length_replicate]
  rw [fill_loop (v := fun k => (k : Int)) 0 (by simp) fun k X hk hX => by
    unfold P_semigroupref03_Discrete_l11
    rw [si_lt (by omega)]; rfl]
  rfl

open Classical in
theorem ref_refines {n : Nat} {θ φ : Nat → Nat → Prop} {p q : List Int} (hp : IsP n θ p) (hq : IsP n φ q) : P_semigroupref03_Refines p q = some (decide (∀ x y, x < n → y < n → θ x y → φ x y)) := by
  unfold P_semigroupref03_Refines
  rw [look_const (ok := fun x => ∀ y, y < n → θ x y → φ x y) (b := false) fun x hx => by
    have hx' : x < n := by rw [← hp.len]; exact hx
    unfold P_semigroupref03_Refines_l2
    rw [look_const (ok := fun y => θ x y → φ x y) (b := false) fun y hy => by
      have hy' : y < n := by rw [← hp.len]; exact hy
      unfold P_semigroupref03_Refines_l12
      rw [gi_lt 0 hx, gi_lt 0 hy, gi_lt 0 (by rw [hq.len]; exact hx'), gi_lt 0 (by rw [hq.len]; exact hy')]
      simp only [Option.bind_some]
      have e1 := hp.ker x y hx' hy'; have e2 := hq.ker x y hx' hy'
      by_cases h1 : θ x y
      · by_cases h2 : φ x y
        · simp only [e1.2 h1, e2.2 h2, h2, Option.bind_some, Option.bind_none, decide_true, decide_false, Bool.not_true, Bool.not_false, Bool.true_and, Bool.and_true, Bool.false_eq_true, if_true, if_false, not_true_eq_false, not_false_eq_true, ite_true, ite_false, Bool.not_eq_true, decide_eq_true_eq, decide_eq_false_iff_not, Bool.not_eq_true', Bool.not_eq_false', Option.getD_some, Option.getD_none, Option.isSome_some, Option.isSome_none, Option.isNone_some, Option.isNone_none, eq_self, forall_const, true_implies, false_implies, implies_true]
        · simp only [e1.2 h1, mt e2.1 h2, h1, h2, Option.bind_some, Option.bind_none, decide_true, decide_false, Bool.not_true, Bool.not_false, Bool.true_and, Bool.and_true, Bool.false_eq_true, if_true, if_false, not_true_eq_false, not_false_eq_true, ite_true, ite_false, Bool.not_eq_true, decide_eq_true_eq, decide_eq_false_iff_not, Bool.not_eq_true', Bool.not_eq_false', Option.getD_some, Option.getD_none, Option.isSome_some, Option.isSome_none, Option.isNone_some, Option.isNone_none, eq_self, forall_const, true_implies, false_implies, implies_true]
      · simp only [mt e1.1 h1, h1, Option.bind_some, Option.bind_none, decide_true, decide_false, Bool.not_true, Bool.not_false, Bool.true_and, Bool.and_true, Bool.false_eq_true, if_true, if_false, not_true_eq_false, not_false_eq_true, ite_true, ite_false, Bool.not_eq_true, decide_eq_true_eq, decide_eq_false_iff_not, Bool.not_eq_true', Bool.not_eq_false', Option.getD_some, Option.getD_none, Option.isSome_some, Option.isSome_none, Option.isNone_some, Option.isNone_none, eq_self, forall_const, true_implies, false_implies, implies_true]]
    simp only [hp.len]
    by_cases h : ∀ y, y < n → θ x y → φ x y
    · rw [if_pos h, if_pos h]; rfl
    · rw [if_neg h, if_neg h]; rfl]
  simp only [hp.len]
  by_cases h : ∀ x, x < n → ∀ y, y < n → θ x y → φ x y
  · have h' : ∀ x y, x < n → y < n → θ x y → φ x y := fun x y hx hy => h x hx y hy
    rw [if_pos h, decide_eq_true h']; rfl
  · have h' : ¬ ∀ x y, x < n → y < n → θ x y → φ x y := fun h1 => h fun x hx y hy => h1 x y hx hy
    rw [if_neg h, decide_eq_false h']; rfl
end Go.Proofs.Ytmdpejgnkoneoaa.Mt
set_option maxRecDepth 100000
set_option maxHeartbeats 4000000
namespace Go.Proofs.Ytmdpejgnkoneoaa.Pu
open Go Go.AM Go.Proofs.Ytmdpejgnkoneoaa.Code

noncomputable def P_semigroupref14_Shape_l26 (t : List (List Int)) (x15 : List Int) (k28 : Nat) : Option (Lp (Unit) (Int)) :=
 Option.bind (gi x15 (k28 : Int)) fun x35 =>
 Option.bind (
  if decide (x35 < 0) then
   some true
  else
   some (decide ((t.length : Int) ≤ x35))) fun z42 =>
 if z42 then
  some (.ex 4)
 else
  some (.go ())
noncomputable def P_semigroupref14_Shape_l6 (t : List (List Int)) (k8 : Nat) : Option (Lp (Unit) (Int)) :=
 Option.bind (gi t (k8 : Int)) fun x15 =>
 if !decide ((x15.length : Int) = (t.length : Int)) then
  some (.ex 4)
 else
  Option.bind (forR x15.length (fun k x => P_semigroupref14_Shape_l26 t x15 k) ()) fun z32 =>
  match z32 with
  | .inl x48 =>
   some (.go ())
  | .inr b => some (.ex b)
noncomputable def P_semigroupref14_Shape (t : List (List Int)) : Option (Int) :=
 if decide (400 < (t.length : Int)) then
  some 3
 else
  if decide ((t.length : Int) = 0) then
   some 4
  else
   Option.bind (forR t.length (fun k x => P_semigroupref14_Shape_l6 t k) ()) fun z12 =>
   match z12 with
   | .inl x50 =>
    some 0
   | .inr b => some b
theorem R_semigroupref14_Shape {G : List Frag} {W H : AH} {v_0 : AV} {t : List (List Int)} (hst : St G W H) (h_0 : Rp.rv W v_0 t) {r : Int} (hp : P_semigroupref14_Shape t = some r) :
  wpc E0 N_semigroupref14_Shape [v_0] H fun rv H' => ∃ W', Wle W W' ∧ St G W' H' ∧ rv = .int .i64 r := by
 refine enterN (F := f_semigroupref14_Shape) rfl (Nat.le_of_ble_eq_true rfl) fun s hl hg => ?_;replace hl : s.length = 40 := hl;have g0 : gt s 0 = v_0 := hg 0 (Nat.le_of_ble_eq_true rfl);clear hg;unfold P_semigroupref14_Shape at hp;show wp E0 c_semigroupref14_Shape s H _;unfold c_semigroupref14_Shape;refine AM.wp_seq hp0 (AM.wp_reg hp0 ?_);refine wpo_seg hp0 1 (fun s H' => s.length = 40 ∧ gt s 0 = v_0 ∧ H = H') (by simp only [↓runs, isCall, ↓reduceIte, ↓gd_true, ↓gd_false, evs, AV.cells, Nat.reduceEqDiff, Nat.reduceLT, reduceCtorEq, Nat.reduceAdd, sy, g0, hl]) ?_;rintro s _ ⟨hl, g0, rfl⟩;refine wpo_nil (then_n ?_);refine AM.wp_seq hp0 (AM.wp_seq hp0 (AM.wp_reg hp0 ?_));have f1 := fz_ln h_0;refine wpo_seg hp0 3 (fun s H' => s.length = 40 ∧ gt s 0 = v_0 ∧ gt s 9 = .bool (decide (400 < (t.length : Int))) ∧ H = H') (by simp only [↓runs, isCall, ↓reduceIte, ↓gd_true, ↓gd_false, evs, AV.cells, Nat.reduceEqDiff, Nat.reduceLT, reduceCtorEq, Nat.reduceAdd, sy, f1, g0, hl]) ?_;rintro s _ ⟨hl, g0, g9, rfl⟩;refine wpo_nil (then_n ?_);rcases Bool.eq_false_or_eq_true (decide (400 < (t.length : Int))) with c2 | c2
 ·replace hp := ifT c2 hp;refine AM.wp_condT (by simp only [ev_t, ev_c, g9, c2]) ?_;refine AM.wp_seq hp0 (AM.wp_reg hp0 ?_);refine wpo_seg hp0 1 (fun s H' => s.length = 40 ∧ gt s 2 = .int .i64 3 ∧ H = H') (by simp only [↓runs, isCall, ↓reduceIte, ↓gd_true, ↓gd_false, evs, AV.cells, Nat.reduceEqDiff, Nat.reduceLT, reduceCtorEq, Nat.reduceAdd, sy, g0, g9, hl]) ?_;rintro s _ ⟨hl, g2, rfl⟩;refine wpo_nil (then_n ?_);refine AM.wp_ret ?_;refine then_r ?_;obtain rfl := Option.some.inj hp;refine body_ret (vs := [.int .i64 3]) (by simp only [rvs, f_semigroupref14_Shape, Option.map_some, g2]) ?_;exact ⟨W, .refl _, hst, rfl⟩
 ·replace hp := ifF c2 hp;refine AM.wp_condF (by simp only [ev_t, ev_c, g9, c2]) ?_;refine AM.wp_skip ?_;refine then_n ?_;refine AM.wp_seq hp0 (AM.wp_seq hp0 (AM.wp_reg hp0 ?_));have f3 := fz_ln h_0;refine wpo_seg hp0 3 (fun s H' => s.length = 40 ∧ gt s 0 = v_0 ∧ gt s 12 = .bool (decide ((t.length : Int) = 0)) ∧ H = H') (by simp only [↓runs, isCall, ↓reduceIte, ↓gd_true, ↓gd_false, evs, AV.cells, Nat.reduceEqDiff, Nat.reduceLT, reduceCtorEq, Nat.reduceAdd, sy, f3, g0, g9, hl]) ?_;rintro s _ ⟨hl, g0, g12, rfl⟩;refine wpo_nil (then_n ?_);rcases Bool.eq_false_or_eq_true (decide ((t.length : Int) = 0)) with c4 | c4
  ·replace hp := ifT c4 hp;refine AM.wp_condT (by simp only [ev_t, ev_c, g12, c4]) ?_;refine AM.wp_seq hp0 (AM.wp_reg hp0 ?_);refine wpo_seg hp0 1 (fun s H' => s.length = 40 ∧ gt s 2 = .int .i64 4 ∧ H = H') (by simp only [↓runs, isCall, ↓reduceIte, ↓gd_true, ↓gd_false, evs, AV.cells, Nat.reduceEqDiff, Nat.reduceLT, reduceCtorEq, Nat.reduceAdd, sy, g0, g12, hl]) ?_;rintro s _ ⟨hl, g2, rfl⟩;refine wpo_nil (then_n ?_);refine AM.wp_ret ?_;refine then_r ?_;obtain rfl := Option.some.inj hp;refine body_ret (vs := [.int .i64 4]) (by simp only [rvs, f_semigroupref14_Shape, Option.map_some, g2]) ?_;exact ⟨W, .refl _, hst, rfl⟩
  ·replace hp := ifF c4 hp;refine AM.wp_condF (by simp only [ev_t, ev_c, g12, c4]) ?_;refine AM.wp_skip ?_;refine then_n ?_;refine AM.wp_seq hp0 (AM.wp_seq hp0 (AM.wp_reg hp0 ?_));have f5 := fz_ln h_0;refine wpo_seg hp0 3 (fun s H' => s.length = 40 ∧ gt s 0 = v_0 ∧ gt s 13 = v_0 ∧ gt s 14 = .int .i64 (t.length : Int) ∧ gt s 15 = .int .i64 0 ∧ H = H') (by simp only [↓runs, isCall, ↓reduceIte, ↓gd_true, ↓gd_false, evs, AV.cells, Nat.reduceEqDiff, Nat.reduceLT, reduceCtorEq, Nat.reduceAdd, sy, f5, g0, g12, hl]) ?_;rintro s _ ⟨hl, g0, g13, g14, g15, rfl⟩;refine wpo_nil (then_n ?_);obtain ⟨z12, e13, hp⟩ := bn hp;refine range_ref hp0 40 t.length (fun k x => P_semigroupref14_Shape_l6 t k) (fun _ x s H' => s.length = 40 ∧ gt s 0 = v_0 ∧ gt s 13 = v_0 ∧ H = H') (fun _ x s H' => s.length = 40 ∧ H = H') e13 (fz_big h_0) rfl ?_ ?_ hl g15 g14 ?_ ?_
   ·intro k x s H d v hd h; rcases hd with rfl | rfl | rfl <;> simpa only [gt_other, pt_length, Nat.reduceEqDiff, not_false_eq_true] using h
   ·exact ⟨hl, g0, g13, rfl⟩
   ·intro k8 x7 y9 s H hk hI hl g15 g14 hy10 hx11;change P_semigroupref14_Shape_l6 t k8 = some y9 at hy10;unfold P_semigroupref14_Shape_l6 at hy10;obtain ⟨hl, g0, g13, rfl⟩ := hI;refine AM.wp_seq hp0 (AM.wp_reg hp0 ?_);obtain ⟨x15, e16, hy10⟩ := bn hy10;obtain ⟨p17, y18, f19, f20, h21⟩ := fz_at (k := .i64) hst h_0 e16 rfl;refine wpo_seg hp0 3 (fun s H' => s.length = 40 ∧ gt s 0 = v_0 ∧ gt s 4 = y18 ∧ gt s 13 = v_0 ∧ gt s 14 = .int .i64 (t.length : Int) ∧ gt s 15 = .int .i64 (k8 : Int) ∧ H = H') (by simp only [↓runs, isCall, ↓reduceIte, ↓gd_true, ↓gd_false, evs, AV.cells, Nat.reduceEqDiff, Nat.reduceLT, reduceCtorEq, Nat.reduceAdd, sy, f19, f20, g0, g13, g14, g15, hl]) ?_;rintro s _ ⟨hl, g0, g4, g13, g14, g15, rfl⟩;refine wpo_nil (then_n ?_);refine AM.wp_seq hp0 (AM.wp_seq hp0 (AM.wp_reg hp0 ?_));have f22 := fz_ln h21;have f23 := fz_ln h_0;refine wpo_seg hp0 5 (fun s H' => s.length = 40 ∧ gt s 0 = v_0 ∧ gt s 4 = y18 ∧ gt s 13 = v_0 ∧ gt s 14 = .int .i64 (t.length : Int) ∧ gt s 15 = .int .i64 (k8 : Int) ∧ gt s 23 = .bool (!decide ((x15.length : Int) = (t.length : Int))) ∧ H = H') (by simp only [↓runs, isCall, ↓reduceIte, ↓gd_true, ↓gd_false, evs, AV.cells, Nat.reduceEqDiff, Nat.reduceLT, reduceCtorEq, Nat.reduceAdd, sy, f22, f23, g0, g4, g13, g14, g15, hl]) ?_;rintro s _ ⟨hl, g0, g4, g13, g14, g15, g23, rfl⟩;refine wpo_nil (then_n ?_);rcases Bool.eq_false_or_eq_true (!decide ((x15.length : Int) = (t.length : Int))) with c24 | c24
    ·replace hy10 := ifT c24 hy10;refine AM.wp_condT (by simp only [ev_t, ev_c, g23, c24]) ?_;refine AM.wp_seq hp0 (AM.wp_reg hp0 ?_);refine wpo_seg hp0 1 (fun s H' => s.length = 40 ∧ gt s 2 = .int .i64 4 ∧ H = H') (by simp only [↓runs, isCall, ↓reduceIte, ↓gd_true, ↓gd_false, evs, AV.cells, Nat.reduceEqDiff, Nat.reduceLT, reduceCtorEq, Nat.reduceAdd, sy, g0, g4, g13, g14, g15, g23, hl]) ?_;rintro s _ ⟨hl, g2, rfl⟩;refine wpo_nil (then_n ?_);refine AM.wp_ret ?_;refine then_r ?_;refine rnd_r ?_;refine then_r ?_;obtain rfl := Option.some.inj hy10;have hx := hx11 _ rfl;subst hx;dsimp only at hp;obtain rfl := Option.some.inj hp;refine body_ret (vs := [.int .i64 4]) (by simp only [rvs, f_semigroupref14_Shape, Option.map_some, g2]) ?_;exact ⟨W, .refl _, hst, rfl⟩
    ·replace hy10 := ifF c24 hy10;refine AM.wp_condF (by simp only [ev_t, ev_c, g23, c24]) ?_;refine AM.wp_skip ?_;refine then_n ?_;refine AM.wp_seq hp0 (AM.wp_reg hp0 ?_);have f25 := fz_ln h21;refine wpo_seg hp0 3 (fun s H' => s.length = 40 ∧ gt s 0 = v_0 ∧ gt s 13 = v_0 ∧ gt s 14 = .int .i64 (t.length : Int) ∧ gt s 15 = .int .i64 (k8 : Int) ∧ gt s 24 = y18 ∧ gt s 25 = .int .i64 (x15.length : Int) ∧ gt s 26 = .int .i64 0 ∧ H = H') (by simp only [↓runs, isCall, ↓reduceIte, ↓gd_true, ↓gd_false, evs, AV.cells, Nat.reduceEqDiff, Nat.reduceLT, reduceCtorEq, Nat.reduceAdd, sy, f25, g0, g4, g13, g14, g15, g23, hl]) ?_;rintro s _ ⟨hl, g0, g13, g14, g15, g24, g25, g26, rfl⟩;refine wpo_nil (then_n ?_);obtain ⟨z32, e33, hy10⟩ := bn hy10;refine range_ref hp0 40 x15.length (fun k x => P_semigroupref14_Shape_l26 t x15 k) (fun _ x s H' => s.length = 40 ∧ gt s 0 = v_0 ∧ gt s 13 = v_0 ∧ gt s 14 = .int .i64 (t.length : Int) ∧ gt s 15 = .int .i64 (k8 : Int) ∧ gt s 24 = y18 ∧ H = H') (fun _ x s H' => s.length = 40 ∧ gt s 0 = v_0 ∧ gt s 13 = v_0 ∧ gt s 14 = .int .i64 (t.length : Int) ∧ gt s 15 = .int .i64 (k8 : Int) ∧ H = H') e33 (fz_big h21) rfl ?_ ?_ hl g26 g25 ?_ ?_
     ·intro k x s H d v hd h; rcases hd with rfl | rfl | rfl <;> simpa only [gt_other, pt_length, Nat.reduceEqDiff, not_false_eq_true] using h
     ·exact ⟨hl, g0, g13, g14, g15, g24, rfl⟩
     ·intro k28 x27 y29 s H hk hI hl g26 g25 hy30 hx31;change P_semigroupref14_Shape_l26 t x15 k28 = some y29 at hy30;unfold P_semigroupref14_Shape_l26 at hy30;obtain ⟨hl, g0, g13, g14, g15, g24, rfl⟩ := hI;refine AM.wp_seq hp0 (AM.wp_reg hp0 ?_);obtain ⟨x35, e36, hy30⟩ := bn hy30;obtain ⟨p37, _, f39, f40, rfl⟩ := fz_at (k := .i64) hst h21 e36 rfl;refine wpo_seg hp0 3 (fun s H' => s.length = 40 ∧ gt s 0 = v_0 ∧ gt s 6 = .int .i64 x35 ∧ gt s 13 = v_0 ∧ gt s 14 = .int .i64 (t.length : Int) ∧ gt s 15 = .int .i64 (k8 : Int) ∧ gt s 24 = y18 ∧ gt s 25 = .int .i64 (x15.length : Int) ∧ gt s 26 = .int .i64 (k28 : Int) ∧ H = H') (by simp only [↓runs, isCall, ↓reduceIte, ↓gd_true, ↓gd_false, evs, AV.cells, Nat.reduceEqDiff, Nat.reduceLT, reduceCtorEq, Nat.reduceAdd, sy, f39, f40, g0, g13, g14, g15, g24, g25, g26, hl]) ?_;rintro s _ ⟨hl, g0, g6, g13, g14, g15, g24, g25, g26, rfl⟩;refine wpo_nil (then_n ?_);refine AM.wp_seq hp0 ?_;obtain ⟨z42, hj43, hy30⟩ := bn hy30;refine AM.wp_regK hp0 (fun s H' => s.length = 40 ∧ gt s 37 = .bool z42 ∧ gt s 0 = v_0 ∧ gt s 13 = v_0 ∧ gt s 14 = .int .i64 (t.length : Int) ∧ gt s 15 = .int .i64 (k8 : Int) ∧ gt s 24 = y18 ∧ gt s 25 = .int .i64 (x15.length : Int) ∧ gt s 26 = .int .i64 (k28 : Int) ∧ H = H') ?_ ?_
      ·rcases Bool.eq_false_or_eq_true (decide (x35 < 0)) with c44 | c44
       ·replace hj43 := ifT c44 hj43;refine wpo_seg hp0 8 (fun s H' => s.length = 40 ∧ gt s 0 = v_0 ∧ gt s 13 = v_0 ∧ gt s 14 = .int .i64 (t.length : Int) ∧ gt s 15 = .int .i64 (k8 : Int) ∧ gt s 24 = y18 ∧ gt s 25 = .int .i64 (x15.length : Int) ∧ gt s 26 = .int .i64 (k28 : Int) ∧ gt s 37 = .bool true ∧ H = H') (by simp only [↓runs, isCall, ↓reduceIte, ↓gd_true, ↓gd_false, evs, AV.cells, Nat.reduceEqDiff, Nat.reduceLT, reduceCtorEq, Nat.reduceAdd, sy, c44, g0, g6, g13, g14, g15, g24, g25, g26, hl]) ?_;rintro s _ ⟨hl, g0, g13, g14, g15, g24, g25, g26, g37, rfl⟩;refine wpo_nil ?_;obtain rfl := Option.some.inj hj43;exact ⟨hl, g37, g0, g13, g14, g15, g24, g25, g26, rfl⟩
       ·replace hj43 := ifF c44 hj43;have f45 := fz_ln h_0;refine wpo_seg hp0 8 (fun s H' => s.length = 40 ∧ gt s 0 = v_0 ∧ gt s 13 = v_0 ∧ gt s 14 = .int .i64 (t.length : Int) ∧ gt s 15 = .int .i64 (k8 : Int) ∧ gt s 24 = y18 ∧ gt s 25 = .int .i64 (x15.length : Int) ∧ gt s 26 = .int .i64 (k28 : Int) ∧ gt s 37 = .bool (decide ((t.length : Int) ≤ x35)) ∧ H = H') (by simp only [↓runs, isCall, ↓reduceIte, ↓gd_true, ↓gd_false, evs, AV.cells, Nat.reduceEqDiff, Nat.reduceLT, reduceCtorEq, Nat.reduceAdd, sy, c44, f45, g0, g6, g13, g14, g15, g24, g25, g26, hl]) ?_;rintro s _ ⟨hl, g0, g13, g14, g15, g24, g25, g26, g37, rfl⟩;refine wpo_nil ?_;obtain rfl := Option.some.inj hj43;exact ⟨hl, g37, g0, g13, g14, g15, g24, g25, g26, rfl⟩
      ·rintro s _ ⟨hl, g37, g0, g13, g14, g15, g24, g25, g26, rfl⟩;refine then_n ?_;rcases Bool.eq_false_or_eq_true (z42) with c47 | c47
       ·replace hy30 := ifT c47 hy30;refine AM.wp_condT (by simp only [ev_t, ev_c, g37, c47]) ?_;refine AM.wp_seq hp0 (AM.wp_reg hp0 ?_);refine wpo_seg hp0 1 (fun s H' => s.length = 40 ∧ gt s 2 = .int .i64 4 ∧ H = H') (by simp only [↓runs, isCall, ↓reduceIte, ↓gd_true, ↓gd_false, evs, AV.cells, Nat.reduceEqDiff, Nat.reduceLT, reduceCtorEq, Nat.reduceAdd, sy, g0, g13, g14, g15, g24, g25, g26, g37, hl]) ?_;rintro s _ ⟨hl, g2, rfl⟩;refine wpo_nil (then_n ?_);refine AM.wp_ret ?_;refine rnd_r ?_;refine rnd_r ?_;refine then_r ?_;obtain rfl := Option.some.inj hy30;have hx := hx31 _ rfl;subst hx;dsimp only at hy10;obtain rfl := Option.some.inj hy10;have hx := hx11 _ rfl;subst hx;dsimp only at hp;obtain rfl := Option.some.inj hp;refine body_ret (vs := [.int .i64 4]) (by simp only [rvs, f_semigroupref14_Shape, Option.map_some, g2]) ?_;exact ⟨W, .refl _, hst, rfl⟩
       ·replace hy30 := ifF c47 hy30;refine AM.wp_condF (by simp only [ev_t, ev_c, g37, c47]) ?_;refine AM.wp_skip ?_;refine rnd_n ?_;obtain rfl := Option.some.inj hy30;exact ⟨_, rfl, hl, g26, g25, ⟨hl, g0, g13, g14, g15, g24, rfl⟩⟩
     ·rintro x48 s Hn hz hI;replace hI : (fun s H' => s.length = 40 ∧ gt s 0 = v_0 ∧ gt s 13 = v_0 ∧ gt s 14 = .int .i64 (t.length : Int) ∧ gt s 15 = .int .i64 (k8 : Int) ∧ H = H') s Hn := by
       rcases hI with ⟨hI, -⟩ | ⟨_, hI⟩
       ·obtain ⟨hl, g0, g13, g14, g15, g24, e2⟩ := hI;exact ⟨hl, g0, g13, g14, g15, e2⟩
       ·exact hI
      subst hz;dsimp only at hy10 hI;obtain ⟨hl, g0, g13, g14, g15, rfl⟩ := hI;refine rnd_n ?_;obtain rfl := Option.some.inj hy10;exact ⟨_, rfl, hl, g15, g14, ⟨hl, g0, g13, rfl⟩⟩
   ·rintro x50 s Hn hz hI;replace hI : (fun s H' => s.length = 40 ∧ H = H') s Hn := by
     rcases hI with ⟨hI, -⟩ | ⟨_, hI⟩
     ·obtain ⟨hl, g0, g13, e2⟩ := hI;exact ⟨hl, e2⟩
     ·exact hI
    subst hz;dsimp only at hp hI;obtain ⟨hl, rfl⟩ := hI;refine then_n ?_;refine AM.wp_seq hp0 (AM.wp_reg hp0 ?_);refine wpo_seg hp0 1 (fun s H' => s.length = 40 ∧ gt s 2 = .int .i64 0 ∧ H = H') (by simp only [↓runs, isCall, ↓reduceIte, ↓gd_true, ↓gd_false, evs, AV.cells, Nat.reduceEqDiff, Nat.reduceLT, reduceCtorEq, Nat.reduceAdd, sy, hl]) ?_;rintro s _ ⟨hl, g2, rfl⟩;refine wpo_nil (then_n ?_);refine AM.wp_ret ?_;obtain rfl := Option.some.inj hp;refine body_ret (vs := [.int .i64 0]) (by simp only [rvs, f_semigroupref14_Shape, Option.map_some, g2]) ?_;exact ⟨W, .refl _, hst, rfl⟩

end Go.Proofs.Ytmdpejgnkoneoaa.Pu
set_option maxRecDepth 100000
set_option maxHeartbeats 4000000
namespace Go.Proofs.Ytmdpejgnkoneoaa.Pu
open Go Go.AM Go.Proofs.Ytmdpejgnkoneoaa.Code

noncomputable def P_semigroupref14_Associative_l27 (k9 : Nat) (k19 : Nat) (t : List (List Int)) (k29 : Nat) : Option (Lp (Unit) (Int × Int × Int × Int)) :=
 Option.bind (gi t (k9 : Int)) fun x36 =>
 Option.bind (gi x36 (k19 : Int)) fun x43 =>
 Option.bind (gi t x43) fun x50 =>
 Option.bind (gi x50 (k29 : Int)) fun x57 =>
 Option.bind (gi t (k19 : Int)) fun x64 =>
 Option.bind (gi x64 (k29 : Int)) fun x71 =>
 Option.bind (gi x36 x71) fun x78 =>
 if !decide (x57 = x78) then
  some (.ex ((k9 : Int), (k19 : Int), (k29 : Int), 5))
 else
  some (.go ())
noncomputable def P_semigroupref14_Associative_l17 (k9 : Nat) (t : List (List Int)) (k19 : Nat) : Option (Lp (Unit) (Int × Int × Int × Int)) :=
 Option.bind (forR t.length (fun k x => P_semigroupref14_Associative_l27 k9 k19 t k) ()) fun z33 =>
 match z33 with
 | .inl x86 =>
  some (.go ())
 | .inr b => some (.ex b)
noncomputable def P_semigroupref14_Associative_l7 (t : List (List Int)) (k9 : Nat) : Option (Lp (Unit) (Int × Int × Int × Int)) :=
 Option.bind (forR t.length (fun k x => P_semigroupref14_Associative_l17 k9 t k) ()) fun z23 =>
 match z23 with
 | .inl x88 =>
  some (.go ())
 | .inr b => some (.ex b)
noncomputable def P_semigroupref14_Associative (t : List (List Int)) : Option (Int × Int × Int × Int) :=
 Option.bind (P_semigroupref14_Shape t) fun r1 =>
 if !decide (r1 = 0) then
  some (0, 0, 0, r1)
 else
  Option.bind (forR t.length (fun k x => P_semigroupref14_Associative_l7 t k) ()) fun z13 =>
  match z13 with
  | .inl x90 =>
   some (0, 0, 0, 0)
  | .inr b => some b
theorem R_semigroupref14_Associative {G : List Frag} {W H : AH} {v_0 : AV} {t : List (List Int)} (hst : St G W H) (h_0 : Rp.rv W v_0 t) {r : Int × Int × Int × Int} (hp : P_semigroupref14_Associative t = some r) :
  wpc E0 N_semigroupref14_Associative [v_0] H fun rv H' => ∃ W', Wle W W' ∧ St G W' H' ∧ rv = .tup [.int .i64 r.1, .int .i64 r.2.1, .int .i64 r.2.2.1, .int .i64 r.2.2.2] := by
 refine enterN (F := f_semigroupref14_Associative) rfl (Nat.le_of_ble_eq_true rfl) fun s hl hg => ?_;replace hl : s.length = 63 := hl;have g0 : gt s 0 = v_0 := hg 0 (Nat.le_of_ble_eq_true rfl);clear hg;unfold P_semigroupref14_Associative at hp;show wp E0 c_semigroupref14_Associative s H _;unfold c_semigroupref14_Associative;refine AM.wp_seq hp0 (AM.wp_reg hp0 ?_);refine wpo_seg hp0 4 (fun s H' => s.length = 63 ∧ gt s 0 = v_0 ∧ H = H') (by simp only [↓runs, isCall, ↓reduceIte, ↓gd_true, ↓gd_false, evs, AV.cells, Nat.reduceEqDiff, Nat.reduceLT, reduceCtorEq, Nat.reduceAdd, sy, g0, hl]) ?_;rintro s _ ⟨hl, g0, rfl⟩;refine wpo_nil (then_n ?_);refine AM.wp_seq hp0 (AM.wp_seq hp0 (AM.wp_reg hp0 ?_));refine wpo_seg hp0 1 (fun s H' => s.length = 63 ∧ gt s 0 = v_0 ∧ gt s 10 = v_0 ∧ H = H') (by simp only [↓runs, isCall, ↓reduceIte, ↓gd_true, ↓gd_false, evs, AV.cells, Nat.reduceEqDiff, Nat.reduceLT, reduceCtorEq, Nat.reduceAdd, sy, g0, hl]) ?_;rintro s _ ⟨hl, g0, g10, rfl⟩;obtain ⟨r1, e2, hp⟩ := bn hp;refine wpo_callK hp0 rfl (ys := [v_0]) (by simp only [evs, List.map_cons, List.map_nil, ev_t, ev_c, g10]) (R_semigroupref14_Shape hst h_0 e2) ?_;rintro rv3 H ⟨W, w4, hst, rfl⟩;replace h_0 := Rp.mono w4 h_0;refine wpo_seg hp0 1 (fun s H' => s.length = 63 ∧ gt s 0 = v_0 ∧ gt s 6 = .int .i64 r1 ∧ H = H') (by simp only [↓runs, isCall, ↓reduceIte, ↓gd_true, ↓gd_false, evs, AV.cells, Nat.reduceEqDiff, Nat.reduceLT, reduceCtorEq, Nat.reduceAdd, sy, gt_other, g0, g10, hl]) ?_;rintro s _ ⟨hl, g0, g6, rfl⟩;refine wpo_nil (then_n ?_);refine AM.wp_seq hp0 (AM.wp_reg hp0 ?_);refine wpo_seg hp0 2 (fun s H' => s.length = 63 ∧ gt s 0 = v_0 ∧ gt s 6 = .int .i64 r1 ∧ gt s 13 = .bool (!decide (r1 = 0)) ∧ H = H') (by simp only [↓runs, isCall, ↓reduceIte, ↓gd_true, ↓gd_false, evs, AV.cells, Nat.reduceEqDiff, Nat.reduceLT, reduceCtorEq, Nat.reduceAdd, sy, g0, g6, hl]) ?_;rintro s _ ⟨hl, g0, g6, g13, rfl⟩;refine wpo_nil (then_n ?_);rcases Bool.eq_false_or_eq_true (!decide (r1 = 0)) with c5 | c5
 ·replace hp := ifT c5 hp;refine AM.wp_condT (by simp only [ev_t, ev_c, g13, c5]) ?_;refine AM.wp_seq hp0 (AM.wp_reg hp0 ?_);refine wpo_seg hp0 5 (fun s H' => s.length = 63 ∧ gt s 2 = .int .i64 0 ∧ gt s 3 = .int .i64 0 ∧ gt s 4 = .int .i64 0 ∧ gt s 5 = .int .i64 r1 ∧ H = H') (by simp only [↓runs, isCall, ↓reduceIte, ↓gd_true, ↓gd_false, evs, AV.cells, Nat.reduceEqDiff, Nat.reduceLT, reduceCtorEq, Nat.reduceAdd, sy, g0, g6, g13, hl]) ?_;rintro s _ ⟨hl, g2, g3, g4, g5, rfl⟩;refine wpo_nil (then_n ?_);refine AM.wp_ret ?_;refine then_r ?_;obtain rfl := Option.some.inj hp;refine body_ret (vs := [.int .i64 0, .int .i64 0, .int .i64 0, .int .i64 r1]) (by simp only [rvs, f_semigroupref14_Associative, Option.map_some, g2, g3, g4, g5]) ?_;exact ⟨W, w4, hst, rfl⟩
 ·replace hp := ifF c5 hp;refine AM.wp_condF (by simp only [ev_t, ev_c, g13, c5]) ?_;refine AM.wp_skip ?_;refine then_n ?_;refine AM.wp_seq hp0 (AM.wp_seq hp0 (AM.wp_reg hp0 ?_));have f6 := fz_ln h_0;refine wpo_seg hp0 3 (fun s H' => s.length = 63 ∧ gt s 0 = v_0 ∧ gt s 16 = .int .i64 (t.length : Int) ∧ gt s 17 = .int .i64 0 ∧ H = H') (by simp only [↓runs, isCall, ↓reduceIte, ↓gd_true, ↓gd_false, evs, AV.cells, Nat.reduceEqDiff, Nat.reduceLT, reduceCtorEq, Nat.reduceAdd, sy, f6, g0, g6, g13, hl]) ?_;rintro s _ ⟨hl, g0, g16, g17, rfl⟩;refine wpo_nil (then_n ?_);obtain ⟨z13, e14, hp⟩ := bn hp;refine range_ref hp0 63 t.length (fun k x => P_semigroupref14_Associative_l7 t k) (fun _ x s H' => s.length = 63 ∧ gt s 0 = v_0 ∧ H = H') (fun _ x s H' => s.length = 63 ∧ H = H') e14 (fz_big h_0) rfl ?_ ?_ hl g17 g16 ?_ ?_
  ·intro k x s H d v hd h; rcases hd with rfl | rfl | rfl <;> simpa only [gt_other, pt_length, Nat.reduceEqDiff, not_false_eq_true] using h
  ·exact ⟨hl, g0, rfl⟩
  ·intro k9 x8 y10 s H hk hI hl g17 g16 hy11 hx12;change P_semigroupref14_Associative_l7 t k9 = some y10 at hy11;unfold P_semigroupref14_Associative_l7 at hy11;obtain ⟨hl, g0, rfl⟩ := hI;refine AM.wp_seq hp0 (AM.wp_reg hp0 ?_);refine wpo_seg hp0 2 (fun s H' => s.length = 63 ∧ gt s 0 = v_0 ∧ gt s 7 = .int .i64 (k9 : Int) ∧ gt s 16 = .int .i64 (t.length : Int) ∧ gt s 17 = .int .i64 (k9 : Int) ∧ H = H') (by simp only [↓runs, isCall, ↓reduceIte, ↓gd_true, ↓gd_false, evs, AV.cells, Nat.reduceEqDiff, Nat.reduceLT, reduceCtorEq, Nat.reduceAdd, sy, g0, g16, g17, hl]) ?_;rintro s _ ⟨hl, g0, g7, g16, g17, rfl⟩;refine wpo_nil (then_n ?_);refine AM.wp_seq hp0 (AM.wp_reg hp0 ?_);have f16 := fz_ln h_0;refine wpo_seg hp0 3 (fun s H' => s.length = 63 ∧ gt s 0 = v_0 ∧ gt s 7 = .int .i64 (k9 : Int) ∧ gt s 16 = .int .i64 (t.length : Int) ∧ gt s 17 = .int .i64 (k9 : Int) ∧ gt s 21 = .int .i64 (t.length : Int) ∧ gt s 22 = .int .i64 0 ∧ H = H') (by simp only [↓runs, isCall, ↓reduceIte, ↓gd_true, ↓gd_false, evs, AV.cells, Nat.reduceEqDiff, Nat.reduceLT, reduceCtorEq, Nat.reduceAdd, sy, f16, g0, g7, g16, g17, hl]) ?_;rintro s _ ⟨hl, g0, g7, g16, g17, g21, g22, rfl⟩;refine wpo_nil (then_n ?_);obtain ⟨z23, e24, hy11⟩ := bn hy11;refine range_ref hp0 63 t.length (fun k x => P_semigroupref14_Associative_l17 k9 t k) (fun _ x s H' => s.length = 63 ∧ gt s 0 = v_0 ∧ gt s 7 = .int .i64 (k9 : Int) ∧ gt s 16 = .int .i64 (t.length : Int) ∧ gt s 17 = .int .i64 (k9 : Int) ∧ H = H') (fun _ x s H' => s.length = 63 ∧ gt s 0 = v_0 ∧ gt s 16 = .int .i64 (t.length : Int) ∧ gt s 17 = .int .i64 (k9 : Int) ∧ H = H') e24 (fz_big h_0) rfl ?_ ?_ hl g22 g21 ?_ ?_
   ·intro k x s H d v hd h; rcases hd with rfl | rfl | rfl <;> simpa only [gt_other, pt_length, Nat.reduceEqDiff, not_false_eq_true] using h
   ·exact ⟨hl, g0, g7, g16, g17, rfl⟩
   ·intro k19 x18 y20 s H hk hI hl g22 g21 hy21 hx22;change P_semigroupref14_Associative_l17 k9 t k19 = some y20 at hy21;unfold P_semigroupref14_Associative_l17 at hy21;obtain ⟨hl, g0, g7, g16, g17, rfl⟩ := hI;refine AM.wp_seq hp0 (AM.wp_reg hp0 ?_);refine wpo_seg hp0 2 (fun s H' => s.length = 63 ∧ gt s 0 = v_0 ∧ gt s 7 = .int .i64 (k9 : Int) ∧ gt s 8 = .int .i64 (k19 : Int) ∧ gt s 16 = .int .i64 (t.length : Int) ∧ gt s 17 = .int .i64 (k9 : Int) ∧ gt s 21 = .int .i64 (t.length : Int) ∧ gt s 22 = .int .i64 (k19 : Int) ∧ H = H') (by simp only [↓runs, isCall, ↓reduceIte, ↓gd_true, ↓gd_false, evs, AV.cells, Nat.reduceEqDiff, Nat.reduceLT, reduceCtorEq, Nat.reduceAdd, sy, g0, g7, g16, g17, g21, g22, hl]) ?_;rintro s _ ⟨hl, g0, g7, g8, g16, g17, g21, g22, rfl⟩;refine wpo_nil (then_n ?_);refine AM.wp_seq hp0 (AM.wp_reg hp0 ?_);have f26 := fz_ln h_0;refine wpo_seg hp0 3 (fun s H' => s.length = 63 ∧ gt s 0 = v_0 ∧ gt s 7 = .int .i64 (k9 : Int) ∧ gt s 8 = .int .i64 (k19 : Int) ∧ gt s 16 = .int .i64 (t.length : Int) ∧ gt s 17 = .int .i64 (k9 : Int) ∧ gt s 21 = .int .i64 (t.length : Int) ∧ gt s 22 = .int .i64 (k19 : Int) ∧ gt s 26 = .int .i64 (t.length : Int) ∧ gt s 27 = .int .i64 0 ∧ H = H') (by simp only [↓runs, isCall, ↓reduceIte, ↓gd_true, ↓gd_false, evs, AV.cells, Nat.reduceEqDiff, Nat.reduceLT, reduceCtorEq, Nat.reduceAdd, sy, f26, g0, g7, g8, g16, g17, g21, g22, hl]) ?_;rintro s _ ⟨hl, g0, g7, g8, g16, g17, g21, g22, g26, g27, rfl⟩;refine wpo_nil (then_n ?_);obtain ⟨z33, e34, hy21⟩ := bn hy21;refine range_ref hp0 63 t.length (fun k x => P_semigroupref14_Associative_l27 k9 k19 t k) (fun _ x s H' => s.length = 63 ∧ gt s 0 = v_0 ∧ gt s 7 = .int .i64 (k9 : Int) ∧ gt s 8 = .int .i64 (k19 : Int) ∧ gt s 16 = .int .i64 (t.length : Int) ∧ gt s 17 = .int .i64 (k9 : Int) ∧ gt s 21 = .int .i64 (t.length : Int) ∧ gt s 22 = .int .i64 (k19 : Int) ∧ H = H') (fun _ x s H' => s.length = 63 ∧ gt s 0 = v_0 ∧ gt s 7 = .int .i64 (k9 : Int) ∧ gt s 16 = .int .i64 (t.length : Int) ∧ gt s 17 = .int .i64 (k9 : Int) ∧ gt s 21 = .int .i64 (t.length : Int) ∧ gt s 22 = .int .i64 (k19 : Int) ∧ H = H') e34 (fz_big h_0) rfl ?_ ?_ hl g27 g26 ?_ ?_
    ·intro k x s H d v hd h; rcases hd with rfl | rfl | rfl <;> simpa only [gt_other, pt_length, Nat.reduceEqDiff, not_false_eq_true] using h
    ·exact ⟨hl, g0, g7, g8, g16, g17, g21, g22, rfl⟩
    ·intro k29 x28 y30 s H hk hI hl g27 g26 hy31 hx32;change P_semigroupref14_Associative_l27 k9 k19 t k29 = some y30 at hy31;unfold P_semigroupref14_Associative_l27 at hy31;obtain ⟨hl, g0, g7, g8, g16, g17, g21, g22, rfl⟩ := hI;refine AM.wp_seq hp0 (AM.wp_reg hp0 ?_);refine wpo_seg hp0 2 (fun s H' => s.length = 63 ∧ gt s 0 = v_0 ∧ gt s 7 = .int .i64 (k9 : Int) ∧ gt s 8 = .int .i64 (k19 : Int) ∧ gt s 9 = .int .i64 (k29 : Int) ∧ gt s 16 = .int .i64 (t.length : Int) ∧ gt s 17 = .int .i64 (k9 : Int) ∧ gt s 21 = .int .i64 (t.length : Int) ∧ gt s 22 = .int .i64 (k19 : Int) ∧ gt s 26 = .int .i64 (t.length : Int) ∧ gt s 27 = .int .i64 (k29 : Int) ∧ H = H') (by simp only [↓runs, isCall, ↓reduceIte, ↓gd_true, ↓gd_false, evs, AV.cells, Nat.reduceEqDiff, Nat.reduceLT, reduceCtorEq, Nat.reduceAdd, sy, g0, g7, g8, g16, g17, g21, g22, g26, g27, hl]) ?_;rintro s _ ⟨hl, g0, g7, g8, g9, g16, g17, g21, g22, g26, g27, rfl⟩;refine wpo_nil (then_n ?_);refine AM.wp_seq hp0 (AM.wp_reg hp0 ?_);obtain ⟨x36, e37, hy31⟩ := bn hy31;obtain ⟨p38, y39, f40, f41, h42⟩ := fz_at (k := .i64) hst h_0 e37 rfl;obtain ⟨x43, e44, hy31⟩ := bn hy31;obtain ⟨p45, _, f47, f48, rfl⟩ := fz_at (k := .i64) hst h42 e44 rfl;obtain ⟨x50, e51, hy31⟩ := bn hy31;obtain ⟨p52, y53, f54, f55, h56⟩ := fz_at (k := .i64) hst h_0 e51 rfl;obtain ⟨x57, e58, hy31⟩ := bn hy31;obtain ⟨p59, _, f61, f62, rfl⟩ := fz_at (k := .i64) hst h56 e58 rfl;obtain ⟨x64, e65, hy31⟩ := bn hy31;obtain ⟨p66, y67, f68, f69, h70⟩ := fz_at (k := .i64) hst h_0 e65 rfl;obtain ⟨x71, e72, hy31⟩ := bn hy31;obtain ⟨p73, _, f75, f76, rfl⟩ := fz_at (k := .i64) hst h70 e72 rfl;obtain ⟨x78, e79, hy31⟩ := bn hy31;obtain ⟨p80, _, f82, f83, rfl⟩ := fz_at (k := .i64) hst h42 e79 rfl;refine wpo_seg hp0 27 (fun s H' => s.length = 63 ∧ gt s 0 = v_0 ∧ gt s 7 = .int .i64 (k9 : Int) ∧ gt s 8 = .int .i64 (k19 : Int) ∧ gt s 9 = .int .i64 (k29 : Int) ∧ gt s 16 = .int .i64 (t.length : Int) ∧ gt s 17 = .int .i64 (k9 : Int) ∧ gt s 21 = .int .i64 (t.length : Int) ∧ gt s 22 = .int .i64 (k19 : Int) ∧ gt s 26 = .int .i64 (t.length : Int) ∧ gt s 27 = .int .i64 (k29 : Int) ∧ gt s 56 = .bool (!decide (x57 = x78)) ∧ H = H') (by simp (maxSteps := 1000000) only [↓runs, isCall, ↓reduceIte, ↓gd_true, ↓gd_false, evs, AV.cells, Nat.reduceEqDiff, Nat.reduceLT, reduceCtorEq, Nat.reduceAdd, sy, f40, f41, f47, f48, f54, f55, f61, f62, f68, f69, f75, f76, f82, f83, g0, g7, g8, g9, g16, g17, g21, g22, g26, g27, hl]) ?_;rintro s _ ⟨hl, g0, g7, g8, g9, g16, g17, g21, g22, g26, g27, g56, rfl⟩;refine wpo_nil (then_n ?_);rcases Bool.eq_false_or_eq_true (!decide (x57 = x78)) with c85 | c85
     ·replace hy31 := ifT c85 hy31;refine AM.wp_condT (by simp only [ev_t, ev_c, g56, c85]) ?_;refine AM.wp_seq hp0 (AM.wp_reg hp0 ?_);refine wpo_seg hp0 7 (fun s H' => s.length = 63 ∧ gt s 2 = .int .i64 (k9 : Int) ∧ gt s 3 = .int .i64 (k19 : Int) ∧ gt s 4 = .int .i64 (k29 : Int) ∧ gt s 5 = .int .i64 5 ∧ H = H') (by simp only [↓runs, isCall, ↓reduceIte, ↓gd_true, ↓gd_false, evs, AV.cells, Nat.reduceEqDiff, Nat.reduceLT, reduceCtorEq, Nat.reduceAdd, sy, g0, g7, g8, g9, g16, g17, g21, g22, g26, g27, g56, hl]) ?_;rintro s _ ⟨hl, g2, g3, g4, g5, rfl⟩;refine wpo_nil (then_n ?_);refine AM.wp_ret ?_;refine rnd_r ?_;refine rnd_r ?_;refine rnd_r ?_;refine then_r ?_;obtain rfl := Option.some.inj hy31;have hx := hx32 _ rfl;subst hx;dsimp only at hy21;obtain rfl := Option.some.inj hy21;have hx := hx22 _ rfl;subst hx;dsimp only at hy11;obtain rfl := Option.some.inj hy11;have hx := hx12 _ rfl;subst hx;dsimp only at hp;obtain rfl := Option.some.inj hp;refine body_ret (vs := [.int .i64 (k9 : Int), .int .i64 (k19 : Int), .int .i64 (k29 : Int), .int .i64 5]) (by simp only [rvs, f_semigroupref14_Associative, Option.map_some, g2, g3, g4, g5]) ?_;exact ⟨W, w4, hst, rfl⟩
     ·replace hy31 := ifF c85 hy31;refine AM.wp_condF (by simp only [ev_t, ev_c, g56, c85]) ?_;refine AM.wp_skip ?_;refine rnd_n ?_;obtain rfl := Option.some.inj hy31;exact ⟨_, rfl, hl, g27, g26, ⟨hl, g0, g7, g8, g16, g17, g21, g22, rfl⟩⟩
    ·rintro x86 s Hn hz hI;replace hI : (fun s H' => s.length = 63 ∧ gt s 0 = v_0 ∧ gt s 7 = .int .i64 (k9 : Int) ∧ gt s 16 = .int .i64 (t.length : Int) ∧ gt s 17 = .int .i64 (k9 : Int) ∧ gt s 21 = .int .i64 (t.length : Int) ∧ gt s 22 = .int .i64 (k19 : Int) ∧ H = H') s Hn := by
      rcases hI with ⟨hI, -⟩ | ⟨_, hI⟩
      ·obtain ⟨hl, g0, g7, g8, g16, g17, g21, g22, e2⟩ := hI;exact ⟨hl, g0, g7, g16, g17, g21, g22, e2⟩
      ·exact hI
     subst hz;dsimp only at hy21 hI;obtain ⟨hl, g0, g7, g16, g17, g21, g22, rfl⟩ := hI;refine rnd_n ?_;obtain rfl := Option.some.inj hy21;exact ⟨_, rfl, hl, g22, g21, ⟨hl, g0, g7, g16, g17, rfl⟩⟩
   ·rintro x88 s Hn hz hI;replace hI : (fun s H' => s.length = 63 ∧ gt s 0 = v_0 ∧ gt s 16 = .int .i64 (t.length : Int) ∧ gt s 17 = .int .i64 (k9 : Int) ∧ H = H') s Hn := by
     rcases hI with ⟨hI, -⟩ | ⟨_, hI⟩
     ·obtain ⟨hl, g0, g7, g16, g17, e2⟩ := hI;exact ⟨hl, g0, g16, g17, e2⟩
     ·exact hI
    subst hz;dsimp only at hy11 hI;obtain ⟨hl, g0, g16, g17, rfl⟩ := hI;refine rnd_n ?_;obtain rfl := Option.some.inj hy11;exact ⟨_, rfl, hl, g17, g16, ⟨hl, g0, rfl⟩⟩
  ·rintro x90 s Hn hz hI;replace hI : (fun s H' => s.length = 63 ∧ H = H') s Hn := by
    rcases hI with ⟨hI, -⟩ | ⟨_, hI⟩
    ·obtain ⟨hl, g0, e2⟩ := hI;exact ⟨hl, e2⟩
    ·exact hI
   subst hz;dsimp only at hp hI;obtain ⟨hl, rfl⟩ := hI;refine then_n ?_;refine AM.wp_seq hp0 (AM.wp_reg hp0 ?_);refine wpo_seg hp0 4 (fun s H' => s.length = 63 ∧ gt s 2 = .int .i64 0 ∧ gt s 3 = .int .i64 0 ∧ gt s 4 = .int .i64 0 ∧ gt s 5 = .int .i64 0 ∧ H = H') (by simp only [↓runs, isCall, ↓reduceIte, ↓gd_true, ↓gd_false, evs, AV.cells, Nat.reduceEqDiff, Nat.reduceLT, reduceCtorEq, Nat.reduceAdd, sy, hl]) ?_;rintro s _ ⟨hl, g2, g3, g4, g5, rfl⟩;refine wpo_nil (then_n ?_);refine AM.wp_ret ?_;obtain rfl := Option.some.inj hp;refine body_ret (vs := [.int .i64 0, .int .i64 0, .int .i64 0, .int .i64 0]) (by simp only [rvs, f_semigroupref14_Associative, Option.map_some, g2, g3, g4, g5]) ?_;exact ⟨W, w4, hst, rfl⟩

end Go.Proofs.Ytmdpejgnkoneoaa.Pu
set_option maxRecDepth 100000
set_option maxHeartbeats 4000000
namespace Go.Proofs.Ytmdpejgnkoneoaa.Pu
open Go Go.AM Go.Proofs.Ytmdpejgnkoneoaa.Code

noncomputable def P_semigroupref14_Validate (t : List (List Int)) : Option (Int) :=
 Option.bind (P_semigroupref14_Associative t) fun r1 =>
 some r1.2.2.2
theorem R_semigroupref14_Validate {G : List Frag} {W H : AH} {v_0 : AV} {t : List (List Int)} (hst : St G W H) (h_0 : Rp.rv W v_0 t) {r : Int} (hp : P_semigroupref14_Validate t = some r) :
  wpc E0 N_semigroupref14_Validate [v_0] H fun rv H' => ∃ W', Wle W W' ∧ St G W' H' ∧ rv = .int .i64 r := by
 refine enterN (F := f_semigroupref14_Validate) rfl (Nat.le_of_ble_eq_true rfl) fun s hl hg => ?_;replace hl : s.length = 15 := hl;have g0 : gt s 0 = v_0 := hg 0 (Nat.le_of_ble_eq_true rfl);clear hg;unfold P_semigroupref14_Validate at hp;show wp E0 c_semigroupref14_Validate s H _;unfold c_semigroupref14_Validate;refine AM.wp_seq hp0 (AM.wp_reg hp0 ?_);refine wpo_seg hp0 1 (fun s H' => s.length = 15 ∧ gt s 0 = v_0 ∧ H = H') (by simp only [↓runs, isCall, ↓reduceIte, ↓gd_true, ↓gd_false, evs, AV.cells, Nat.reduceEqDiff, Nat.reduceLT, reduceCtorEq, Nat.reduceAdd, sy, g0, hl]) ?_;rintro s _ ⟨hl, g0, rfl⟩;refine wpo_nil (then_n ?_);refine AM.wp_seq hp0 (AM.wp_reg hp0 ?_);refine wpo_seg hp0 1 (fun s H' => s.length = 15 ∧ gt s 8 = v_0 ∧ H = H') (by simp only [↓runs, isCall, ↓reduceIte, ↓gd_true, ↓gd_false, evs, AV.cells, Nat.reduceEqDiff, Nat.reduceLT, reduceCtorEq, Nat.reduceAdd, sy, g0, hl]) ?_;rintro s _ ⟨hl, g8, rfl⟩;obtain ⟨r1, e2, hp⟩ := bn hp;refine wpo_callK hp0 rfl (ys := [v_0]) (by simp only [evs, List.map_cons, List.map_nil, ev_t, ev_c, g8]) (R_semigroupref14_Associative hst h_0 e2) ?_;rintro rv3 H ⟨W, w4, hst, rfl⟩;replace h_0 := Rp.mono w4 h_0;refine wpo_seg hp0 9 (fun s H' => s.length = 15 ∧ gt s 6 = .int .i64 r1.2.2.2 ∧ H = H') (by simp only [↓runs, isCall, ↓reduceIte, ↓gd_true, ↓gd_false, evs, AV.cells, Nat.reduceEqDiff, Nat.reduceLT, reduceCtorEq, Nat.reduceAdd, sy, gt_other, g8, hl]) ?_;rintro s _ ⟨hl, g6, rfl⟩;refine wpo_nil (then_n ?_);refine AM.wp_seq hp0 (AM.wp_reg hp0 ?_);refine wpo_seg hp0 2 (fun s H' => s.length = 15 ∧ gt s 2 = .int .i64 r1.2.2.2 ∧ H = H') (by simp only [↓runs, isCall, ↓reduceIte, ↓gd_true, ↓gd_false, evs, AV.cells, Nat.reduceEqDiff, Nat.reduceLT, reduceCtorEq, Nat.reduceAdd, sy, g6, hl]) ?_;rintro s _ ⟨hl, g2, rfl⟩;refine wpo_nil (then_n ?_);refine AM.wp_ret ?_;obtain rfl := Option.some.inj hp;refine body_ret (vs := [.int .i64 r1.2.2.2]) (by simp only [rvs, f_semigroupref14_Validate, Option.map_some, g2]) ?_;exact ⟨W, w4, hst, rfl⟩

end Go.Proofs.Ytmdpejgnkoneoaa.Pu
set_option maxRecDepth 100000
set_option maxHeartbeats 4000000
namespace Go.Proofs.Ytmdpejgnkoneoaa.Pu
open Go Go.AM Go.Proofs.Ytmdpejgnkoneoaa.Code

noncomputable def P_semigroupref14_Valid (t : List (List Int)) : Option (Bool) :=
 Option.bind (P_semigroupref14_Validate t) fun r1 =>
 some (decide (r1 = 0))
theorem R_semigroupref14_Valid {G : List Frag} {W H : AH} {v_0 : AV} {t : List (List Int)} (hst : St G W H) (h_0 : Rp.rv W v_0 t) {r : Bool} (hp : P_semigroupref14_Valid t = some r) :
  wpc E0 N_semigroupref14_Valid [v_0] H fun rv H' => ∃ W', Wle W W' ∧ St G W' H' ∧ rv = .bool r := by
 refine enterN (F := f_semigroupref14_Valid) rfl (Nat.le_of_ble_eq_true rfl) fun s hl hg => ?_;replace hl : s.length = 6 := hl;have g0 : gt s 0 = v_0 := hg 0 (Nat.le_of_ble_eq_true rfl);clear hg;unfold P_semigroupref14_Valid at hp;show wp E0 c_semigroupref14_Valid s H _;unfold c_semigroupref14_Valid;refine AM.wp_seq hp0 (AM.wp_reg hp0 ?_);refine wpo_seg hp0 1 (fun s H' => s.length = 6 ∧ gt s 0 = v_0 ∧ H = H') (by simp only [↓runs, isCall, ↓reduceIte, ↓gd_true, ↓gd_false, evs, AV.cells, Nat.reduceEqDiff, Nat.reduceLT, reduceCtorEq, Nat.reduceAdd, sy, g0, hl]) ?_;rintro s _ ⟨hl, g0, rfl⟩;refine wpo_nil (then_n ?_);refine AM.wp_seq hp0 (AM.wp_reg hp0 ?_);refine wpo_seg hp0 1 (fun s H' => s.length = 6 ∧ gt s 3 = v_0 ∧ H = H') (by simp only [↓runs, isCall, ↓reduceIte, ↓gd_true, ↓gd_false, evs, AV.cells, Nat.reduceEqDiff, Nat.reduceLT, reduceCtorEq, Nat.reduceAdd, sy, g0, hl]) ?_;rintro s _ ⟨hl, g3, rfl⟩;obtain ⟨r1, e2, hp⟩ := bn hp;refine wpo_callK hp0 rfl (ys := [v_0]) (by simp only [evs, List.map_cons, List.map_nil, ev_t, ev_c, g3]) (R_semigroupref14_Validate hst h_0 e2) ?_;rintro rv3 H ⟨W, w4, hst, rfl⟩;replace h_0 := Rp.mono w4 h_0;refine wpo_seg hp0 2 (fun s H' => s.length = 6 ∧ gt s 2 = .bool (decide (r1 = 0)) ∧ H = H') (by simp only [↓runs, isCall, ↓reduceIte, ↓gd_true, ↓gd_false, evs, AV.cells, Nat.reduceEqDiff, Nat.reduceLT, reduceCtorEq, Nat.reduceAdd, sy, gt_other, g3, hl]) ?_;rintro s _ ⟨hl, g2, rfl⟩;refine wpo_nil (then_n ?_);refine AM.wp_ret ?_;obtain rfl := Option.some.inj hp;refine body_ret (vs := [.bool (decide (r1 = 0))]) (by simp only [rvs, f_semigroupref14_Valid, Option.map_some, g2]) ?_;exact ⟨W, w4, hst, rfl⟩

end Go.Proofs.Ytmdpejgnkoneoaa.Pu
