/- Part 11 of the proof that the law SubdirectEmbeds holds: words and lemmas it rests on. No condition. -/
import Derived.Test.YtmdpejgnkoneoaaE5
import Derived.Test.YtmdpejgnkoneoaaE8
import Derived.Test.YtmdpejgnkoneoaaE9
import Derived.Test.YtmdpejgnkoneoaaE10
import Derived.Test.YtmdpejgnkoneoaaE6
set_option linter.unusedSimpArgs false
set_option linter.unusedVariables false
set_option linter.unnecessarySimpa false
set_option linter.unusedSectionVars false
set_option maxRecDepth 100000
set_option maxHeartbeats 4000000
namespace Go.Proofs.Ytmdpejgnkoneoaa.Pu
open Go Go.AM Go.Proofs.Ytmdpejgnkoneoaa.Code

noncomputable def P_semigrouplaw22_SubdirectEmbeds_l25 (list : List (List Int)) (t : List (List Int)) (k27 : Nat) (x26 : Bool) : Option (Bool) :=
 Option.bind (gi list (k27 : Int)) fun x35 =>
 Option.bind (
  if x26 then
   Option.bind (P_semigroupref19_IsCongruence t x35 0) fun r45 =>
   some r45
  else
   some false) fun z42 =>
 some z42
noncomputable def P_semigrouplaw22_SubdirectEmbeds_l94 (r72 : (List (List Int)) × Int) (t : List (List Int)) (k97 : Nat) (x96 : List (List (List Int))) : Option (Lp ((List (List (List Int)))) (Bool)) :=
 Option.bind (gi r72.1 (k97 : Int)) fun x108 =>
 Option.bind (P_congr_Quotient t x108) fun r115 =>
 if !decide (r115.2 = 0) then
  some (.ex false)
 else
  Option.bind (pus 24 x96 [r115.1]) fun x133 =>
  some (.go x133)
noncomputable def P_semigrouplaw22_SubdirectEmbeds_l208 (k149 : Nat) (k159 : Nat) (r81 : (List (List Int))) (t : List (List Int)) (x141 : (List (List (List Int)))) (k210 : Nat) : Option (Lp (Unit) (Bool)) :=
 Option.bind (gi x141 (k210 : Int)) fun x217 =>
 Option.bind (gi t (k149 : Int)) fun x224 =>
 Option.bind (gi x224 (k159 : Int)) fun x231 =>
 Option.bind (gi r81 x231) fun x238 =>
 Option.bind (gi x238 (k210 : Int)) fun x245 =>
 Option.bind (gi r81 (k149 : Int)) fun x252 =>
 Option.bind (gi x252 (k210 : Int)) fun x259 =>
 Option.bind (gi x217 x259) fun x266 =>
 Option.bind (gi r81 (k159 : Int)) fun x273 =>
 Option.bind (gi x273 (k210 : Int)) fun x280 =>
 Option.bind (gi x266 x280) fun x287 =>
 if !decide (x245 = x287) then
  some (.ex false)
 else
  some (.go ())
noncomputable def P_semigrouplaw22_SubdirectEmbeds_l157 (k149 : Nat) (r72 : (List (List Int)) × Int) (r81 : (List (List Int))) (t : List (List Int)) (x141 : (List (List (List Int)))) (k159 : Nat) : Option (Lp (Unit) (Bool)) :=
 Option.bind (
  if !decide ((k149 : Int) = (k159 : Int)) then
   Option.bind (gi r81 (k149 : Int)) fun x169 =>
   Option.bind (gi r81 (k159 : Int)) fun x176 =>
   Option.bind (P_semigroupref03_Same x169 x176) fun r183 =>
   if r183 then
    some true
   else
    some (!decide ((x169.length : Int) = (r72.1.length : Int)))
  else
   Option.bind (gi r81 (k149 : Int)) fun x195 =>
   some (!decide ((x195.length : Int) = (r72.1.length : Int)))) fun z166 =>
 if z166 then
  some (.ex false)
 else
  Option.bind (forR x141.length (fun k x => P_semigrouplaw22_SubdirectEmbeds_l208 k149 k159 r81 t x141 k) ()) fun z214 =>
  match z214 with
  | .inl x295 =>
   some (.go ())
  | .inr b => some (.ex b)
noncomputable def P_semigrouplaw22_SubdirectEmbeds_l147 (r72 : (List (List Int)) × Int) (r81 : (List (List Int))) (t : List (List Int)) (x141 : (List (List (List Int)))) (k149 : Nat) : Option (Lp (Unit) (Bool)) :=
 Option.bind (forR t.length (fun k x => P_semigrouplaw22_SubdirectEmbeds_l157 k149 r72 r81 t x141 k) ()) fun z163 =>
 match z163 with
 | .inl x297 =>
  some (.go ())
 | .inr b => some (.ex b)
noncomputable def P_semigrouplaw22_SubdirectEmbeds (t : List (List Int)) (list : List (List Int)) : Option (Bool) :=
 Option.bind (
  Option.bind (P_semigrouplaw22_large t 7) fun r3 =>
  if r3 then
   some true
  else
   some (decide (8 < (list.length : Int)))) fun z1 =>
 if z1 then
  Option.bind (P_semigrouplaw22_awake) fun r11 =>
  some r11
 else
  Option.bind (P_subdirect_Embed t list) fun r15 =>
  Option.bind (P_semigroupref14_Valid t) fun r20 =>
  Option.bind (forS list.length (fun k x => P_semigrouplaw22_SubdirectEmbeds_l25 list t k x) r20) fun z31 =>
  if !z31 then
   Option.bind (
    if decide ((r15.length : Int) = 0) then
     Option.bind (P_semigrouplaw22_awake) fun r56 =>
     some r56
    else
     some false) fun z52 =>
   some z52
  else
   Option.bind (P_semigroupref22_Embed t list) fun r61 =>
   Option.bind (P_semigroupref03_SameRows r15 r61) fun r67 =>
   if !r67 then
    some false
   else
    Option.bind (P_subdirect_Decompose t) fun r72 =>
    Option.bind (P_subdirect_Embed t r72.1) fun r81 =>
    Option.bind (
     if !decide (r72.2 = 0) then
      some true
     else
      some (!decide ((r81.length : Int) = (t.length : Int)))) fun z86 =>
    if z86 then
     some false
    else
     Option.bind (forR r72.1.length (fun k x => P_semigrouplaw22_SubdirectEmbeds_l94 r72 t k x) []) fun z101 =>
     match z101 with
     | .inl x141 =>
      Option.bind (forR t.length (fun k x => P_semigrouplaw22_SubdirectEmbeds_l147 r72 r81 t x141 k) ()) fun z153 =>
      match z153 with
      | .inl x299 =>
       Option.bind (P_semigrouplaw22_awake) fun r301 =>
       some r301
      | .inr b => some b
     | .inr b => some b
theorem R_semigrouplaw22_SubdirectEmbeds {G : List Frag} {W H : AH} {v_0 v_1 : AV} {t : List (List Int)} {list : List (List Int)} (hst : St G W H) (h_0 : Rp.rv W v_0 t) (h_1 : Rp.rv W v_1 list) {r : Bool} (hp : P_semigrouplaw22_SubdirectEmbeds t list = some r) :
  wpc E0 N_semigrouplaw22_SubdirectEmbeds [v_0, v_1] H fun rv H' => ∃ W', Wle W W' ∧ St G W' H' ∧ rv = .bool r := by
 refine enterN (F := f_semigrouplaw22_SubdirectEmbeds) rfl (Nat.le_of_ble_eq_true rfl) fun s hl hg => ?_;replace hl : s.length = 174 := hl;have g0 : gt s 0 = v_0 := hg 0 (Nat.le_of_ble_eq_true rfl);have g1 : gt s 1 = v_1 := hg 1 (Nat.le_of_ble_eq_true rfl);clear hg;unfold P_semigrouplaw22_SubdirectEmbeds at hp;show wp E0 c_semigrouplaw22_SubdirectEmbeds s H _;unfold c_semigrouplaw22_SubdirectEmbeds;refine AM.wp_seq hp0 (AM.wp_reg hp0 ?_);refine wpo_seg hp0 1 (fun s H' => s.length = 174 ∧ gt s 0 = v_0 ∧ gt s 1 = v_1 ∧ H = H') (by simp only [↓runs, isCall, ↓reduceIte, ↓gd_true, ↓gd_false, evs, AV.cells, Nat.reduceEqDiff, Nat.reduceLT, reduceCtorEq, Nat.reduceAdd, sy, g0, g1, hl]) ?_;rintro s _ ⟨hl, g0, g1, rfl⟩;refine wpo_nil (then_n ?_);refine AM.wp_seq hp0 (AM.wp_seq hp0 ?_);obtain ⟨z1, hj2, hp⟩ := bn hp;refine AM.wp_regK hp0 (fun s H' => ∃ (W' : AH), s.length = 174 ∧ gt s 26 = .bool z1 ∧ gt s 0 = v_0 ∧ gt s 1 = v_1 ∧  Wle W W' ∧ St G W' H') ?_ ?_
 ·refine wpo_seg hp0 1 (fun s H' => s.length = 174 ∧ gt s 0 = v_0 ∧ gt s 1 = v_1 ∧ gt s 20 = v_0 ∧ H = H') (by simp only [↓runs, isCall, ↓reduceIte, ↓gd_true, ↓gd_false, evs, AV.cells, Nat.reduceEqDiff, Nat.reduceLT, reduceCtorEq, Nat.reduceAdd, sy, g0, g1, hl]) ?_;rintro s _ ⟨hl, g0, g1, g20, rfl⟩;obtain ⟨r3, e4, hj2⟩ := bn hj2;refine wpo_callK hp0 rfl (ys := [v_0, .int .i64 7]) (by simp only [evs, List.map_cons, List.map_nil, ev_t, ev_c, g20]) (R_semigrouplaw22_large hst h_0 e4) ?_;rintro rv5 H ⟨W, w6, hst, rfl⟩;replace h_0 := Rp.mono w6 h_0;replace h_1 := Rp.mono w6 h_1;rcases Bool.eq_false_or_eq_true (r3) with c7 | c7
  ·replace hj2 := ifT c7 hj2;refine wpo_seg hp0 5 (fun s H' => s.length = 174 ∧ gt s 0 = v_0 ∧ gt s 1 = v_1 ∧ gt s 26 = .bool true ∧ H = H') (by simp only [↓runs, isCall, ↓reduceIte, ↓gd_true, ↓gd_false, evs, AV.cells, Nat.reduceEqDiff, Nat.reduceLT, reduceCtorEq, Nat.reduceAdd, sy, gt_other, c7, g0, g1, g20, hl]) ?_;rintro s _ ⟨hl, g0, g1, g26, rfl⟩;refine wpo_nil ?_;obtain rfl := Option.some.inj hj2;exact ⟨W, hl, g26, g0, g1, w6, hst⟩
  ·replace hj2 := ifF c7 hj2;have f8 := fz_ln h_1;refine wpo_seg hp0 5 (fun s H' => s.length = 174 ∧ gt s 0 = v_0 ∧ gt s 1 = v_1 ∧ gt s 26 = .bool (decide (8 < (list.length : Int))) ∧ H = H') (by simp only [↓runs, isCall, ↓reduceIte, ↓gd_true, ↓gd_false, evs, AV.cells, Nat.reduceEqDiff, Nat.reduceLT, reduceCtorEq, Nat.reduceAdd, sy, gt_other, c7, f8, g0, g1, g20, hl]) ?_;rintro s _ ⟨hl, g0, g1, g26, rfl⟩;refine wpo_nil ?_;obtain rfl := Option.some.inj hj2;exact ⟨W, hl, g26, g0, g1, w6, hst⟩
 ·rintro s H ⟨W, hl, g26, g0, g1, w9, hst⟩;replace h_0 := Rp.mono w9 h_0;replace h_1 := Rp.mono w9 h_1;refine then_n ?_;rcases Bool.eq_false_or_eq_true (z1) with c10 | c10
  ·replace hp := ifT c10 hp;refine AM.wp_condT (by simp only [ev_t, ev_c, g26, c10]) ?_;refine AM.wp_seq hp0 (AM.wp_reg hp0 ?_);obtain ⟨r11, e12, hp⟩ := bn hp;refine wpo_callK hp0 rfl (ys := []) (by simp only [evs, List.map_cons, List.map_nil, ev_t, ev_c]) (R_semigrouplaw22_awake hst e12) ?_;rintro rv13 H ⟨W, w14, hst, rfl⟩;replace h_0 := Rp.mono w14 h_0;replace h_1 := Rp.mono w14 h_1;refine wpo_seg hp0 1 (fun s H' => s.length = 174 ∧ gt s 4 = .bool r11 ∧ H = H') (by simp only [↓runs, isCall, ↓reduceIte, ↓gd_true, ↓gd_false, evs, AV.cells, Nat.reduceEqDiff, Nat.reduceLT, reduceCtorEq, Nat.reduceAdd, sy, gt_other, g0, g1, g26, hl]) ?_;rintro s _ ⟨hl, g4, rfl⟩;refine wpo_nil (then_n ?_);refine AM.wp_ret ?_;refine then_r ?_;obtain rfl := Option.some.inj hp;refine body_ret (vs := [.bool r11]) (by simp only [rvs, f_semigrouplaw22_SubdirectEmbeds, Option.map_some, g4]) ?_;exact ⟨W, (w9.trans w14), hst, rfl⟩
  ·replace hp := ifF c10 hp;refine AM.wp_condF (by simp only [ev_t, ev_c, g26, c10]) ?_;refine AM.wp_skip ?_;refine then_n ?_;refine AM.wp_seq hp0 (AM.wp_reg hp0 ?_);refine wpo_seg hp0 2 (fun s H' => s.length = 174 ∧ gt s 0 = v_0 ∧ gt s 1 = v_1 ∧ gt s 28 = v_0 ∧ gt s 29 = v_1 ∧ H = H') (by simp only [↓runs, isCall, ↓reduceIte, ↓gd_true, ↓gd_false, evs, AV.cells, Nat.reduceEqDiff, Nat.reduceLT, reduceCtorEq, Nat.reduceAdd, sy, g0, g1, g26, hl]) ?_;rintro s _ ⟨hl, g0, g1, g28, g29, rfl⟩;obtain ⟨r15, e16, hp⟩ := bn hp;refine wpo_callK hp0 rfl (ys := [v_0, v_1]) (by simp only [evs, List.map_cons, List.map_nil, ev_t, ev_c, g28, g29]) (R_subdirect_Embed hst h_0 h_1 e16) ?_;rintro rv17 H ⟨W, w18, hst, h19⟩;replace h_0 := Rp.mono w18 h_0;replace h_1 := Rp.mono w18 h_1;refine wpo_seg hp0 1 (fun s H' => s.length = 174 ∧ gt s 0 = v_0 ∧ gt s 1 = v_1 ∧ gt s 5 = rv17 ∧ H = H') (by simp only [↓runs, isCall, ↓reduceIte, ↓gd_true, ↓gd_false, evs, AV.cells, Nat.reduceEqDiff, Nat.reduceLT, reduceCtorEq, Nat.reduceAdd, sy, gt_other, g0, g1, g28, g29, hl]) ?_;rintro s _ ⟨hl, g0, g1, g5, rfl⟩;refine wpo_nil (then_n ?_);refine AM.wp_seq hp0 (AM.wp_reg hp0 ?_);refine wpo_seg hp0 1 (fun s H' => s.length = 174 ∧ gt s 0 = v_0 ∧ gt s 1 = v_1 ∧ gt s 5 = rv17 ∧ gt s 31 = v_0 ∧ H = H') (by simp only [↓runs, isCall, ↓reduceIte, ↓gd_true, ↓gd_false, evs, AV.cells, Nat.reduceEqDiff, Nat.reduceLT, reduceCtorEq, Nat.reduceAdd, sy, g0, g1, g5, hl]) ?_;rintro s _ ⟨hl, g0, g1, g5, g31, rfl⟩;obtain ⟨r20, e21, hp⟩ := bn hp;refine wpo_callK hp0 rfl (ys := [v_0]) (by simp only [evs, List.map_cons, List.map_nil, ev_t, ev_c, g31]) (R_semigroupref14_Valid hst h_0 e21) ?_;rintro rv22 H ⟨W, w23, hst, rfl⟩;replace h_0 := Rp.mono w23 h_0;replace h_1 := Rp.mono w23 h_1;replace h19 := Rp.mono w23 h19;refine wpo_seg hp0 1 (fun s H' => s.length = 174 ∧ gt s 0 = v_0 ∧ gt s 1 = v_1 ∧ gt s 5 = rv17 ∧ gt s 6 = .bool r20 ∧ H = H') (by simp only [↓runs, isCall, ↓reduceIte, ↓gd_true, ↓gd_false, evs, AV.cells, Nat.reduceEqDiff, Nat.reduceLT, reduceCtorEq, Nat.reduceAdd, sy, gt_other, g0, g1, g5, g31, hl]) ?_;rintro s _ ⟨hl, g0, g1, g5, g6, rfl⟩;refine wpo_nil (then_n ?_);refine AM.wp_seq hp0 (AM.wp_seq hp0 (AM.wp_reg hp0 ?_));have f24 := fz_ln h_1;refine wpo_seg hp0 3 (fun s H' => s.length = 174 ∧ gt s 0 = v_0 ∧ gt s 1 = v_1 ∧ gt s 5 = rv17 ∧ gt s 6 = .bool r20 ∧ gt s 33 = v_1 ∧ gt s 34 = .int .i64 (list.length : Int) ∧ gt s 35 = .int .i64 0 ∧ H = H') (by simp only [↓runs, isCall, ↓reduceIte, ↓gd_true, ↓gd_false, evs, AV.cells, Nat.reduceEqDiff, Nat.reduceLT, reduceCtorEq, Nat.reduceAdd, sy, f24, g0, g1, g5, g6, hl]) ?_;rintro s _ ⟨hl, g0, g1, g5, g6, g33, g34, g35, rfl⟩;refine wpo_nil (then_n ?_);obtain ⟨z31, e32, hp⟩ := bn hp;refine rangeS_ref hp0 174 list.length (fun k x => P_semigrouplaw22_SubdirectEmbeds_l25 list t k x) (fun _ x s H' => ∃ (W' : AH), s.length = 174 ∧ gt s 6 = .bool x ∧ gt s 0 = v_0 ∧ gt s 1 = v_1 ∧ gt s 5 = rv17 ∧ gt s 33 = v_1 ∧  Wle W W' ∧ St G W' H') e32 (fz_big h_1) rfl ?_ ?_ hl g35 g34 ?_ ?_
   ·intro k x s H d v hd h; rcases hd with rfl | rfl | rfl <;> simpa only [gt_other, pt_length, Nat.reduceEqDiff, not_false_eq_true] using h
   ·exact ⟨W, hl, g6, g0, g1, g5, g33, .refl _, hst⟩
   ·intro k27 x26 y28 s H hk hI hl g35 g34 hy29;change P_semigrouplaw22_SubdirectEmbeds_l25 list t k27 x26 = some y28 at hy29;unfold P_semigrouplaw22_SubdirectEmbeds_l25 at hy29;obtain ⟨W, hl, g6, g0, g1, g5, g33, w34, hst⟩ := hI;replace h_0 := Rp.mono w34 h_0;replace h_1 := Rp.mono w34 h_1;replace h19 := Rp.mono w34 h19;refine AM.wp_seq hp0 (AM.wp_reg hp0 ?_);obtain ⟨x35, e36, hy29⟩ := bn hy29;obtain ⟨p37, y38, f39, f40, h41⟩ := fz_at (k := .i64) hst h_1 e36 rfl;refine wpo_seg hp0 3 (fun s H' => s.length = 174 ∧ gt s 0 = v_0 ∧ gt s 1 = v_1 ∧ gt s 5 = rv17 ∧ gt s 6 = .bool x26 ∧ gt s 8 = y38 ∧ gt s 33 = v_1 ∧ gt s 34 = .int .i64 (list.length : Int) ∧ gt s 35 = .int .i64 (k27 : Int) ∧ H = H') (by simp only [↓runs, isCall, ↓reduceIte, ↓gd_true, ↓gd_false, evs, AV.cells, Nat.reduceEqDiff, Nat.reduceLT, reduceCtorEq, Nat.reduceAdd, sy, f39, f40, g0, g1, g5, g6, g33, g34, g35, hl]) ?_;rintro s _ ⟨hl, g0, g1, g5, g6, g8, g33, g34, g35, rfl⟩;refine wpo_nil (then_n ?_);obtain ⟨z42, hj43, hy29⟩ := bn hy29;refine AM.wp_regK hp0 (fun s H' => ∃ (W' : AH), s.length = 174 ∧ gt s 6 = .bool z42 ∧ gt s 0 = v_0 ∧ gt s 1 = v_1 ∧ gt s 5 = rv17 ∧ gt s 33 = v_1 ∧ gt s 34 = .int .i64 (list.length : Int) ∧ gt s 35 = .int .i64 (k27 : Int) ∧  Wle W W' ∧ St G W' H') ?_ ?_
    ·rcases Bool.eq_false_or_eq_true (x26) with c44 | c44
     ·replace hj43 := ifT c44 hj43;refine wpo_seg hp0 4 (fun s H' => s.length = 174 ∧ gt s 0 = v_0 ∧ gt s 1 = v_1 ∧ gt s 5 = rv17 ∧ gt s 6 = .bool true ∧ gt s 33 = v_1 ∧ gt s 34 = .int .i64 (list.length : Int) ∧ gt s 35 = .int .i64 (k27 : Int) ∧ gt s 40 = .bool true ∧ gt s 41 = v_0 ∧ gt s 42 = y38 ∧ H = H') (by simp only [↓runs, isCall, ↓reduceIte, ↓gd_true, ↓gd_false, evs, AV.cells, Nat.reduceEqDiff, Nat.reduceLT, reduceCtorEq, Nat.reduceAdd, sy, c44, g0, g1, g5, g6, g8, g33, g34, g35, hl]) ?_;rintro s _ ⟨hl, g0, g1, g5, g6, g33, g34, g35, g40, g41, g42, rfl⟩;obtain ⟨r45, e46, hj43⟩ := bn hj43;refine wpo_callK hp0 (by simp only [wanted, g40, beq_self_eq_true]) (ys := [v_0, y38, .int .i64 0]) (by simp only [evs, List.map_cons, List.map_nil, ev_t, ev_c, g41, g42]) (R_semigroupref19_IsCongruence hst h_0 h41 e46) ?_;rintro rv47 H ⟨W, w48, hst, rfl⟩;replace h_0 := Rp.mono w48 h_0;replace h_1 := Rp.mono w48 h_1;replace h19 := Rp.mono w48 h19;replace h41 := Rp.mono w48 h41;refine wpo_seg hp0 2 (fun s H' => s.length = 174 ∧ gt s 0 = v_0 ∧ gt s 1 = v_1 ∧ gt s 5 = rv17 ∧ gt s 6 = .bool r45 ∧ gt s 33 = v_1 ∧ gt s 34 = .int .i64 (list.length : Int) ∧ gt s 35 = .int .i64 (k27 : Int) ∧ H = H') (by simp only [↓runs, isCall, ↓reduceIte, ↓gd_true, ↓gd_false, evs, AV.cells, Nat.reduceEqDiff, Nat.reduceLT, reduceCtorEq, Nat.reduceAdd, sy, gt_other, g0, g1, g5, g6, g33, g34, g35, g40, g41, g42, hl]) ?_;rintro s _ ⟨hl, g0, g1, g5, g6, g33, g34, g35, rfl⟩;refine wpo_nil ?_;obtain rfl := Option.some.inj hj43;exact ⟨W, hl, g6, g0, g1, g5, g33, g34, g35, w48, hst⟩
     ·replace hj43 := ifF c44 hj43;refine wpo_seg hp0 7 (fun s H' => s.length = 174 ∧ gt s 0 = v_0 ∧ gt s 1 = v_1 ∧ gt s 5 = rv17 ∧ gt s 6 = .bool false ∧ gt s 33 = v_1 ∧ gt s 34 = .int .i64 (list.length : Int) ∧ gt s 35 = .int .i64 (k27 : Int) ∧ H = H') (by simp only [↓runs, isCall, ↓reduceIte, ↓gd_true, ↓gd_false, evs, AV.cells, Nat.reduceEqDiff, Nat.reduceLT, reduceCtorEq, Nat.reduceAdd, sy, c44, g0, g1, g5, g6, g8, g33, g34, g35, hl]) ?_;rintro s _ ⟨hl, g0, g1, g5, g6, g33, g34, g35, rfl⟩;refine wpo_nil ?_;obtain rfl := Option.some.inj hj43;exact ⟨W, hl, g6, g0, g1, g5, g33, g34, g35, .refl _, hst⟩
    ·rintro s H ⟨W, hl, g6, g0, g1, g5, g33, g34, g35, w49, hst⟩;replace h_0 := Rp.mono w49 h_0;replace h_1 := Rp.mono w49 h_1;replace h19 := Rp.mono w49 h19;refine rnd_n ?_;obtain rfl := Option.some.inj hy29;exact ⟨hl, g35, g34, ⟨W, hl, g6, g0, g1, g5, g33, (w34.trans w49), hst⟩⟩
   ·rintro s H hI _;obtain ⟨W, hl, g6, g0, g1, g5, g33, w50, hst⟩ := hI;replace h_0 := Rp.mono w50 h_0;replace h_1 := Rp.mono w50 h_1;replace h19 := Rp.mono w50 h19;refine then_n ?_;refine AM.wp_seq hp0 (AM.wp_seq hp0 (AM.wp_reg hp0 ?_));refine wpo_seg hp0 2 (fun s H' => s.length = 174 ∧ gt s 0 = v_0 ∧ gt s 1 = v_1 ∧ gt s 5 = rv17 ∧ gt s 47 = .bool (!z31) ∧ H = H') (by simp only [↓runs, isCall, ↓reduceIte, ↓gd_true, ↓gd_false, evs, AV.cells, Nat.reduceEqDiff, Nat.reduceLT, reduceCtorEq, Nat.reduceAdd, sy, g0, g1, g5, g6, g33, hl]) ?_;rintro s _ ⟨hl, g0, g1, g5, g47, rfl⟩;refine wpo_nil (then_n ?_);rcases Bool.eq_false_or_eq_true (!z31) with c51 | c51
    ·replace hp := ifT c51 hp;refine AM.wp_condT (by simp only [ev_t, ev_c, g47, c51]) ?_;refine AM.wp_seq hp0 ?_;obtain ⟨z52, hj53, hp⟩ := bn hp;refine AM.wp_regK hp0 (fun s H' => ∃ (W' : AH), s.length = 174 ∧ gt s 4 = .bool z52 ∧  Wle W W' ∧ St G W' H') ?_ ?_
     ·have f54 := fz_ln h19;rcases Bool.eq_false_or_eq_true (decide ((r15.length : Int) = 0)) with c55 | c55
      ·replace hj53 := ifT c55 hj53;refine wpo_seg hp0 4 (fun s H' => s.length = 174 ∧ gt s 51 = .bool true ∧ H = H') (by simp only [↓runs, isCall, ↓reduceIte, ↓gd_true, ↓gd_false, evs, AV.cells, Nat.reduceEqDiff, Nat.reduceLT, reduceCtorEq, Nat.reduceAdd, sy, f54, c55, g0, g1, g5, g47, hl]) ?_;rintro s _ ⟨hl, g51, rfl⟩;obtain ⟨r56, e57, hj53⟩ := bn hj53;refine wpo_callK hp0 (by simp only [wanted, g51, beq_self_eq_true]) (ys := []) (by simp only [evs, List.map_cons, List.map_nil, ev_t, ev_c]) (R_semigrouplaw22_awake hst e57) ?_;rintro rv58 H ⟨W, w59, hst, rfl⟩;replace h_0 := Rp.mono w59 h_0;replace h_1 := Rp.mono w59 h_1;replace h19 := Rp.mono w59 h19;refine wpo_seg hp0 2 (fun s H' => s.length = 174 ∧ gt s 4 = .bool r56 ∧ H = H') (by simp only [↓runs, isCall, ↓reduceIte, ↓gd_true, ↓gd_false, evs, AV.cells, Nat.reduceEqDiff, Nat.reduceLT, reduceCtorEq, Nat.reduceAdd, sy, gt_other, g51, hl]) ?_;rintro s _ ⟨hl, g4, rfl⟩;refine wpo_nil ?_;obtain rfl := Option.some.inj hj53;exact ⟨W, hl, g4, w59, hst⟩
      ·replace hj53 := ifF c55 hj53;refine wpo_seg hp0 7 (fun s H' => s.length = 174 ∧ gt s 4 = .bool false ∧ H = H') (by simp only [↓runs, isCall, ↓reduceIte, ↓gd_true, ↓gd_false, evs, AV.cells, Nat.reduceEqDiff, Nat.reduceLT, reduceCtorEq, Nat.reduceAdd, sy, f54, c55, g0, g1, g5, g47, hl]) ?_;rintro s _ ⟨hl, g4, rfl⟩;refine wpo_nil ?_;obtain rfl := Option.some.inj hj53;exact ⟨W, hl, g4, .refl _, hst⟩
     ·rintro s H ⟨W, hl, g4, w60, hst⟩;refine then_n ?_;refine AM.wp_ret ?_;refine then_r ?_;obtain rfl := Option.some.inj hp;refine body_ret (vs := [.bool z52]) (by simp only [rvs, f_semigrouplaw22_SubdirectEmbeds, Option.map_some, g4]) ?_;exact ⟨W, ((((w9.trans w18).trans w23).trans w50).trans w60), hst, rfl⟩
    ·replace hp := ifF c51 hp;refine AM.wp_condF (by simp only [ev_t, ev_c, g47, c51]) ?_;refine AM.wp_skip ?_;refine then_n ?_;refine AM.wp_seq hp0 (AM.wp_seq hp0 (AM.wp_reg hp0 ?_));refine wpo_seg hp0 3 (fun s H' => s.length = 174 ∧ gt s 0 = v_0 ∧ gt s 54 = rv17 ∧ gt s 55 = v_0 ∧ gt s 56 = v_1 ∧ H = H') (by simp only [↓runs, isCall, ↓reduceIte, ↓gd_true, ↓gd_false, evs, AV.cells, Nat.reduceEqDiff, Nat.reduceLT, reduceCtorEq, Nat.reduceAdd, sy, g0, g1, g5, g47, hl]) ?_;rintro s _ ⟨hl, g0, g54, g55, g56, rfl⟩;obtain ⟨r61, e62, hp⟩ := bn hp;refine wpo_callK hp0 rfl (ys := [v_0, v_1]) (by simp only [evs, List.map_cons, List.map_nil, ev_t, ev_c, g55, g56]) (R_semigroupref22_Embed hst h_0 h_1 e62) ?_;rintro rv63 H ⟨W, w65, hst, h66⟩;replace h_0 := Rp.mono w65 h_0;replace h_1 := Rp.mono w65 h_1;replace h19 := Rp.mono w65 h19;refine wpo_seg hp0 0 (fun s H' => s.length = 174 ∧ gt s 0 = v_0 ∧ gt s 54 = rv17 ∧ gt s 57 = rv63 ∧ H = H') (by simp only [↓runs, isCall, ↓reduceIte, ↓gd_true, ↓gd_false, evs, AV.cells, Nat.reduceEqDiff, Nat.reduceLT, reduceCtorEq, Nat.reduceAdd, sy, gt_other, g0, g54, g55, g56, hl]) ?_;rintro s _ ⟨hl, g0, g54, g57, rfl⟩;obtain ⟨r67, e68, hp⟩ := bn hp;refine wpo_callK hp0 rfl (ys := [rv17, rv63]) (by simp only [evs, List.map_cons, List.map_nil, ev_t, ev_c, g54, g57]) (R_semigroupref03_SameRows hst h19 h66 e68) ?_;rintro rv69 H ⟨W, w70, hst, rfl⟩;replace h_0 := Rp.mono w70 h_0;replace h_1 := Rp.mono w70 h_1;replace h19 := Rp.mono w70 h19;replace h66 := Rp.mono w70 h66;refine wpo_seg hp0 1 (fun s H' => s.length = 174 ∧ gt s 0 = v_0 ∧ gt s 59 = .bool (!r67) ∧ H = H') (by simp only [↓runs, isCall, ↓reduceIte, ↓gd_true, ↓gd_false, evs, AV.cells, Nat.reduceEqDiff, Nat.reduceLT, reduceCtorEq, Nat.reduceAdd, sy, gt_other, g0, g54, g57, hl]) ?_;rintro s _ ⟨hl, g0, g59, rfl⟩;refine wpo_nil (then_n ?_);rcases Bool.eq_false_or_eq_true (!r67) with c71 | c71
     ·replace hp := ifT c71 hp;refine AM.wp_condT (by simp only [ev_t, ev_c, g59, c71]) ?_;refine AM.wp_seq hp0 (AM.wp_reg hp0 ?_);refine wpo_seg hp0 1 (fun s H' => s.length = 174 ∧ gt s 4 = .bool false ∧ H = H') (by simp only [↓runs, isCall, ↓reduceIte, ↓gd_true, ↓gd_false, evs, AV.cells, Nat.reduceEqDiff, Nat.reduceLT, reduceCtorEq, Nat.reduceAdd, sy, g0, g59, hl]) ?_;rintro s _ ⟨hl, g4, rfl⟩;refine wpo_nil (then_n ?_);refine AM.wp_ret ?_;refine then_r ?_;obtain rfl := Option.some.inj hp;refine body_ret (vs := [.bool false]) (by simp only [rvs, f_semigrouplaw22_SubdirectEmbeds, Option.map_some, g4]) ?_;exact ⟨W, (((((w9.trans w18).trans w23).trans w50).trans w65).trans w70), hst, rfl⟩
     ·replace hp := ifF c71 hp;refine AM.wp_condF (by simp only [ev_t, ev_c, g59, c71]) ?_;refine AM.wp_skip ?_;refine then_n ?_;refine AM.wp_seq hp0 (AM.wp_reg hp0 ?_);refine wpo_seg hp0 1 (fun s H' => s.length = 174 ∧ gt s 0 = v_0 ∧ gt s 61 = v_0 ∧ H = H') (by simp only [↓runs, isCall, ↓reduceIte, ↓gd_true, ↓gd_false, evs, AV.cells, Nat.reduceEqDiff, Nat.reduceLT, reduceCtorEq, Nat.reduceAdd, sy, g0, g59, hl]) ?_;rintro s _ ⟨hl, g0, g61, rfl⟩;obtain ⟨r72, e73, hp⟩ := bn hp;refine wpo_callK hp0 rfl (ys := [v_0]) (by simp only [evs, List.map_cons, List.map_nil, ev_t, ev_c, g61]) (R_subdirect_Decompose hst h_0 e73) ?_;rintro rv74 H ⟨W, w75, v76, fg77, hst, rfl, o78⟩;replace h_0 := Rp.mono w75 h_0;replace h_1 := Rp.mono w75 h_1;replace h19 := Rp.mono w75 h19;replace h66 := Rp.mono w75 h66;refine wpo_seg hp0 5 (fun s H' => s.length = 174 ∧ gt s 0 = v_0 ∧ gt s 9 = v76 ∧ gt s 10 = .int .i64 r72.2 ∧ H = H') (by simp only [↓runs, isCall, ↓reduceIte, ↓gd_true, ↓gd_false, evs, AV.cells, Nat.reduceEqDiff, Nat.reduceLT, reduceCtorEq, Nat.reduceAdd, sy, gt_other, g0, g61, hl]) ?_;rintro s _ ⟨hl, g0, g9, g10, rfl⟩;refine wpo_nil (then_n ?_);refine AM.wp_seq hp0 (AM.wp_reg hp0 ?_);refine wpo_seg hp0 2 (fun s H' => s.length = 174 ∧ gt s 0 = v_0 ∧ gt s 9 = v76 ∧ gt s 10 = .int .i64 r72.2 ∧ gt s 65 = v_0 ∧ gt s 66 = v76 ∧ H = H') (by simp only [↓runs, isCall, ↓reduceIte, ↓gd_true, ↓gd_false, evs, AV.cells, Nat.reduceEqDiff, Nat.reduceLT, reduceCtorEq, Nat.reduceAdd, sy, g0, g9, g10, hl]) ?_;rintro s _ ⟨hl, g0, g9, g10, g65, g66, rfl⟩;obtain ⟨W, w80, hst, h79⟩ := ow_frz hst o78;replace h_0 := Rp.mono w80 h_0;replace h_1 := Rp.mono w80 h_1;replace h19 := Rp.mono w80 h19;replace h66 := Rp.mono w80 h66;obtain ⟨r81, e82, hp⟩ := bn hp;refine wpo_callK hp0 rfl (ys := [v_0, v76]) (by simp only [evs, List.map_cons, List.map_nil, ev_t, ev_c, g65, g66]) (R_subdirect_Embed hst h_0 h79 e82) ?_;rintro rv83 H ⟨W, w84, hst, h85⟩;replace h_0 := Rp.mono w84 h_0;replace h_1 := Rp.mono w84 h_1;replace h19 := Rp.mono w84 h19;replace h66 := Rp.mono w84 h66;replace h79 := Rp.mono w84 h79;refine wpo_seg hp0 1 (fun s H' => s.length = 174 ∧ gt s 0 = v_0 ∧ gt s 5 = rv83 ∧ gt s 9 = v76 ∧ gt s 10 = .int .i64 r72.2 ∧ H = H') (by simp only [↓runs, isCall, ↓reduceIte, ↓gd_true, ↓gd_false, evs, AV.cells, Nat.reduceEqDiff, Nat.reduceLT, reduceCtorEq, Nat.reduceAdd, sy, gt_other, g0, g9, g10, g65, g66, hl]) ?_;rintro s _ ⟨hl, g0, g5, g9, g10, rfl⟩;refine wpo_nil (then_n ?_);refine AM.wp_seq hp0 (AM.wp_seq hp0 ?_);obtain ⟨z86, hj87, hp⟩ := bn hp;refine AM.wp_regK hp0 (fun s H' => s.length = 174 ∧ gt s 76 = .bool z86 ∧ gt s 0 = v_0 ∧ gt s 5 = rv83 ∧ gt s 9 = v76 ∧ H = H') ?_ ?_
      ·rcases Bool.eq_false_or_eq_true (!decide (r72.2 = 0)) with c88 | c88
       ·replace hj87 := ifT c88 hj87;refine wpo_seg hp0 9 (fun s H' => s.length = 174 ∧ gt s 0 = v_0 ∧ gt s 5 = rv83 ∧ gt s 9 = v76 ∧ gt s 76 = .bool true ∧ H = H') (by simp only [↓runs, isCall, ↓reduceIte, ↓gd_true, ↓gd_false, evs, AV.cells, Nat.reduceEqDiff, Nat.reduceLT, reduceCtorEq, Nat.reduceAdd, sy, c88, g0, g5, g9, g10, hl]) ?_;rintro s _ ⟨hl, g0, g5, g9, g76, rfl⟩;refine wpo_nil ?_;obtain rfl := Option.some.inj hj87;exact ⟨hl, g76, g0, g5, g9, rfl⟩
       ·replace hj87 := ifF c88 hj87;have f89 := fz_ln h85;have f90 := fz_ln h_0;refine wpo_seg hp0 9 (fun s H' => s.length = 174 ∧ gt s 0 = v_0 ∧ gt s 5 = rv83 ∧ gt s 9 = v76 ∧ gt s 76 = .bool (!decide ((r81.length : Int) = (t.length : Int))) ∧ H = H') (by simp only [↓runs, isCall, ↓reduceIte, ↓gd_true, ↓gd_false, evs, AV.cells, Nat.reduceEqDiff, Nat.reduceLT, reduceCtorEq, Nat.reduceAdd, sy, c88, f89, f90, g0, g5, g9, g10, hl]) ?_;rintro s _ ⟨hl, g0, g5, g9, g76, rfl⟩;refine wpo_nil ?_;obtain rfl := Option.some.inj hj87;exact ⟨hl, g76, g0, g5, g9, rfl⟩
      ·rintro s _ ⟨hl, g76, g0, g5, g9, rfl⟩;refine then_n ?_;rcases Bool.eq_false_or_eq_true (z86) with c92 | c92
       ·replace hp := ifT c92 hp;refine AM.wp_condT (by simp only [ev_t, ev_c, g76, c92]) ?_;refine AM.wp_seq hp0 (AM.wp_reg hp0 ?_);refine wpo_seg hp0 1 (fun s H' => s.length = 174 ∧ gt s 4 = .bool false ∧ H = H') (by simp only [↓runs, isCall, ↓reduceIte, ↓gd_true, ↓gd_false, evs, AV.cells, Nat.reduceEqDiff, Nat.reduceLT, reduceCtorEq, Nat.reduceAdd, sy, g0, g5, g9, g76, hl]) ?_;rintro s _ ⟨hl, g4, rfl⟩;refine wpo_nil (then_n ?_);refine AM.wp_ret ?_;refine then_r ?_;obtain rfl := Option.some.inj hp;refine body_ret (vs := [.bool false]) (by simp only [rvs, f_semigrouplaw22_SubdirectEmbeds, Option.map_some, g4]) ?_;exact ⟨W, ((((((((w9.trans w18).trans w23).trans w50).trans w65).trans w70).trans w75).trans w80).trans w84), hst, rfl⟩
       ·replace hp := ifF c92 hp;refine AM.wp_condF (by simp only [ev_t, ev_c, g76, c92]) ?_;refine AM.wp_skip ?_;refine then_n ?_;refine AM.wp_seq hp0 (AM.wp_reg hp0 ?_);refine wpo_seg hp0 1 (fun s H' => s.length = 174 ∧ gt s 0 = v_0 ∧ gt s 5 = rv83 ∧ gt s 9 = v76 ∧ gt s 11 = .nils ∧ H = H') (by simp only [↓runs, isCall, ↓reduceIte, ↓gd_true, ↓gd_false, evs, AV.cells, Nat.reduceEqDiff, Nat.reduceLT, reduceCtorEq, Nat.reduceAdd, sy, g0, g5, g9, g76, hl]) ?_;rintro s _ ⟨hl, g0, g5, g9, g11, rfl⟩;refine wpo_nil (then_n ?_);refine AM.wp_seq hp0 (AM.wp_seq hp0 (AM.wp_reg hp0 ?_));have f93 := fz_ln h79;refine wpo_seg hp0 3 (fun s H' => s.length = 174 ∧ gt s 0 = v_0 ∧ gt s 5 = rv83 ∧ gt s 9 = v76 ∧ gt s 11 = .nils ∧ gt s 77 = v76 ∧ gt s 78 = .int .i64 (r72.1.length : Int) ∧ gt s 79 = .int .i64 0 ∧ H = H') (by simp only [↓runs, isCall, ↓reduceIte, ↓gd_true, ↓gd_false, evs, AV.cells, Nat.reduceEqDiff, Nat.reduceLT, reduceCtorEq, Nat.reduceAdd, sy, f93, g0, g5, g9, g11, hl]) ?_;rintro s _ ⟨hl, g0, g5, g9, g11, g77, g78, g79, rfl⟩;refine wpo_nil (then_n ?_);replace hst := hst.nil;have o95 := ow_nil (α := List (List Int)) W;obtain ⟨z101, e102, hp⟩ := bn hp;refine range_ref hp0 174 r72.1.length (fun k x => P_semigrouplaw22_SubdirectEmbeds_l94 r72 t k x) (fun _ x s H' => ∃ (W' : AH) (w11 : AV) (q11 : Frag), s.length = 174 ∧ gt s 11 = w11 ∧ gt s 0 = v_0 ∧ gt s 5 = rv83 ∧ gt s 9 = v76 ∧ gt s 77 = v76 ∧  Wle W W' ∧ St (q11 :: G) W' H' ∧ OwS W' w11 q11 (x : List (List (List Int)))) (fun _ x s H' => ∃ (W' : AH) (w11 : AV) (q11 : Frag), s.length = 174 ∧ gt s 11 = w11 ∧ gt s 0 = v_0 ∧ gt s 5 = rv83 ∧ gt s 9 = v76 ∧  Wle W W' ∧ St (q11 :: G) W' H' ∧ OwS W' w11 q11 (x : List (List (List Int)))) e102 (fz_big h79) rfl ?_ ?_ hl g79 g78 ?_ ?_
        ·intro k x s H d v hd h; rcases hd with rfl | rfl | rfl <;> simpa only [gt_other, pt_length, Nat.reduceEqDiff, not_false_eq_true] using h
        ·exact ⟨W, _, _, hl, g11, g0, g5, g9, g77, .refl _, hst, o95⟩
        ·intro k97 x96 y98 s H hk hI hl g79 g78 hy99 hx100;change P_semigrouplaw22_SubdirectEmbeds_l94 r72 t k97 x96 = some y98 at hy99;unfold P_semigrouplaw22_SubdirectEmbeds_l94 at hy99;obtain ⟨W, v105, fg106, hl, g11, g0, g5, g9, g77, w104, hst, o107⟩ := hI;replace h_0 := Rp.mono w104 h_0;replace h85 := Rp.mono w104 h85;replace h79 := Rp.mono w104 h79;refine AM.wp_seq hp0 (AM.wp_reg hp0 ?_);obtain ⟨x108, e109, hy99⟩ := bn hy99;obtain ⟨p110, y111, f112, f113, h114⟩ := fz_at (k := .i64) hst h79 e109 rfl;refine wpo_seg hp0 3 (fun s H' => s.length = 174 ∧ gt s 0 = v_0 ∧ gt s 5 = rv83 ∧ gt s 9 = v76 ∧ gt s 11 = v105 ∧ gt s 13 = y111 ∧ gt s 77 = v76 ∧ gt s 78 = .int .i64 (r72.1.length : Int) ∧ gt s 79 = .int .i64 (k97 : Int) ∧ H = H') (by simp only [↓runs, isCall, ↓reduceIte, ↓gd_true, ↓gd_false, evs, AV.cells, Nat.reduceEqDiff, Nat.reduceLT, reduceCtorEq, Nat.reduceAdd, sy, f112, f113, g0, g5, g9, g11, g77, g78, g79, hl]) ?_;rintro s _ ⟨hl, g0, g5, g9, g11, g13, g77, g78, g79, rfl⟩;refine wpo_nil (then_n ?_);refine AM.wp_seq hp0 (AM.wp_reg hp0 ?_);refine wpo_seg hp0 2 (fun s H' => s.length = 174 ∧ gt s 0 = v_0 ∧ gt s 5 = rv83 ∧ gt s 9 = v76 ∧ gt s 11 = v105 ∧ gt s 77 = v76 ∧ gt s 78 = .int .i64 (r72.1.length : Int) ∧ gt s 79 = .int .i64 (k97 : Int) ∧ gt s 84 = v_0 ∧ gt s 85 = y111 ∧ H = H') (by simp only [↓runs, isCall, ↓reduceIte, ↓gd_true, ↓gd_false, evs, AV.cells, Nat.reduceEqDiff, Nat.reduceLT, reduceCtorEq, Nat.reduceAdd, sy, g0, g5, g9, g11, g13, g77, g78, g79, hl]) ?_;rintro s _ ⟨hl, g0, g5, g9, g11, g77, g78, g79, g84, g85, rfl⟩;obtain ⟨r115, e116, hy99⟩ := bn hy99;refine wpo_callK hp0 rfl (ys := [v_0, y111]) (by simp only [evs, List.map_cons, List.map_nil, ev_t, ev_c, g84, g85]) (R_congr_Quotient hst h_0 h114 e116) ?_;rintro rv117 H ⟨W, w118, v119, hst, rfl, h120⟩;replace h_0 := Rp.mono w118 h_0;replace h85 := Rp.mono w118 h85;replace h79 := Rp.mono w118 h79;replace h114 := Rp.mono w118 h114;replace o107 := o107.mono w118;refine wpo_seg hp0 5 (fun s H' => s.length = 174 ∧ gt s 0 = v_0 ∧ gt s 5 = rv83 ∧ gt s 9 = v76 ∧ gt s 11 = v105 ∧ gt s 14 = v119 ∧ gt s 15 = .int .i64 r115.2 ∧ gt s 77 = v76 ∧ gt s 78 = .int .i64 (r72.1.length : Int) ∧ gt s 79 = .int .i64 (k97 : Int) ∧ H = H') (by simp only [↓runs, isCall, ↓reduceIte, ↓gd_true, ↓gd_false, evs, AV.cells, Nat.reduceEqDiff, Nat.reduceLT, reduceCtorEq, Nat.reduceAdd, sy, gt_other, g0, g5, g9, g11, g77, g78, g79, g84, g85, hl]) ?_;rintro s _ ⟨hl, g0, g5, g9, g11, g14, g15, g77, g78, g79, rfl⟩;refine wpo_nil (then_n ?_);refine AM.wp_seq hp0 (AM.wp_seq hp0 (AM.wp_reg hp0 ?_));refine wpo_seg hp0 2 (fun s H' => s.length = 174 ∧ gt s 0 = v_0 ∧ gt s 5 = rv83 ∧ gt s 9 = v76 ∧ gt s 11 = v105 ∧ gt s 14 = v119 ∧ gt s 77 = v76 ∧ gt s 78 = .int .i64 (r72.1.length : Int) ∧ gt s 79 = .int .i64 (k97 : Int) ∧ gt s 90 = .bool (!decide (r115.2 = 0)) ∧ H = H') (by simp only [↓runs, isCall, ↓reduceIte, ↓gd_true, ↓gd_false, evs, AV.cells, Nat.reduceEqDiff, Nat.reduceLT, reduceCtorEq, Nat.reduceAdd, sy, g0, g5, g9, g11, g14, g15, g77, g78, g79, hl]) ?_;rintro s _ ⟨hl, g0, g5, g9, g11, g14, g77, g78, g79, g90, rfl⟩;refine wpo_nil (then_n ?_);rcases Bool.eq_false_or_eq_true (!decide (r115.2 = 0)) with c121 | c121
         ·replace hy99 := ifT c121 hy99;refine AM.wp_condT (by simp only [ev_t, ev_c, g90, c121]) ?_;refine AM.wp_seq hp0 (AM.wp_reg hp0 ?_);refine wpo_seg hp0 1 (fun s H' => s.length = 174 ∧ gt s 4 = .bool false ∧ H = H') (by simp only [↓runs, isCall, ↓reduceIte, ↓gd_true, ↓gd_false, evs, AV.cells, Nat.reduceEqDiff, Nat.reduceLT, reduceCtorEq, Nat.reduceAdd, sy, g0, g5, g9, g11, g14, g77, g78, g79, g90, hl]) ?_;rintro s _ ⟨hl, g4, rfl⟩;refine wpo_nil (then_n ?_);refine AM.wp_ret ?_;refine then_r ?_;refine rnd_r ?_;refine then_r ?_;obtain rfl := Option.some.inj hy99;have hx := hx100 _ rfl;subst hx;dsimp only at hp;obtain rfl := Option.some.inj hp;replace hst := hst.drop;refine body_ret (vs := [.bool false]) (by simp only [rvs, f_semigrouplaw22_SubdirectEmbeds, Option.map_some, g4]) ?_;exact ⟨W, ((((((((((w9.trans w18).trans w23).trans w50).trans w65).trans w70).trans w75).trans w80).trans w84).trans w104).trans w118), hst, rfl⟩
         ·replace hy99 := ifF c121 hy99;refine AM.wp_condF (by simp only [ev_t, ev_c, g90, c121]) ?_;refine AM.wp_skip ?_;refine then_n ?_;refine AM.wp_reg hp0 ?_;obtain ⟨v122, l123, H124, fg125, W, f127, f128, f129, w126, hst, o130⟩ := ow_lit' (n := 1) (k := 1) (z := [.nils]) (ys := [v119]) (M := ([r115.1] : List (List (List Int)))) [(0, 1, v119)] rfl rfl hst (sc_cons (show Rp.rv _ (v119) (r115.1 : List (List Int)) from h120) (sc_nil)) ((List.forall_mem_cons.2 ⟨(Rp.cells (show Rp.rv W (v119) (r115.1 : List (List Int)) from h120)), fun _ h => (List.not_mem_nil h).elim⟩)) rfl rfl rfl (by decide);replace h_0 := Rp.mono w126 h_0;replace h85 := Rp.mono w126 h85;replace h79 := Rp.mono w126 h79;replace h114 := Rp.mono w126 h114;replace h120 := Rp.mono w126 h120;replace o107 := o107.mono w126;obtain ⟨c131, sn132⟩ := ow_sn hst (.head _) o130;obtain ⟨x133, e134, hy99⟩ := bn hy99;replace hst := hst.p1;obtain ⟨v135, H136, fg137, W, f139, w138, hst, o140⟩ := ow_apps [.nils] rfl hst o107 sn132 e134;replace h_0 := Rp.mono w138 h_0;replace h85 := Rp.mono w138 h85;replace h79 := Rp.mono w138 h79;replace h114 := Rp.mono w138 h114;replace h120 := Rp.mono w138 h120;replace o130 := o130.mono w138;refine wpo_seg hp0 5 (fun s H' => s.length = 174 ∧ gt s 0 = v_0 ∧ gt s 5 = rv83 ∧ gt s 9 = v76 ∧ gt s 11 = v135 ∧ gt s 77 = v76 ∧ gt s 78 = .int .i64 (r72.1.length : Int) ∧ gt s 79 = .int .i64 (k97 : Int) ∧ H136 = H') (by simp only [↓runs, isCall, ↓reduceIte, ↓gd_true, ↓gd_false, evs, AV.cells, Nat.reduceEqDiff, Nat.reduceLT, reduceCtorEq, Nat.reduceAdd, sy, f127, f128, f129, f139, g0, g5, g9, g11, g14, g77, g78, g79, g90, hl]) ?_;rintro s _ ⟨hl, g0, g5, g9, g11, g77, g78, g79, rfl⟩;refine wpo_nil ?_;refine rnd_n ?_;obtain rfl := Option.some.inj hy99;replace hst := hst.p1;replace hst := hst.drop;exact ⟨_, rfl, hl, g79, g78, ⟨W, _, _, hl, g11, g0, g5, g9, g77, (((w104.trans w118).trans w126).trans w138), hst, o140⟩⟩
        ·rintro x141 s Hn hz hI;replace hI : (fun s H' => ∃ (W' : AH) (w11 : AV) (q11 : Frag), s.length = 174 ∧ gt s 11 = w11 ∧ gt s 0 = v_0 ∧ gt s 5 = rv83 ∧ gt s 9 = v76 ∧  Wle W W' ∧ St (q11 :: G) W' H' ∧ OwS W' w11 q11 (x141 : List (List (List Int)))) s Hn := by
          rcases hI with ⟨hI, -⟩ | ⟨_, hI⟩
          ·obtain ⟨W2, v11, q11, hl, g11, g0, g5, g9, g77, w2, hst2, o11⟩ := hI;exact ⟨W2, _, _, hl, g11, g0, g5, g9, w2, hst2, o11⟩
          ·exact hI
         obtain ⟨H, rfl⟩ : ∃ K, K = Hn := ⟨_, rfl⟩;subst hz;dsimp only at hp hI;obtain ⟨W, v143, fg144, hl, g11, g0, g5, g9, w142, hst, o145⟩ := hI;replace h_0 := Rp.mono w142 h_0;replace h85 := Rp.mono w142 h85;replace h79 := Rp.mono w142 h79;refine then_n ?_;refine AM.wp_seq hp0 (AM.wp_seq hp0 (AM.wp_reg hp0 ?_));have f146 := fz_ln h_0;refine wpo_seg hp0 3 (fun s H' => s.length = 174 ∧ gt s 0 = v_0 ∧ gt s 5 = rv83 ∧ gt s 9 = v76 ∧ gt s 11 = v143 ∧ gt s 97 = .int .i64 (t.length : Int) ∧ gt s 98 = .int .i64 0 ∧ H = H') (by simp only [↓runs, isCall, ↓reduceIte, ↓gd_true, ↓gd_false, evs, AV.cells, Nat.reduceEqDiff, Nat.reduceLT, reduceCtorEq, Nat.reduceAdd, sy, f146, g0, g5, g9, g11, hl]) ?_;rintro s _ ⟨hl, g0, g5, g9, g11, g97, g98, rfl⟩;refine wpo_nil (then_n ?_);obtain ⟨z153, e154, hp⟩ := bn hp;refine range_ref hp0 174 t.length (fun k x => P_semigrouplaw22_SubdirectEmbeds_l147 r72 r81 t x141 k) (fun _ x s H' => ∃ (W' : AH), s.length = 174 ∧ gt s 0 = v_0 ∧ gt s 5 = rv83 ∧ gt s 9 = v76 ∧ gt s 11 = v143 ∧  Wle W W' ∧ St (fg144 :: G) W' H') (fun _ x s H' => ∃ (W' : AH), s.length = 174 ∧  Wle W W' ∧ St (fg144 :: G) W' H') e154 (fz_big h_0) rfl ?_ ?_ hl g98 g97 ?_ ?_
         ·intro k x s H d v hd h; rcases hd with rfl | rfl | rfl <;> simpa only [gt_other, pt_length, Nat.reduceEqDiff, not_false_eq_true] using h
         ·exact ⟨W, hl, g0, g5, g9, g11, .refl _, hst⟩
         ·intro k149 x148 y150 s H hk hI hl g98 g97 hy151 hx152;change P_semigrouplaw22_SubdirectEmbeds_l147 r72 r81 t x141 k149 = some y150 at hy151;unfold P_semigrouplaw22_SubdirectEmbeds_l147 at hy151;obtain ⟨W, hl, g0, g5, g9, g11, w155, hst⟩ := hI;replace h_0 := Rp.mono w155 h_0;replace h85 := Rp.mono w155 h85;replace h79 := Rp.mono w155 h79;replace o145 := o145.mono w155;refine AM.wp_seq hp0 (AM.wp_reg hp0 ?_);refine wpo_seg hp0 2 (fun s H' => s.length = 174 ∧ gt s 0 = v_0 ∧ gt s 5 = rv83 ∧ gt s 9 = v76 ∧ gt s 11 = v143 ∧ gt s 16 = .int .i64 (k149 : Int) ∧ gt s 97 = .int .i64 (t.length : Int) ∧ gt s 98 = .int .i64 (k149 : Int) ∧ H = H') (by simp only [↓runs, isCall, ↓reduceIte, ↓gd_true, ↓gd_false, evs, AV.cells, Nat.reduceEqDiff, Nat.reduceLT, reduceCtorEq, Nat.reduceAdd, sy, g0, g5, g9, g11, g97, g98, hl]) ?_;rintro s _ ⟨hl, g0, g5, g9, g11, g16, g97, g98, rfl⟩;refine wpo_nil (then_n ?_);refine AM.wp_seq hp0 (AM.wp_reg hp0 ?_);have f156 := fz_ln h_0;refine wpo_seg hp0 3 (fun s H' => s.length = 174 ∧ gt s 0 = v_0 ∧ gt s 5 = rv83 ∧ gt s 9 = v76 ∧ gt s 11 = v143 ∧ gt s 16 = .int .i64 (k149 : Int) ∧ gt s 97 = .int .i64 (t.length : Int) ∧ gt s 98 = .int .i64 (k149 : Int) ∧ gt s 102 = .int .i64 (t.length : Int) ∧ gt s 103 = .int .i64 0 ∧ H = H') (by simp only [↓runs, isCall, ↓reduceIte, ↓gd_true, ↓gd_false, evs, AV.cells, Nat.reduceEqDiff, Nat.reduceLT, reduceCtorEq, Nat.reduceAdd, sy, f156, g0, g5, g9, g11, g16, g97, g98, hl]) ?_;rintro s _ ⟨hl, g0, g5, g9, g11, g16, g97, g98, g102, g103, rfl⟩;refine wpo_nil (then_n ?_);obtain ⟨z163, e164, hy151⟩ := bn hy151;refine range_ref hp0 174 t.length (fun k x => P_semigrouplaw22_SubdirectEmbeds_l157 k149 r72 r81 t x141 k) (fun _ x s H' => ∃ (W' : AH), s.length = 174 ∧ gt s 0 = v_0 ∧ gt s 5 = rv83 ∧ gt s 9 = v76 ∧ gt s 11 = v143 ∧ gt s 16 = .int .i64 (k149 : Int) ∧ gt s 97 = .int .i64 (t.length : Int) ∧ gt s 98 = .int .i64 (k149 : Int) ∧  Wle W W' ∧ St (fg144 :: G) W' H') (fun _ x s H' => ∃ (W' : AH), s.length = 174 ∧ gt s 0 = v_0 ∧ gt s 5 = rv83 ∧ gt s 9 = v76 ∧ gt s 11 = v143 ∧ gt s 97 = .int .i64 (t.length : Int) ∧ gt s 98 = .int .i64 (k149 : Int) ∧  Wle W W' ∧ St (fg144 :: G) W' H') e164 (fz_big h_0) rfl ?_ ?_ hl g103 g102 ?_ ?_
          ·intro k x s H d v hd h; rcases hd with rfl | rfl | rfl <;> simpa only [gt_other, pt_length, Nat.reduceEqDiff, not_false_eq_true] using h
          ·exact ⟨W, hl, g0, g5, g9, g11, g16, g97, g98, .refl _, hst⟩
          ·intro k159 x158 y160 s H hk hI hl g103 g102 hy161 hx162;change P_semigrouplaw22_SubdirectEmbeds_l157 k149 r72 r81 t x141 k159 = some y160 at hy161;unfold P_semigrouplaw22_SubdirectEmbeds_l157 at hy161;obtain ⟨W, hl, g0, g5, g9, g11, g16, g97, g98, w165, hst⟩ := hI;replace h_0 := Rp.mono w165 h_0;replace h85 := Rp.mono w165 h85;replace h79 := Rp.mono w165 h79;replace o145 := o145.mono w165;refine AM.wp_seq hp0 (AM.wp_reg hp0 ?_);refine wpo_seg hp0 2 (fun s H' => s.length = 174 ∧ gt s 0 = v_0 ∧ gt s 5 = rv83 ∧ gt s 9 = v76 ∧ gt s 11 = v143 ∧ gt s 16 = .int .i64 (k149 : Int) ∧ gt s 17 = .int .i64 (k159 : Int) ∧ gt s 97 = .int .i64 (t.length : Int) ∧ gt s 98 = .int .i64 (k149 : Int) ∧ gt s 102 = .int .i64 (t.length : Int) ∧ gt s 103 = .int .i64 (k159 : Int) ∧ H = H') (by simp only [↓runs, isCall, ↓reduceIte, ↓gd_true, ↓gd_false, evs, AV.cells, Nat.reduceEqDiff, Nat.reduceLT, reduceCtorEq, Nat.reduceAdd, sy, g0, g5, g9, g11, g16, g97, g98, g102, g103, hl]) ?_;rintro s _ ⟨hl, g0, g5, g9, g11, g16, g17, g97, g98, g102, g103, rfl⟩;refine wpo_nil (then_n ?_);refine AM.wp_seq hp0 (AM.wp_seq hp0 ?_);obtain ⟨z166, hj167, hy161⟩ := bn hy161;refine AM.wp_regK hp0 (fun s H' => ∃ (W' : AH), s.length = 174 ∧ gt s 129 = .bool z166 ∧ gt s 0 = v_0 ∧ gt s 5 = rv83 ∧ gt s 9 = v76 ∧ gt s 11 = v143 ∧ gt s 16 = .int .i64 (k149 : Int) ∧ gt s 17 = .int .i64 (k159 : Int) ∧ gt s 97 = .int .i64 (t.length : Int) ∧ gt s 98 = .int .i64 (k149 : Int) ∧ gt s 102 = .int .i64 (t.length : Int) ∧ gt s 103 = .int .i64 (k159 : Int) ∧  Wle W W' ∧ St (fg144 :: G) W' H') ?_ ?_
           ·rcases Bool.eq_false_or_eq_true (!decide ((k149 : Int) = (k159 : Int))) with c168 | c168
            ·replace hj167 := ifT c168 hj167;obtain ⟨x169, e170, hj167⟩ := bn hj167;obtain ⟨p171, y172, f173, f174, h175⟩ := fz_at (k := .i64) hst h85 e170 rfl;obtain ⟨x176, e177, hj167⟩ := bn hj167;obtain ⟨p178, y179, f180, f181, h182⟩ := fz_at (k := .i64) hst h85 e177 rfl;refine wpo_seg hp0 12 (fun s H' => s.length = 174 ∧ gt s 0 = v_0 ∧ gt s 5 = rv83 ∧ gt s 9 = v76 ∧ gt s 11 = v143 ∧ gt s 16 = .int .i64 (k149 : Int) ∧ gt s 17 = .int .i64 (k159 : Int) ∧ gt s 97 = .int .i64 (t.length : Int) ∧ gt s 98 = .int .i64 (k149 : Int) ∧ gt s 102 = .int .i64 (t.length : Int) ∧ gt s 103 = .int .i64 (k159 : Int) ∧ gt s 109 = .bool true ∧ gt s 113 = y172 ∧ gt s 117 = y179 ∧ H = H') (by simp only [↓runs, isCall, ↓reduceIte, ↓gd_true, ↓gd_false, evs, AV.cells, Nat.reduceEqDiff, Nat.reduceLT, reduceCtorEq, Nat.reduceAdd, sy, c168, f173, f174, f180, f181, g0, g5, g9, g11, g16, g17, g97, g98, g102, g103, hl]) ?_;rintro s _ ⟨hl, g0, g5, g9, g11, g16, g17, g97, g98, g102, g103, g109, g113, g117, rfl⟩;obtain ⟨r183, e184, hj167⟩ := bn hj167;refine wpo_callK hp0 (by simp only [wanted, g109, beq_self_eq_true]) (ys := [y172, y179]) (by simp only [evs, List.map_cons, List.map_nil, ev_t, ev_c, g113, g117]) (R_semigroupref03_Same hst h175 h182 e184) ?_;rintro rv185 H ⟨W, w186, hst, rfl⟩;replace h_0 := Rp.mono w186 h_0;replace h85 := Rp.mono w186 h85;replace h79 := Rp.mono w186 h79;replace h175 := Rp.mono w186 h175;replace h182 := Rp.mono w186 h182;replace o145 := o145.mono w186;rcases Bool.eq_false_or_eq_true (r183) with c187 | c187
             ·replace hj167 := ifT c187 hj167;refine wpo_seg hp0 11 (fun s H' => s.length = 174 ∧ gt s 0 = v_0 ∧ gt s 5 = rv83 ∧ gt s 9 = v76 ∧ gt s 11 = v143 ∧ gt s 16 = .int .i64 (k149 : Int) ∧ gt s 17 = .int .i64 (k159 : Int) ∧ gt s 97 = .int .i64 (t.length : Int) ∧ gt s 98 = .int .i64 (k149 : Int) ∧ gt s 102 = .int .i64 (t.length : Int) ∧ gt s 103 = .int .i64 (k159 : Int) ∧ gt s 129 = .bool true ∧ H = H') (by simp only [↓runs, isCall, ↓reduceIte, ↓gd_true, ↓gd_false, evs, AV.cells, Nat.reduceEqDiff, Nat.reduceLT, reduceCtorEq, Nat.reduceAdd, sy, gt_other, c187, g0, g5, g9, g11, g16, g17, g97, g98, g102, g103, g109, g113, g117, hl]) ?_;rintro s _ ⟨hl, g0, g5, g9, g11, g16, g17, g97, g98, g102, g103, g129, rfl⟩;refine wpo_nil ?_;obtain rfl := Option.some.inj hj167;exact ⟨W, hl, g129, g0, g5, g9, g11, g16, g17, g97, g98, g102, g103, w186, hst⟩
             ·replace hj167 := ifF c187 hj167;obtain ⟨p188, y189, f190, f191, h192⟩ := fz_at (k := .i64) hst h85 e170 rfl;obtain rfl := Option.some.inj (f190.symm.trans f173);have f193 := fz_ln h192;have f194 := fz_ln h79;refine wpo_seg hp0 11 (fun s H' => s.length = 174 ∧ gt s 0 = v_0 ∧ gt s 5 = rv83 ∧ gt s 9 = v76 ∧ gt s 11 = v143 ∧ gt s 16 = .int .i64 (k149 : Int) ∧ gt s 17 = .int .i64 (k159 : Int) ∧ gt s 97 = .int .i64 (t.length : Int) ∧ gt s 98 = .int .i64 (k149 : Int) ∧ gt s 102 = .int .i64 (t.length : Int) ∧ gt s 103 = .int .i64 (k159 : Int) ∧ gt s 129 = .bool (!decide ((x169.length : Int) = (r72.1.length : Int))) ∧ H = H') (by simp only [↓runs, isCall, ↓reduceIte, ↓gd_true, ↓gd_false, evs, AV.cells, Nat.reduceEqDiff, Nat.reduceLT, reduceCtorEq, Nat.reduceAdd, sy, gt_other, c187, f190, f191, f193, f194, g0, g5, g9, g11, g16, g17, g97, g98, g102, g103, g109, g113, g117, hl]) ?_;rintro s _ ⟨hl, g0, g5, g9, g11, g16, g17, g97, g98, g102, g103, g129, rfl⟩;refine wpo_nil ?_;obtain rfl := Option.some.inj hj167;exact ⟨W, hl, g129, g0, g5, g9, g11, g16, g17, g97, g98, g102, g103, w186, hst⟩
            ·replace hj167 := ifF c168 hj167;obtain ⟨x195, e196, hj167⟩ := bn hj167;obtain ⟨p197, y198, f199, f200, h201⟩ := fz_at (k := .i64) hst h85 e196 rfl;have f202 := fz_ln h201;have f203 := fz_ln h79;refine wpo_seg hp0 24 (fun s H' => s.length = 174 ∧ gt s 0 = v_0 ∧ gt s 5 = rv83 ∧ gt s 9 = v76 ∧ gt s 11 = v143 ∧ gt s 16 = .int .i64 (k149 : Int) ∧ gt s 17 = .int .i64 (k159 : Int) ∧ gt s 97 = .int .i64 (t.length : Int) ∧ gt s 98 = .int .i64 (k149 : Int) ∧ gt s 102 = .int .i64 (t.length : Int) ∧ gt s 103 = .int .i64 (k159 : Int) ∧ gt s 129 = .bool (!decide ((x195.length : Int) = (r72.1.length : Int))) ∧ H = H') (by simp (maxSteps := 1000000) only [↓runs, isCall, ↓reduceIte, ↓gd_true, ↓gd_false, evs, AV.cells, Nat.reduceEqDiff, Nat.reduceLT, reduceCtorEq, Nat.reduceAdd, sy, c168, f199, f200, f202, f203, g0, g5, g9, g11, g16, g17, g97, g98, g102, g103, hl]) ?_;rintro s _ ⟨hl, g0, g5, g9, g11, g16, g17, g97, g98, g102, g103, g129, rfl⟩;refine wpo_nil ?_;obtain rfl := Option.some.inj hj167;exact ⟨W, hl, g129, g0, g5, g9, g11, g16, g17, g97, g98, g102, g103, .refl _, hst⟩
           ·rintro s H ⟨W, hl, g129, g0, g5, g9, g11, g16, g17, g97, g98, g102, g103, w204, hst⟩;replace h_0 := Rp.mono w204 h_0;replace h85 := Rp.mono w204 h85;replace h79 := Rp.mono w204 h79;replace o145 := o145.mono w204;refine then_n ?_;rcases Bool.eq_false_or_eq_true (z166) with c205 | c205
            ·replace hy161 := ifT c205 hy161;refine AM.wp_condT (by simp only [ev_t, ev_c, g129, c205]) ?_;refine AM.wp_seq hp0 (AM.wp_reg hp0 ?_);refine wpo_seg hp0 1 (fun s H' => s.length = 174 ∧ gt s 4 = .bool false ∧ H = H') (by simp only [↓runs, isCall, ↓reduceIte, ↓gd_true, ↓gd_false, evs, AV.cells, Nat.reduceEqDiff, Nat.reduceLT, reduceCtorEq, Nat.reduceAdd, sy, g0, g5, g9, g11, g16, g17, g97, g98, g102, g103, g129, hl]) ?_;rintro s _ ⟨hl, g4, rfl⟩;refine wpo_nil (then_n ?_);refine AM.wp_ret ?_;refine then_r ?_;refine rnd_r ?_;refine rnd_r ?_;refine then_r ?_;obtain rfl := Option.some.inj hy161;have hx := hx162 _ rfl;subst hx;dsimp only at hy151;obtain rfl := Option.some.inj hy151;have hx := hx152 _ rfl;subst hx;dsimp only at hp;obtain rfl := Option.some.inj hp;replace hst := hst.drop;refine body_ret (vs := [.bool false]) (by simp only [rvs, f_semigrouplaw22_SubdirectEmbeds, Option.map_some, g4]) ?_;exact ⟨W, ((((((((((((w9.trans w18).trans w23).trans w50).trans w65).trans w70).trans w75).trans w80).trans w84).trans w142).trans w155).trans w165).trans w204), hst, rfl⟩
            ·replace hy161 := ifF c205 hy161;refine AM.wp_condF (by simp only [ev_t, ev_c, g129, c205]) ?_;refine AM.wp_skip ?_;refine then_n ?_;refine AM.wp_seq hp0 (AM.wp_reg hp0 ?_);have f206 := ow_ln o145;have b207 := ow_big o145;refine wpo_seg hp0 3 (fun s H' => s.length = 174 ∧ gt s 0 = v_0 ∧ gt s 5 = rv83 ∧ gt s 9 = v76 ∧ gt s 11 = v143 ∧ gt s 16 = .int .i64 (k149 : Int) ∧ gt s 17 = .int .i64 (k159 : Int) ∧ gt s 97 = .int .i64 (t.length : Int) ∧ gt s 98 = .int .i64 (k149 : Int) ∧ gt s 102 = .int .i64 (t.length : Int) ∧ gt s 103 = .int .i64 (k159 : Int) ∧ gt s 130 = v143 ∧ gt s 131 = .int .i64 (x141.length : Int) ∧ gt s 132 = .int .i64 0 ∧ H = H') (by simp only [↓runs, isCall, ↓reduceIte, ↓gd_true, ↓gd_false, evs, AV.cells, Nat.reduceEqDiff, Nat.reduceLT, reduceCtorEq, Nat.reduceAdd, sy, f206, g0, g5, g9, g11, g16, g17, g97, g98, g102, g103, g129, hl]) ?_;rintro s _ ⟨hl, g0, g5, g9, g11, g16, g17, g97, g98, g102, g103, g130, g131, g132, rfl⟩;refine wpo_nil (then_n ?_);obtain ⟨z214, e215, hy161⟩ := bn hy161;refine range_ref hp0 174 x141.length (fun k x => P_semigrouplaw22_SubdirectEmbeds_l208 k149 k159 r81 t x141 k) (fun _ x s H' => s.length = 174 ∧ gt s 0 = v_0 ∧ gt s 5 = rv83 ∧ gt s 9 = v76 ∧ gt s 11 = v143 ∧ gt s 16 = .int .i64 (k149 : Int) ∧ gt s 17 = .int .i64 (k159 : Int) ∧ gt s 97 = .int .i64 (t.length : Int) ∧ gt s 98 = .int .i64 (k149 : Int) ∧ gt s 102 = .int .i64 (t.length : Int) ∧ gt s 103 = .int .i64 (k159 : Int) ∧ gt s 130 = v143 ∧ H = H') (fun _ x s H' => s.length = 174 ∧ gt s 0 = v_0 ∧ gt s 5 = rv83 ∧ gt s 9 = v76 ∧ gt s 11 = v143 ∧ gt s 16 = .int .i64 (k149 : Int) ∧ gt s 97 = .int .i64 (t.length : Int) ∧ gt s 98 = .int .i64 (k149 : Int) ∧ gt s 102 = .int .i64 (t.length : Int) ∧ gt s 103 = .int .i64 (k159 : Int) ∧ H = H') e215 (b207) rfl ?_ ?_ hl g132 g131 ?_ ?_
             ·intro k x s H d v hd h; rcases hd with rfl | rfl | rfl <;> simpa only [gt_other, pt_length, Nat.reduceEqDiff, not_false_eq_true] using h
             ·exact ⟨hl, g0, g5, g9, g11, g16, g17, g97, g98, g102, g103, g130, rfl⟩
             ·intro k210 x209 y211 s H hk hI hl g132 g131 hy212 hx213;change P_semigrouplaw22_SubdirectEmbeds_l208 k149 k159 r81 t x141 k210 = some y211 at hy212;unfold P_semigrouplaw22_SubdirectEmbeds_l208 at hy212;obtain ⟨hl, g0, g5, g9, g11, g16, g17, g97, g98, g102, g103, g130, rfl⟩ := hI;refine AM.wp_seq hp0 (AM.wp_reg hp0 ?_);obtain ⟨x217, e218, hy212⟩ := bn hy212;obtain ⟨p219, y220, f221, f222, h223⟩ := ow_at (k := .i64) hst (.head _) o145 e218 rfl;refine wpo_seg hp0 5 (fun s H' => s.length = 174 ∧ gt s 0 = v_0 ∧ gt s 5 = rv83 ∧ gt s 9 = v76 ∧ gt s 11 = v143 ∧ gt s 16 = .int .i64 (k149 : Int) ∧ gt s 17 = .int .i64 (k159 : Int) ∧ gt s 18 = .int .i64 (k210 : Int) ∧ gt s 19 = y220 ∧ gt s 97 = .int .i64 (t.length : Int) ∧ gt s 98 = .int .i64 (k149 : Int) ∧ gt s 102 = .int .i64 (t.length : Int) ∧ gt s 103 = .int .i64 (k159 : Int) ∧ gt s 130 = v143 ∧ gt s 131 = .int .i64 (x141.length : Int) ∧ gt s 132 = .int .i64 (k210 : Int) ∧ H = H') (by simp only [↓runs, isCall, ↓reduceIte, ↓gd_true, ↓gd_false, evs, AV.cells, Nat.reduceEqDiff, Nat.reduceLT, reduceCtorEq, Nat.reduceAdd, sy, f221, f222, g0, g5, g9, g11, g16, g17, g97, g98, g102, g103, g130, g131, g132, hl]) ?_;rintro s _ ⟨hl, g0, g5, g9, g11, g16, g17, g18, g19, g97, g98, g102, g103, g130, g131, g132, rfl⟩;refine wpo_nil (then_n ?_);refine AM.wp_seq hp0 (AM.wp_reg hp0 ?_);obtain ⟨x224, e225, hy212⟩ := bn hy212;obtain ⟨p226, y227, f228, f229, h230⟩ := fz_at (k := .i64) hst h_0 e225 rfl;obtain ⟨x231, e232, hy212⟩ := bn hy212;obtain ⟨p233, _, f235, f236, rfl⟩ := fz_at (k := .i64) hst h230 e232 rfl;obtain ⟨x238, e239, hy212⟩ := bn hy212;obtain ⟨p240, y241, f242, f243, h244⟩ := fz_at (k := .i64) hst h85 e239 rfl;obtain ⟨x245, e246, hy212⟩ := bn hy212;obtain ⟨p247, _, f249, f250, rfl⟩ := fz_at (k := .i64) hst h244 e246 rfl;obtain ⟨x252, e253, hy212⟩ := bn hy212;obtain ⟨p254, y255, f256, f257, h258⟩ := fz_at (k := .i64) hst h85 e253 rfl;obtain ⟨x259, e260, hy212⟩ := bn hy212;obtain ⟨p261, _, f263, f264, rfl⟩ := fz_at (k := .i64) hst h258 e260 rfl;obtain ⟨x266, e267, hy212⟩ := bn hy212;obtain ⟨p268, y269, f270, f271, h272⟩ := fz_at (k := .i64) hst h223 e267 rfl;obtain ⟨x273, e274, hy212⟩ := bn hy212;obtain ⟨p275, y276, f277, f278, h279⟩ := fz_at (k := .i64) hst h85 e274 rfl;obtain ⟨x280, e281, hy212⟩ := bn hy212;obtain ⟨p282, _, f284, f285, rfl⟩ := fz_at (k := .i64) hst h279 e281 rfl;obtain ⟨x287, e288, hy212⟩ := bn hy212;obtain ⟨p289, _, f291, f292, rfl⟩ := fz_at (k := .i64) hst h272 e288 rfl;refine wpo_seg hp0 33 (fun s H' => s.length = 174 ∧ gt s 0 = v_0 ∧ gt s 5 = rv83 ∧ gt s 9 = v76 ∧ gt s 11 = v143 ∧ gt s 16 = .int .i64 (k149 : Int) ∧ gt s 17 = .int .i64 (k159 : Int) ∧ gt s 97 = .int .i64 (t.length : Int) ∧ gt s 98 = .int .i64 (k149 : Int) ∧ gt s 102 = .int .i64 (t.length : Int) ∧ gt s 103 = .int .i64 (k159 : Int) ∧ gt s 130 = v143 ∧ gt s 131 = .int .i64 (x141.length : Int) ∧ gt s 132 = .int .i64 (k210 : Int) ∧ gt s 169 = .bool (!decide (x245 = x287)) ∧ H = H') (by simp (maxSteps := 1000000) only [↓runs, isCall, ↓reduceIte, ↓gd_true, ↓gd_false, evs, AV.cells, Nat.reduceEqDiff, Nat.reduceLT, reduceCtorEq, Nat.reduceAdd, sy, f228, f229, f235, f236, f242, f243, f249, f250, f256, f257, f263, f264, f270, f271, f277, f278, f284, f285, f291, f292, g0, g5, g9, g11, g16, g17, g18, g19, g97, g98, g102, g103, g130, g131, g132, hl]) ?_;rintro s _ ⟨hl, g0, g5, g9, g11, g16, g17, g97, g98, g102, g103, g130, g131, g132, g169, rfl⟩;refine wpo_nil (then_n ?_);rcases Bool.eq_false_or_eq_true (!decide (x245 = x287)) with c294 | c294
              ·replace hy212 := ifT c294 hy212;refine AM.wp_condT (by simp only [ev_t, ev_c, g169, c294]) ?_;refine AM.wp_seq hp0 (AM.wp_reg hp0 ?_);refine wpo_seg hp0 1 (fun s H' => s.length = 174 ∧ gt s 4 = .bool false ∧ H = H') (by simp only [↓runs, isCall, ↓reduceIte, ↓gd_true, ↓gd_false, evs, AV.cells, Nat.reduceEqDiff, Nat.reduceLT, reduceCtorEq, Nat.reduceAdd, sy, g0, g5, g9, g11, g16, g17, g97, g98, g102, g103, g130, g131, g132, g169, hl]) ?_;rintro s _ ⟨hl, g4, rfl⟩;refine wpo_nil (then_n ?_);refine AM.wp_ret ?_;refine rnd_r ?_;refine rnd_r ?_;refine rnd_r ?_;refine then_r ?_;obtain rfl := Option.some.inj hy212;have hx := hx213 _ rfl;subst hx;dsimp only at hy161;obtain rfl := Option.some.inj hy161;have hx := hx162 _ rfl;subst hx;dsimp only at hy151;obtain rfl := Option.some.inj hy151;have hx := hx152 _ rfl;subst hx;dsimp only at hp;obtain rfl := Option.some.inj hp;replace hst := hst.drop;refine body_ret (vs := [.bool false]) (by simp only [rvs, f_semigrouplaw22_SubdirectEmbeds, Option.map_some, g4]) ?_;exact ⟨W, ((((((((((((w9.trans w18).trans w23).trans w50).trans w65).trans w70).trans w75).trans w80).trans w84).trans w142).trans w155).trans w165).trans w204), hst, rfl⟩
              ·replace hy212 := ifF c294 hy212;refine AM.wp_condF (by simp only [ev_t, ev_c, g169, c294]) ?_;refine AM.wp_skip ?_;refine rnd_n ?_;obtain rfl := Option.some.inj hy212;exact ⟨_, rfl, hl, g132, g131, ⟨hl, g0, g5, g9, g11, g16, g17, g97, g98, g102, g103, g130, rfl⟩⟩
             ·rintro x295 s Hn hz hI;replace hI : (fun s H' => s.length = 174 ∧ gt s 0 = v_0 ∧ gt s 5 = rv83 ∧ gt s 9 = v76 ∧ gt s 11 = v143 ∧ gt s 16 = .int .i64 (k149 : Int) ∧ gt s 97 = .int .i64 (t.length : Int) ∧ gt s 98 = .int .i64 (k149 : Int) ∧ gt s 102 = .int .i64 (t.length : Int) ∧ gt s 103 = .int .i64 (k159 : Int) ∧ H = H') s Hn := by
               rcases hI with ⟨hI, -⟩ | ⟨_, hI⟩
               ·obtain ⟨hl, g0, g5, g9, g11, g16, g17, g97, g98, g102, g103, g130, e2⟩ := hI;exact ⟨hl, g0, g5, g9, g11, g16, g97, g98, g102, g103, e2⟩
               ·exact hI
              subst hz;dsimp only at hy161 hI;obtain ⟨hl, g0, g5, g9, g11, g16, g97, g98, g102, g103, rfl⟩ := hI;refine rnd_n ?_;obtain rfl := Option.some.inj hy161;exact ⟨_, rfl, hl, g103, g102, ⟨W, hl, g0, g5, g9, g11, g16, g97, g98, (w165.trans w204), hst⟩⟩
          ·rintro x297 s Hn hz hI;replace hI : (fun s H' => ∃ (W' : AH), s.length = 174 ∧ gt s 0 = v_0 ∧ gt s 5 = rv83 ∧ gt s 9 = v76 ∧ gt s 11 = v143 ∧ gt s 97 = .int .i64 (t.length : Int) ∧ gt s 98 = .int .i64 (k149 : Int) ∧  Wle W W' ∧ St (fg144 :: G) W' H') s Hn := by
            rcases hI with ⟨hI, -⟩ | ⟨_, hI⟩
            ·obtain ⟨W2, hl, g0, g5, g9, g11, g16, g97, g98, w2, hst2⟩ := hI;exact ⟨W2, hl, g0, g5, g9, g11, g97, g98, w2, hst2⟩
            ·exact hI
           obtain ⟨H, rfl⟩ : ∃ K, K = Hn := ⟨_, rfl⟩;subst hz;dsimp only at hy151 hI;obtain ⟨W, hl, g0, g5, g9, g11, g97, g98, w298, hst⟩ := hI;replace h_0 := Rp.mono w298 h_0;replace h85 := Rp.mono w298 h85;replace h79 := Rp.mono w298 h79;replace o145 := o145.mono w298;refine rnd_n ?_;obtain rfl := Option.some.inj hy151;exact ⟨_, rfl, hl, g98, g97, ⟨W, hl, g0, g5, g9, g11, (w155.trans w298), hst⟩⟩
         ·rintro x299 s Hn hz hI;replace hI : (fun s H' => ∃ (W' : AH), s.length = 174 ∧  Wle W W' ∧ St (fg144 :: G) W' H') s Hn := by
           rcases hI with ⟨hI, -⟩ | ⟨_, hI⟩
           ·obtain ⟨W2, hl, g0, g5, g9, g11, w2, hst2⟩ := hI;exact ⟨W2, hl, w2, hst2⟩
           ·exact hI
          obtain ⟨H, rfl⟩ : ∃ K, K = Hn := ⟨_, rfl⟩;subst hz;dsimp only at hp hI;obtain ⟨W, hl, w300, hst⟩ := hI;replace h_0 := Rp.mono w300 h_0;replace h85 := Rp.mono w300 h85;replace h79 := Rp.mono w300 h79;replace o145 := o145.mono w300;refine then_n ?_;refine AM.wp_seq hp0 (AM.wp_reg hp0 ?_);obtain ⟨r301, e302, hp⟩ := bn hp;refine wpo_callK hp0 rfl (ys := []) (by simp only [evs, List.map_cons, List.map_nil, ev_t, ev_c]) (R_semigrouplaw22_awake hst e302) ?_;rintro rv303 H ⟨W, w304, hst, rfl⟩;replace o145 := o145.mono w304;refine wpo_seg hp0 1 (fun s H' => s.length = 174 ∧ gt s 4 = .bool r301 ∧ H = H') (by simp only [↓runs, isCall, ↓reduceIte, ↓gd_true, ↓gd_false, evs, AV.cells, Nat.reduceEqDiff, Nat.reduceLT, reduceCtorEq, Nat.reduceAdd, sy, gt_other, hl]) ?_;rintro s _ ⟨hl, g4, rfl⟩;refine wpo_nil (then_n ?_);refine AM.wp_ret ?_;obtain rfl := Option.some.inj hp;replace hst := hst.drop;refine body_ret (vs := [.bool r301]) (by simp only [rvs, f_semigrouplaw22_SubdirectEmbeds, Option.map_some, g4]) ?_;exact ⟨W, (((((((((((w9.trans w18).trans w23).trans w50).trans w65).trans w70).trans w75).trans w80).trans w84).trans w142).trans w300).trans w304), hst, rfl⟩

end Go.Proofs.Ytmdpejgnkoneoaa.Pu
set_option maxRecDepth 10000
namespace Go.Proofs.Ytmdpejgnkoneoaa.Mt
open Go Go.AM Go.AM.Par Go.AM.Cg Go.AM.Lx Go.Proofs.Ytmdpejgnkoneoaa.Pu

def embR (list : List (List Int)) (x k : Nat) : List Int := tab k fun j => (list.getD j []).getD x 0
def EmbT (n : Nat) (list : List (List Int)) : List (List Int) := tab n fun x => embR list x list.length
theorem emb_loop {n : Nat} {list : List (List Int)} (hlen : list.length ≤ 160000) {f : Nat → Nat → List (List Int) → Option (List (List Int))}
    (hf : ∀ i k (X : List (List Int)), i < n → k < list.length → X.length = n → (X.getD i []).length ≤ 160000 → f i k X = some (X.set i (X.getD i [] ++ [(list.getD k []).getD i 0]))) :
    forS n (fun i X => Option.bind (forS list.length (fun k Y => f i k Y) X) fun z => some z) (List.replicate n []) = some (EmbT n list) := by
  obtain ⟨y, hy, h1, h2, h3⟩ := forS_inv (n := n) (f := fun i X => Option.bind (forS list.length (fun k Y => f i k Y) X) fun z => some z) (x := List.replicate n [])
    (fun i X => X.length = n ∧ (∀ q, q < i → X.getD q [] = embR list q list.length) ∧ ∀ q, i ≤ q → q < n → X.getD q [] = [])
    ⟨by simp, fun q hq => by omega, fun q _ hq => by simp [List.getD_eq_getElem?_getD, hq]⟩ (by
      rintro i X hi ⟨h1, h2, h3⟩
      obtain ⟨y, hy, q1, q2, q3⟩ := forS_inv (n := list.length) (f := fun k Y => f i k Y) (x := X)
        (fun k Y => Y.length = n ∧ (∀ q, q ≠ i → Y.getD q [] = X.getD q []) ∧ Y.getD i [] = embR list i k) ⟨h1, fun _ _ => rfl, by rw [h3 i (Nat.le_refl _) hi]; simp [embR, tab]⟩ (by
          rintro k Y hk ⟨q1, q2, q3⟩
          rw [hf i k Y hi hk q1 (by rw [q3]; simp only [embR, tab_length]; omega)]
          refine ⟨_, rfl, by simpa using q1, fun q hq => ?_, ?_⟩
          · rw [getD_set', if_neg (fun h => hq h.1.symm)]; exact q2 q hq
          · rw [getD_set', if_pos ⟨rfl, by omega⟩, q3]; simp [embR, tab, List.range_succ])
      rw [hy]
      refine ⟨_, rfl, q1, fun q hq => ?_, fun q hq hqn => ?_⟩
      · by_cases e : q = i
        · subst e; exact q3
        · rw [q2 q e]; exact h2 q (by omega)
      · rw [q2 q (by omega)]; exact h3 q (by omega) hqn)
  rw [hy]
  simp only [Option.some.injEq]
  exact list_ext [] (by simp [h1, EmbT]) fun i hi => by rw [h2 i (by omega)]; unfold EmbT; rw [tab_getD (by omega)]

open Classical in
theorem isCong {t : List (List Int)} {n : Nat} {T : Nat → Nat → Nat} (h : Sg t n T) (p : List Int) : P_congr_IsCongruence t p 0 = some (decide (CongL n T 0 p)) := by
  unfold P_congr_IsCongruence
  rw [validate, h.valid]
  simp only [Option.bind_some, decide_true, if_true]
  rw [if_pos (by decide), if_pos (by decide), is_spec h.toTab]
  rfl
open Classical in
theorem embed {t : List (List Int)} {n : Nat} {T : Nat → Nat → Nat} (h : Sg t n T) (list : List (List Int)) (hlen : list.length ≤ 160000) :
    P_subdirect_Embed t list = some (if ∀ k, k < list.length → CongL n T 0 (list.getD k []) then EmbT n list else []) := by
  have h400 := h.le
  unfold P_subdirect_Embed
  rw [validate, h.valid, h.len]
  simp only [Option.bind_some, decide_true, Bool.not_true, Bool.false_eq_true, if_false]
  rw [look_const (ok := fun k => CongL n T 0 (list.getD k [])) (b := []) fun k hk => by
    unfold P_subdirect_Embed_l7
    rw [gi_lt [] hk]
    simp only [Option.bind_some]
    rw [isCong h]
    by_cases hC : CongL n T 0 (list.getD k [])
    · rw [decide_eq_true hC, if_pos hC]; rfl
    · rw [decide_eq_false hC, if_neg hC]; rfl]
  by_cases hA : ∀ k, k < list.length → CongL n T 0 (list.getD k [])
  · rw [if_pos hA, if_pos hA]
    simp only [Option.bind_some]
    rw [mkz_ok (by omega) (by omega)]
    simp only [Option.bind_some, List.length_replicate]
    have := emb_loop (n := n) hlen (f := fun i k x => P_subdirect_Embed_l54 i list k x) (fun i k X hi hk hX hXl => by
      have hpl := (hA k hk).1
      unfold P_subdirect_Embed_l54
      rw [gi_lt [] hk, gi_lt [] (by omega)]
      simp only [Option.bind_some]
      rw [gi_lt 0 (by omega)]
      simp only [Option.bind_some]
      rw [pus_ok (by simp only [List.length_cons, List.length_nil]; omega) (by omega)]
      rfl)
    show Option.bind (forS n (fun i X => Option.bind (forS list.length (fun k Y => P_subdirect_Embed_l54 i list k Y) X) fun z => some z) (List.replicate n [])) _ = _
    rw [this]
    rfl
  · rw [if_neg hA, if_neg hA]
    rfl
theorem ref_embed {t : List (List Int)} {n : Nat} {T : Nat → Nat → Nat} (h : Sg t n T) (list : List (List Int)) (hlen : list.length ≤ 160000) (hA : ∀ k, k < list.length → CongL n T 0 (list.getD k [])) :
    P_semigroupref22_Embed t list = some (EmbT n list) := by
  have h400 := h.le
  unfold P_semigroupref22_Embed
  rw [h.len, mkz_ok (by omega) (by omega)]
  simp only [Option.bind_some]
  have := emb_loop (n := n) hlen (f := fun i k x => P_semigroupref22_Embed_l24 i list k x) (fun i k X hi hk hX hXl => by
    have hpl := (hA k hk).1
    unfold P_semigroupref22_Embed_l24
    rw [gi_lt [] hk, gi_lt [] (by omega)]
    simp only [Option.bind_some]
    rw [gi_lt 0 (by omega)]
    simp only [Option.bind_some]
    rw [pus_ok (by simp only [List.length_cons, List.length_nil]; omega) (by omega)]
    rfl)
  show Option.bind (forS n (fun i X => Option.bind (forS list.length (fun k Y => P_semigroupref22_Embed_l24 i list k Y) X) fun z => some z) (List.replicate n [])) _ = _
  rw [this]
  rfl
theorem sameRows_self (A : List (List Int)) : P_semigroupref03_SameRows A A = some true := by
  unfold P_semigroupref03_SameRows
  simp only [decide_true, Bool.not_true, Bool.false_eq_true, if_false]
  rw [look_const (ok := fun _ => True) (b := false) fun k hk => by
    unfold P_semigroupref03_SameRows_l5
    rw [gi_lt [] hk]
    simp only [Option.bind_some]
    rw [same]
    simp only [Option.bind_some, decide_true, Bool.not_true, Bool.false_eq_true, if_false, if_true]]
  rw [if_pos (fun _ _ => trivial)]
  rfl

theorem emb_at {n : Nat} {l : List (List Int)} {x : Nat} (hx : x < n) : (EmbT n l).getD x [] = embR l x l.length := by unfold EmbT; rw [tab_getD hx]
theorem embR_at {l : List (List Int)} {x k : Nat} (hk : k < l.length) : (embR l x l.length).getD k 0 = (l.getD k []).getD x 0 := by unfold embR; rw [tab_getD hk]

theorem emb_core {t : List (List Int)} {n : Nat} {T : Nat → Nat → Nat} (h : Sg t n T) {l : List (List Int)} (hC : ChkP n T l) {x y : Nat} (hx : x < n) (hy : y < n) :
    P_semigrouplaw22_SubdirectEmbeds_l157 x (l, 0) (EmbT n l) t (tab l.length fun k => quoL T (l.getD k [])) y = some (.go ()) := by
  have hEl : (EmbT n l).length = n := by simp [EmbT]
  have hRl : ∀ z, (embR l z l.length).length = l.length := fun z => by simp [embR]
  have gE : ∀ z : Nat, z < n → gi (EmbT n l) (z : Int) = some (embR l z l.length) := fun z hz => by rw [gi_lt [] (by omega), emb_at hz]
  have gR : ∀ z k : Nat, k < l.length → gi (embR l z l.length) (k : Int) = some ((l.getD k []).getD z 0) := fun z k hk => by rw [gi_lt 0 (by rw [hRl]; exact hk), embR_at hk]
  unfold P_semigrouplaw22_SubdirectEmbeds_l157
  simp only [gE x hx, gE y hy, Option.bind_some, hRl, decide_true, Bool.not_true]
  have hz : (if !decide ((x : Int) = (y : Int)) then Option.bind (P_semigroupref03_Same (embR l x l.length) (embR l y l.length)) fun r183 => if r183 then some true else some false else some false) = some false := by
    by_cases e : (x : Int) = (y : Int)
    · simp only [decide_eq_true e, Bool.not_true, Bool.false_eq_true, if_false]
    · have hne : embR l x l.length ≠ embR l y l.length := fun he => e (by
        have := hC.2.1 x y hx hy fun j hj _ => by rw [← embR_at hj, ← embR_at hj, he]
        omega)
      simp only [decide_eq_false e, Bool.not_false, if_true]
      rw [same, decide_eq_false hne]
      rfl
  rw [hz]
  simp only [Option.bind_some, Bool.false_eq_true, if_false, tab_length]
  rw [look_const (ok := fun _ => True) (b := false) fun k hk => by
    have hF := (hC.1 k hk).1
    have hv := hF.2.1
    have hl := hF.1
    have nx := ncl_lt hv (k := x) (by omega)
    have ny := ncl_lt hv (k := y) (by omega)
    have hxy := h.lt x y hx hy
    have nxy := ncl_lt hv (k := T x y) (by omega)
    unfold P_semigrouplaw22_SubdirectEmbeds_l208
    rw [gi_lt [] (by simpa using hk), tab_getD hk, h.gi1 hx]
    simp only [Option.bind_some]
    rw [h.gi2 hx hy]
    simp only [Option.bind_some]
    rw [gE _ hxy]
    simp only [Option.bind_some, gR _ k hk, gE x hx, gE y hy]
    rw [gi_int [] nx.1 (by simp only [quoL, tab_length]; omega)]
    simp only [Option.bind_some]
    have e1 : (quoL T (l.getD k [])).getD ((l.getD k []).getD x 0).toNat [] = tab (ncl (l.getD k [])) fun j => (quoT T (l.getD k []) ((l.getD k []).getD x 0).toNat j : Int) := by unfold quoL; rw [tab_getD (by omega)]
    rw [e1, gi_int 0 ny.1 (by simp only [tab_length]; omega), tab_getD (by omega)]
    simp only [Option.bind_some]
    rw [quo_hom hF h.lt hx hy, Int.toNat_of_nonneg nxy.1]
    simp only [decide_true, Bool.not_true, Bool.false_eq_true, if_false, if_true]]
  rw [if_pos (fun _ _ => trivial)]
  rfl

open Classical in
theorem SubdirectEmbeds (t list : List (List Int)) : P_semigrouplaw22_SubdirectEmbeds t list = some true := by
  unfold P_semigrouplaw22_SubdirectEmbeds
  rw [large, awake]
  simp only [Option.bind_some]
  cases decide ((7 : Int) < (t.length : Int) ∧ shapeM t = 0) with
  | true => rfl
  | false =>
    simp only [Bool.false_eq_true, if_false, Option.bind_some]
    by_cases c8 : (8 : Int) < (list.length : Int)
    · rw [if_pos (decide_eq_true c8)]
    · rw [if_neg (by simpa using c8), ref_Valid]
      simp only [Option.bind_some]
      by_cases hv : validM t = 0
      · have h := valid_sg.1 hv
        rw [embed h list (by omega), decide_eq_true hv]
        simp only [Option.bind_some]
        have hmay : forS list.length (fun k x => P_semigrouplaw22_SubdirectEmbeds_l25 list t k x) true = some (decide (∀ k, k < list.length → CongL t.length (natT t) 0 (list.getD k []))) := by
          obtain ⟨y, hy, hQ⟩ := forS_inv (n := list.length) (f := fun k x => P_semigrouplaw22_SubdirectEmbeds_l25 list t k x) (x := true) (fun m x => x = decide (∀ k, k < m → CongL t.length (natT t) 0 (list.getD k []))) (by
            symm; exact decide_eq_true fun k hk => by omega) (by
              rintro k _ hk rfl
              unfold P_semigrouplaw22_SubdirectEmbeds_l25
              rw [gi_lt [] hk]
              simp only [Option.bind_some]
              by_cases hA : ∀ j, j < k → CongL t.length (natT t) 0 (list.getD j [])
              · rw [if_pos (decide_eq_true hA), ref_isCong h]
                refine ⟨_, rfl, ?_⟩
                rw [decide_eq_decide]
                constructor
                · rintro ⟨a, _⟩ j hj
                  rcases Nat.lt_or_ge j k with h5 | h5
                  · exact hA j h5
                  · have : j = k := by omega
                    subst this; exact a
                · intro a; exact ⟨a k (by omega), by omega, by omega⟩
              · rw [if_neg (by simpa using hA)]
                refine ⟨_, rfl, ?_⟩
                symm; exact decide_eq_false fun a => hA fun j hj => a j (by omega))
          rw [hy, hQ]
        rw [hmay]
        simp only [Option.bind_some]
        by_cases hA : ∀ k, k < list.length → CongL t.length (natT t) 0 (list.getD k [])
        · rw [decide_eq_true hA, if_pos hA]
          simp only [Bool.not_true, Bool.false_eq_true, if_false]
          rw [ref_embed h list (by omega) hA]
          simp only [Option.bind_some]
          rw [sameRows_self]
          simp only [Option.bind_some, Bool.not_true, Bool.false_eq_true, if_false]
          obtain ⟨l, e, hC, hlen⟩ := decompose h
          rw [e]
          simp only [Option.bind_some]
          rw [embed h l hlen, if_pos (fun k hk => (hC.1 k hk).1)]
          have hEl : (EmbT t.length l).length = t.length := by simp [EmbT]
          simp only [Option.bind_some, decide_true, Bool.not_true, Bool.false_eq_true, if_false, hEl]
          have hq : forR l.length (fun k x => P_semigrouplaw22_SubdirectEmbeds_l94 (l, 0) t k x) [] = some (.inl (tab l.length fun k => quoL (natT t) (l.getD k []))) := by
            obtain ⟨y, hy, hQ⟩ := forR_inv (n := l.length) (f := fun k x => P_semigrouplaw22_SubdirectEmbeds_l94 (l, 0) t k x) (x := []) (fun m X => X = tab m fun k => quoL (natT t) (l.getD k [])) (fun o => o = .inl (tab l.length fun k => quoL (natT t) (l.getD k []))) (by simp [tab]) (by
              rintro k _ hk rfl
              unfold P_semigrouplaw22_SubdirectEmbeds_l94
              rw [gi_lt [] hk]
              simp only [Option.bind_some]
              rw [quotient h, if_pos (hC.1 k hk).1]
              simp only [Option.bind_some, decide_true, Bool.not_true, Bool.false_eq_true, if_false]
              rw [pus_ok (by simp only [tab_length, List.length_cons, List.length_nil]; omega) (by omega)]
              exact .inl ⟨_, rfl, by simp [tab, List.range_succ]⟩) (by rintro _ rfl; rfl)
            rw [hy, hQ]
          rw [hq]
          simp only [Option.bind_some]
          rw [look_const (ok := fun _ => True) (b := false) fun x hx => by
            unfold P_semigrouplaw22_SubdirectEmbeds_l147
            rw [look_const (ok := fun _ => True) (b := false) fun y hy => by
              rw [emb_core h hC hx hy, if_pos trivial]]
            rw [if_pos (fun _ _ => trivial), if_pos trivial]
            rfl]
          rw [if_pos (fun _ _ => trivial)]
          rfl
        · rw [decide_eq_false hA, if_neg hA]
          rfl
      · have e : P_subdirect_Embed t list = some [] := by
          unfold P_subdirect_Embed
          rw [validate]
          simp only [Option.bind_some]
          rw [decide_eq_false hv]
          rfl
        rw [e, decide_eq_false hv]
        have hmay : forS list.length (fun k x => P_semigrouplaw22_SubdirectEmbeds_l25 list t k x) false = some false := by
          obtain ⟨y, hy, hQ⟩ := forS_inv (n := list.length) (f := fun k x => P_semigrouplaw22_SubdirectEmbeds_l25 list t k x) (x := false) (fun m x => x = false) rfl (by
            rintro k _ hk rfl
            unfold P_semigrouplaw22_SubdirectEmbeds_l25
            rw [gi_lt [] hk]
            exact ⟨_, rfl, rfl⟩)
          rw [hy, hQ]
        simp only [Option.bind_some]
        rw [hmay]
        rfl
end Go.Proofs.Ytmdpejgnkoneoaa.Mt
