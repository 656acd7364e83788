/- Part 13 of the proof that the law SubdirectTurned holds: words and lemmas it rests on. No condition. -/
import Derived.Test.YtmdpejgnkoneoaaT12
import Derived.Test.YtmdpejgnkoneoaaT3
import Derived.Test.YtmdpejgnkoneoaaT5
import Derived.Test.YtmdpejgnkoneoaaT11
import Derived.SizedLaws
import Derived.ChangeArms
set_option linter.unusedSimpArgs false
set_option linter.unusedVariables false
set_option linter.unnecessarySimpa false
set_option linter.unusedSectionVars false
namespace Go.Proofs.Ytmdpejgnkoneoaa.Mt
open Go Go.AM Go.AM.Par Go.AM.Cg Go.AM.Lx Go.Proofs.Ytmdpejgnkoneoaa.Pu

theorem chk_same (t l : List (List Int)) : ∃ r, P_subdirect_Check t l = some r ∧ P_semigroupref22_Check t l = some r := by
  by_cases hv : validM t = 0
  · have h := valid_sg.1 hv
    exact ⟨_, check h l, ref_check h l⟩
  · refine ⟨false, ?_, ?_⟩
    · unfold P_subdirect_Check
      rw [validate]
      simp only [Option.bind_some]
      rw [decide_eq_false hv]
      rfl
    · unfold P_semigroupref22_Check
      rw [ref_Valid]
      simp only [Option.bind_some]
      rw [decide_eq_false hv]
      rfl
end Go.Proofs.Ytmdpejgnkoneoaa.Mt
namespace Go.AM
variable {α : Type} [Rp α] {G : List Frag} {W H : AH} {v : AV} {L : List α}

def and64 (x y : Int) : Int := IntKind.wrap .i64 ((BitVec.ofInt (IntKind.bits .i64) x &&& BitVec.ofInt (IntKind.bits .i64) y).toNat)
theorem abin_and64 (x y : Int) : abin .and (.int .i64 x) (.int .i64 y) = some (.int .i64 (and64 x y)) := rfl

def Full (v : AV) : Prop := v = .nils ∨ ∃ o off len sz, v = .sli o off len sz (some len)

theorem fz_cut3 {n : Nat} {i : Int} {kl kh : IntKind} (hn : Rp.sz α = n) {L' : List α} (h : Rp.rv W v L) (hx : sub L none (some i) = some L') :
    ∃ v', slv n v none (some (.int kl i)) (some (.int kh i)) = some v' ∧ Rp.rv W v' L' ∧ Full v' := by
  subst hn
  simp only [sub, bd, Option.bind_eq_some_iff, Option.map_eq_some_iff] at hx
  obtain ⟨m, hm, l, hl, rfl⟩ := hx
  cases hl
  split at hm
  · rename_i h0
    cases hm
    rw [List.drop_zero]
    have hlen : (L.take i.toNat).length = i.toNat := by rw [List.length_take]; omega
    rcases (show SlR W v L from h) with ⟨rfl, rfl⟩ | ⟨o, off, c, r, w, rfl, h1, h2, h3, hch⟩
    · simp only [List.length_nil] at h0
      refine ⟨.nils, ?_, .inl ⟨rfl, by simp⟩, .inl rfl⟩
      have : i = 0 := by omega
      subst this
      simp [slv, bndV]
    · have hfit := h2.fit
      have htop : i ≤ (c.getD L.length : Nat) := by omega
      have hmul := Nat.mul_le_mul_right (Rp.sz α) (show i.toNat ≤ L.length by omega)
      refine ⟨.sli o off i.toNat (Rp.sz α) (some i.toNat), ?_, .inr ⟨o, off, some i.toNat, r, w, by rw [hlen], h1, ⟨by rw [hlen]; omega, fun j hj => ?_⟩, by rw [hlen]; omega, by rw [hlen]; simp⟩, .inr ⟨o, off, i.toNat, Rp.sz α, rfl⟩⟩
      · simp only [slv, bndV, ne_eq, not_true_eq_false, if_false]
        rw [if_pos ⟨h0.1, htop⟩]
        simp only []
        rw [if_pos ⟨h0.1, by omega⟩]
        simp
      · rw [List.getElem_take]
        exact h2.el j (by rw [hlen] at hj; omega)
  · cases hm

theorem fz_app {w : AV} {M L' : List α} {cs : List AV} {b : Nat} (z : List AV) (hz : z.length = Rp.sz α) (hst : St G W H) (h : Rp.rv W v L) (hf : Full v) (hs : Sn α W H w M cs) (hx : pus b L M = some L') :
    ∃ v' H' W', ap z b v w H = some (v', H') ∧ Wle W W' ∧ St G W' H' ∧ Rp.rv W' v' L' := by
  obtain ⟨rfl, hb, hmx⟩ := pus_some hx
  have e : ap z b v w H = aappend z b v cs M.length H := by simp only [ap, hz, hs.seen, hs.len]
  rw [e]
  have hzp : 0 < z.length := by rw [hz]; exact Rp.pos
  have hcl := hs.ln
  rcases Nat.eq_zero_or_pos M.length with h0 | hpos
  · have hM : M = [] := List.length_eq_zero_iff.1 h0
    subst hM
    simp only [List.append_nil]
    rcases (show SlR W v L from h) with ⟨rfl, rfl⟩ | ⟨o, off, c, r, w, rfl, h1, h2, h3, hch⟩
    · exact ⟨.nils, H, W, by simp only [aappend]; rw [if_neg (by omega), if_pos (by rfl)], .refl _, hst, .inl ⟨rfl, rfl⟩⟩
    · refine ⟨_, H, W, ?_, .refl _, hst, .inr ⟨o, off, c, r, w, rfl, h1, h2, h3, hch⟩⟩
      simp only [aappend]
      rw [if_neg (by omega), if_neg (by simpa using hz.symm), if_pos (by rfl), hz]
  · rcases (show SlR W v L from h) with ⟨rfl, rfl⟩ | ⟨o, off, c, r, w, rfl, h1, h2, h3, hch⟩
    · have key : St ([(H.length, .row cs true)] :: G) (W ++ [.dead]) (H ++ [.row cs true]) := hst.new _
      have ho : OwS (W ++ [.dead]) (.sli H.length 0 M.length (Rp.sz α) none) [(H.length, .row cs true)] M := .inr ⟨H.length, none, cs, by simp, rfl, hs.el.mono (Wle.app _ _), by simpa using hmx, by simp⟩
      obtain ⟨W', a, b', c'⟩ := ow_frz key ho
      refine ⟨_, _, W', ?_, (Wle.app _ _).trans a, b', by simpa using c'⟩
      simp only [aappend]
      rw [if_neg (by omega), if_neg (by omega), if_pos ⟨by simpa using hb, by simpa using hmx⟩, hz]
      rfl
    · have hc : c = some L.length := by
        rcases hf with h5 | ⟨o', off', len, sz, h5⟩
        · cases h5
        · injection h5 with _ _ q1 _ q2; rw [q2, ← q1]
      subst hc
      have hr := hst.frz _ _ h1 (by simp)
      have hfit := h2.fit
      have key : St ([(H.length, .row ((r.drop off).take (L.length * Rp.sz α) ++ cs) true)] :: G) (W ++ [.dead]) (H ++ [.row ((r.drop off).take (L.length * Rp.sz α) ++ cs) true]) := hst.new _
      have hel : SlC W ((r.drop off).take (L.length * Rp.sz α)) 0 L := ⟨by simp only [List.length_take, List.length_drop]; omega, fun i hi => by rw [cv_part hi h2.fit]; exact h2.el i hi⟩
      have ho : OwS (W ++ [.dead]) (.sli H.length 0 (L.length + M.length) (Rp.sz α) none) [(H.length, .row ((r.drop off).take (L.length * Rp.sz α) ++ cs) true)] (L ++ M) :=
        .inr ⟨H.length, none, _, by rw [List.length_append], rfl, SlC.append (hel.mono (Wle.app _ _)) (hs.el.mono (Wle.app _ _)) (by simp only [List.length_take, List.length_drop]; omega), by rw [List.length_append]; exact hmx, by simp⟩
      obtain ⟨W', a, b', c'⟩ := ow_frz key ho
      refine ⟨_, _, W', ?_, (Wle.app _ _).trans a, b', c'⟩
      simp only [aappend]
      rw [if_neg (by omega), if_neg (by simpa using hz.symm), if_neg (by omega)]
      simp only [rowAt, hr, hz, Option.getD_some]
      rw [if_neg (fun h => by omega), if_pos ⟨hfit, hb, hmx⟩, if_pos (by omega)]
      rfl
end Go.AM
set_option maxRecDepth 100000
set_option maxHeartbeats 4000000
namespace Go.Proofs.Ytmdpejgnkoneoaa.Pu
open Go Go.AM Go.Proofs.Ytmdpejgnkoneoaa.Code

noncomputable def P_semigroupref03_Copy_l2 (a : List (List Int)) (k5 : Nat) (x4 : List (List Int)) : Option ((List (List Int))) :=
 Option.bind (gi a (k5 : Int)) fun x16 =>
 Option.bind (pus 8 [] x16) fun x34 =>
 Option.bind (pus 24 x4 [x34]) fun x55 =>
 some x55
noncomputable def P_semigroupref03_Copy (a : List (List Int)) : Option ((List (List Int))) :=
 Option.bind (forS a.length (fun k x => P_semigroupref03_Copy_l2 a k x) []) fun z9 =>
 some z9
theorem R_semigroupref03_Copy {G : List Frag} {W H : AH} {v_0 : AV} {a : List (List Int)} (hst : St G W H) (h_0 : Rp.rv W v_0 a) {r : (List (List Int))} (hp : P_semigroupref03_Copy a = some r) :
  wpc E0 N_semigroupref03_Copy [v_0] H fun rv H' => ∃ W', Wle W W' ∧ ∃ (g0 : Frag), St (g0 :: G) W' H' ∧ OwS W' rv g0 (r : List (List Int)) := by
 refine enterN (F := f_semigroupref03_Copy) rfl (Nat.le_of_ble_eq_true rfl) fun s hl hg => ?_;replace hl : s.length = 20 := hl;have g0 : gt s 0 = v_0 := hg 0 (Nat.le_of_ble_eq_true rfl);clear hg;unfold P_semigroupref03_Copy at hp;show wp E0 c_semigroupref03_Copy s H _;unfold c_semigroupref03_Copy;refine AM.wp_seq hp0 (AM.wp_reg hp0 ?_);refine wpo_seg hp0 1 (fun s H' => s.length = 20 ∧ gt s 0 = v_0 ∧ H = H') (by simp only [↓runs, isCall, ↓reduceIte, ↓gd_true, ↓gd_false, evs, AV.cells, Nat.reduceEqDiff, Nat.reduceLT, reduceCtorEq, Nat.reduceAdd, sy, g0, hl]) ?_;rintro s _ ⟨hl, g0, rfl⟩;refine wpo_nil (then_n ?_);refine AM.wp_seq hp0 (AM.wp_reg hp0 ?_);refine wpo_seg hp0 1 (fun s H' => s.length = 20 ∧ gt s 0 = v_0 ∧ gt s 3 = .nils ∧ H = H') (by simp only [↓runs, isCall, ↓reduceIte, ↓gd_true, ↓gd_false, evs, AV.cells, Nat.reduceEqDiff, Nat.reduceLT, reduceCtorEq, Nat.reduceAdd, sy, g0, hl]) ?_;rintro s _ ⟨hl, g0, g3, rfl⟩;refine wpo_nil (then_n ?_);refine AM.wp_seq hp0 (AM.wp_seq hp0 (AM.wp_reg hp0 ?_));have f1 := fz_ln h_0;refine wpo_seg hp0 3 (fun s H' => s.length = 20 ∧ gt s 3 = .nils ∧ gt s 6 = v_0 ∧ gt s 7 = .int .i64 (a.length : Int) ∧ gt s 8 = .int .i64 0 ∧ H = H') (by simp only [↓runs, isCall, ↓reduceIte, ↓gd_true, ↓gd_false, evs, AV.cells, Nat.reduceEqDiff, Nat.reduceLT, reduceCtorEq, Nat.reduceAdd, sy, f1, g0, g3, hl]) ?_;rintro s _ ⟨hl, g3, g6, g7, g8, rfl⟩;refine wpo_nil (then_n ?_);replace hst := hst.nil;have o3 := ow_nil (α := List Int) W;obtain ⟨z9, e10, hp⟩ := bn hp;refine rangeS_ref hp0 20 a.length (fun k x => P_semigroupref03_Copy_l2 a k x) (fun _ x s H' => ∃ (W' : AH) (w3 : AV) (q3 : Frag), s.length = 20 ∧ gt s 3 = w3 ∧ gt s 6 = v_0 ∧  Wle W W' ∧ St (q3 :: G) W' H' ∧ OwS W' w3 q3 (x : List (List Int))) e10 (fz_big h_0) rfl ?_ ?_ hl g8 g7 ?_ ?_
 ·intro k x s H d v hd h; rcases hd with rfl | rfl | rfl <;> simpa only [gt_other, pt_length, Nat.reduceEqDiff, not_false_eq_true] using h
 ·exact ⟨W, _, _, hl, g3, g6, .refl _, hst, o3⟩
 ·intro k5 x4 y6 s H hk hI hl g8 g7 hy7;change P_semigroupref03_Copy_l2 a k5 x4 = some y6 at hy7;unfold P_semigroupref03_Copy_l2 at hy7;obtain ⟨W, v13, fg14, hl, g3, g6, w12, hst, o15⟩ := hI;replace h_0 := Rp.mono w12 h_0;refine AM.wp_seq hp0 (AM.wp_reg hp0 ?_);obtain ⟨x16, e17, hy7⟩ := bn hy7;obtain ⟨p18, y19, f20, f21, h22⟩ := fz_at (k := .i64) hst h_0 e17 rfl;refine wpo_seg hp0 3 (fun s H' => s.length = 20 ∧ gt s 3 = v13 ∧ gt s 5 = y19 ∧ gt s 6 = v_0 ∧ gt s 7 = .int .i64 (a.length : Int) ∧ gt s 8 = .int .i64 (k5 : Int) ∧ H = H') (by simp only [↓runs, isCall, ↓reduceIte, ↓gd_true, ↓gd_false, evs, AV.cells, Nat.reduceEqDiff, Nat.reduceLT, reduceCtorEq, Nat.reduceAdd, sy, f20, f21, g3, g6, g7, g8, hl]) ?_;rintro s _ ⟨hl, g3, g5, g6, g7, g8, rfl⟩;refine wpo_nil (then_n ?_);refine AM.wp_reg hp0 ?_;obtain ⟨v23, l24, H25, fg26, W, f28, f29, f30, w27, hst, o31⟩ := ow_lit' (n := 1) (k := 0) (z := []) (ys := []) (M := ([] : List (Int))) [] rfl rfl hst (sc_nil) ( fun _ h => (List.not_mem_nil h).elim) rfl rfl rfl (by decide);replace h_0 := Rp.mono w27 h_0;replace h22 := Rp.mono w27 h22;replace o15 := o15.mono w27;obtain ⟨c32, sn33⟩ := fz_sn hst h22;obtain ⟨x34, e35, hy7⟩ := bn hy7;obtain ⟨v36, H37, fg38, W, f40, w39, hst, o41⟩ := ow_apps [.int .i64 0] rfl hst o31 sn33 e35;replace h_0 := Rp.mono w39 h_0;replace h22 := Rp.mono w39 h22;replace o15 := o15.mono w39;obtain ⟨W, w43, hst, h42⟩ := ow_frz hst o41;replace h_0 := Rp.mono w43 h_0;replace h22 := Rp.mono w43 h22;replace o15 := o15.mono w43;obtain ⟨v44, l45, H46, fg47, W, f49, f50, f51, w48, hst, o52⟩ := ow_lit' (n := 1) (k := 1) (z := [.nils]) (ys := [v36]) (M := ([x34] : List (List Int))) [(0, 1, v36)] rfl rfl hst (sc_cons (show Rp.rv _ (v36) (x34 : List Int) from h42) (sc_nil)) ((List.forall_mem_cons.2 ⟨(Rp.cells (show Rp.rv W (v36) (x34 : List Int) from h42)), fun _ h => (List.not_mem_nil h).elim⟩)) rfl rfl rfl (by decide);replace h_0 := Rp.mono w48 h_0;replace h22 := Rp.mono w48 h22;replace h42 := Rp.mono w48 h42;replace o15 := o15.mono w48;obtain ⟨c53, sn54⟩ := ow_sn hst (.head _) o52;obtain ⟨x55, e56, hy7⟩ := bn hy7;replace hst := hst.p1;obtain ⟨v57, H58, fg59, W, f61, w60, hst, o62⟩ := ow_apps [.nils] rfl hst o15 sn54 e56;replace h_0 := Rp.mono w60 h_0;replace h22 := Rp.mono w60 h22;replace h42 := Rp.mono w60 h42;replace o52 := o52.mono w60;refine wpo_seg hp0 7 (fun s H' => s.length = 20 ∧ gt s 3 = v57 ∧ gt s 6 = v_0 ∧ gt s 7 = .int .i64 (a.length : Int) ∧ gt s 8 = .int .i64 (k5 : Int) ∧ H58 = H') (by simp only [↓runs, isCall, ↓reduceIte, ↓gd_true, ↓gd_false, evs, AV.cells, Nat.reduceEqDiff, Nat.reduceLT, reduceCtorEq, Nat.reduceAdd, sy, f28, f29, f30, f40, f49, f50, f51, f61, g3, g5, g6, g7, g8, hl]) ?_;rintro s _ ⟨hl, g3, g6, g7, g8, rfl⟩;refine wpo_nil ?_;refine rnd_n ?_;obtain rfl := Option.some.inj hy7;replace hst := hst.p1;replace hst := hst.drop;exact ⟨hl, g8, g7, ⟨W, _, _, hl, g3, g6, (((((w12.trans w27).trans w39).trans w43).trans w48).trans w60), hst, o62⟩⟩
 ·rintro s H hI _;obtain ⟨W, v64, fg65, hl, g3, g6, w63, hst, o66⟩ := hI;replace h_0 := Rp.mono w63 h_0;refine then_n ?_;refine AM.wp_seq hp0 (AM.wp_reg hp0 ?_);refine wpo_seg hp0 2 (fun s H' => s.length = 20 ∧ gt s 2 = v64 ∧ H = H') (by simp only [↓runs, isCall, ↓reduceIte, ↓gd_true, ↓gd_false, evs, AV.cells, Nat.reduceEqDiff, Nat.reduceLT, reduceCtorEq, Nat.reduceAdd, sy, g3, g6, hl]) ?_;rintro s _ ⟨hl, g2, rfl⟩;refine wpo_nil (then_n ?_);refine AM.wp_ret ?_;obtain rfl := Option.some.inj hp;refine body_ret (vs := [v64]) (by simp only [rvs, f_semigroupref03_Copy, Option.map_some, g2]) ?_;exact ⟨W, w63, _, hst, o66⟩

end Go.Proofs.Ytmdpejgnkoneoaa.Pu
set_option maxRecDepth 100000
set_option maxHeartbeats 4000000
namespace Go.Proofs.Ytmdpejgnkoneoaa.Pu
open Go Go.AM Go.Proofs.Ytmdpejgnkoneoaa.Code

noncomputable def P_semigrouplaw22_SubdirectTurned (t : List (List Int)) (what : Int) (at_ : Int) (p_ : List Int) : Option (Bool) :=
 Option.bind (P_semigrouplaw22_small t 7) fun r1 =>
 if !r1 then
  Option.bind (P_semigrouplaw22_awake) fun r6 =>
  some r6
 else
  Option.bind (P_subdirect_Decompose t) fun r10 =>
  if !decide (r10.2 = 0) then
   some false
  else
   Option.bind (P_semigroupref03_Copy r10.1) fun r20 =>
   if decide (0 < (r20.length : Int)) then
    Option.bind (dvr at_ (r20.length : Int)) fun x31 =>
    Option.bind (dvr (w64 (x31 + (r20.length : Int))) (r20.length : Int)) fun x38 =>
    if decide ((and64 what 3) = 0) then
     Option.bind (sub r20 none (some x38)) fun x44 =>
     Option.bind (sub r20 (some (w64 (x38 + 1))) none) fun x50 =>
     Option.bind (pus 24 x44 x50) fun x57 =>
     Option.bind (
      Option.bind (P_subdirect_Check t x57) fun r66 =>
      Option.bind (P_semigroupref22_Check t x57) fun r70 =>
      if (r66 == r70) then
       Option.bind (P_semigrouplaw22_awake) fun r75 =>
       some r75
      else
       some false) fun z64 =>
     some z64
    else
     if decide ((and64 what 3) = 1) then
      Option.bind (gi r20 x38) fun x81 =>
      Option.bind (pus 24 r20 [x81]) fun x99 =>
      Option.bind (
       Option.bind (P_subdirect_Check t x99) fun r109 =>
       Option.bind (P_semigroupref22_Check t x99) fun r119 =>
       if (r109 == r119) then
        Option.bind (P_semigrouplaw22_awake) fun r124 =>
        some r124
       else
        some false) fun z107 =>
      some z107
     else
      if decide ((and64 what 3) = 2) then
       Option.bind (pus 8 [] p_) fun x141 =>
       Option.bind (si r20 x38 x141) fun x151 =>
       Option.bind (
        Option.bind (P_subdirect_Check t x151) fun r161 =>
        Option.bind (P_semigroupref22_Check t x151) fun r171 =>
        if (r161 == r171) then
         Option.bind (P_semigrouplaw22_awake) fun r176 =>
         some r176
        else
         some false) fun z159 =>
       some z159
      else
       Option.bind (
        Option.bind (P_subdirect_Check t r20) fun r183 =>
        Option.bind (P_semigroupref22_Check t r20) fun r193 =>
        if (r183 == r193) then
         Option.bind (P_semigrouplaw22_awake) fun r198 =>
         some r198
        else
         some false) fun z181 =>
       some z181
   else
    Option.bind (
     Option.bind (P_subdirect_Check t r20) fun r205 =>
     Option.bind (P_semigroupref22_Check t r20) fun r215 =>
     if (r205 == r215) then
      Option.bind (P_semigrouplaw22_awake) fun r220 =>
      some r220
     else
      some false) fun z203 =>
    some z203
theorem R_semigrouplaw22_SubdirectTurned {G : List Frag} {W H : AH} {v_0 v_3 : AV} {t : List (List Int)} {what : Int} {at_ : Int} {p_ : List Int} (hst : St G W H) (h_0 : Rp.rv W v_0 t) (h_3 : Rp.rv W v_3 p_) {r : Bool} (hp : P_semigrouplaw22_SubdirectTurned t what at_ p_ = some r) :
  wpc E0 N_semigrouplaw22_SubdirectTurned [v_0, .int .i64 what, .int .i64 at_, v_3] H fun rv H' => ∃ W', Wle W W' ∧ St G W' H' ∧ rv = .bool r := by
 refine enterN (F := f_semigrouplaw22_SubdirectTurned) rfl (Nat.le_of_ble_eq_true rfl) fun s hl hg => ?_;replace hl : s.length = 78 := hl;have g0 : gt s 0 = v_0 := hg 0 (Nat.le_of_ble_eq_true rfl);have g1 : gt s 1 = .int .i64 what := hg 1 (Nat.le_of_ble_eq_true rfl);have g2 : gt s 2 = .int .i64 at_ := hg 2 (Nat.le_of_ble_eq_true rfl);have g3 : gt s 3 = v_3 := hg 3 (Nat.le_of_ble_eq_true rfl);clear hg;unfold P_semigrouplaw22_SubdirectTurned at hp;show wp E0 c_semigrouplaw22_SubdirectTurned s H _;unfold c_semigrouplaw22_SubdirectTurned;refine AM.wp_seq hp0 (AM.wp_reg hp0 ?_);refine wpo_seg hp0 1 (fun s H' => s.length = 78 ∧ gt s 0 = v_0 ∧ gt s 1 = .int .i64 what ∧ gt s 2 = .int .i64 at_ ∧ gt s 3 = v_3 ∧ H = H') (by simp only [↓runs, isCall, ↓reduceIte, ↓gd_true, ↓gd_false, evs, AV.cells, Nat.reduceEqDiff, Nat.reduceLT, reduceCtorEq, Nat.reduceAdd, sy, g0, g1, g2, g3, hl]) ?_;rintro s _ ⟨hl, g0, g1, g2, g3, rfl⟩;refine wpo_nil (then_n ?_);refine AM.wp_seq hp0 (AM.wp_seq hp0 (AM.wp_reg hp0 ?_));refine wpo_seg hp0 1 (fun s H' => s.length = 78 ∧ gt s 0 = v_0 ∧ gt s 1 = .int .i64 what ∧ gt s 2 = .int .i64 at_ ∧ gt s 3 = v_3 ∧ gt s 12 = v_0 ∧ H = H') (by simp only [↓runs, isCall, ↓reduceIte, ↓gd_true, ↓gd_false, evs, AV.cells, Nat.reduceEqDiff, Nat.reduceLT, reduceCtorEq, Nat.reduceAdd, sy, g0, g1, g2, g3, hl]) ?_;rintro s _ ⟨hl, g0, g1, g2, g3, g12, rfl⟩;obtain ⟨r1, e2, hp⟩ := bn hp;refine wpo_callK hp0 rfl (ys := [v_0, .int .i64 7]) (by simp only [evs, List.map_cons, List.map_nil, ev_t, ev_c, g12]) (R_semigrouplaw22_small hst h_0 e2) ?_;rintro rv3 H ⟨W, w4, hst, rfl⟩;replace h_0 := Rp.mono w4 h_0;replace h_3 := Rp.mono w4 h_3;refine wpo_seg hp0 1 (fun s H' => s.length = 78 ∧ gt s 0 = v_0 ∧ gt s 1 = .int .i64 what ∧ gt s 2 = .int .i64 at_ ∧ gt s 3 = v_3 ∧ gt s 14 = .bool (!r1) ∧ H = H') (by simp only [↓runs, isCall, ↓reduceIte, ↓gd_true, ↓gd_false, evs, AV.cells, Nat.reduceEqDiff, Nat.reduceLT, reduceCtorEq, Nat.reduceAdd, sy, gt_other, g0, g1, g2, g3, g12, hl]) ?_;rintro s _ ⟨hl, g0, g1, g2, g3, g14, rfl⟩;refine wpo_nil (then_n ?_);rcases Bool.eq_false_or_eq_true (!r1) with c5 | c5
 ·replace hp := ifT c5 hp;refine AM.wp_condT (by simp only [ev_t, ev_c, g14, c5]) ?_;refine AM.wp_seq hp0 (AM.wp_reg hp0 ?_);obtain ⟨r6, e7, hp⟩ := bn hp;refine wpo_callK hp0 rfl (ys := []) (by simp only [evs, List.map_cons, List.map_nil, ev_t, ev_c]) (R_semigrouplaw22_awake hst e7) ?_;rintro rv8 H ⟨W, w9, hst, rfl⟩;replace h_0 := Rp.mono w9 h_0;replace h_3 := Rp.mono w9 h_3;refine wpo_seg hp0 1 (fun s H' => s.length = 78 ∧ gt s 8 = .bool r6 ∧ H = H') (by simp only [↓runs, isCall, ↓reduceIte, ↓gd_true, ↓gd_false, evs, AV.cells, Nat.reduceEqDiff, Nat.reduceLT, reduceCtorEq, Nat.reduceAdd, sy, gt_other, g0, g1, g2, g3, g14, hl]) ?_;rintro s _ ⟨hl, g8, rfl⟩;refine wpo_nil (then_n ?_);refine AM.wp_ret ?_;refine then_r ?_;obtain rfl := Option.some.inj hp;refine body_ret (vs := [.bool r6]) (by simp only [rvs, f_semigrouplaw22_SubdirectTurned, Option.map_some, g8]) ?_;exact ⟨W, (w4.trans w9), hst, rfl⟩
 ·replace hp := ifF c5 hp;refine AM.wp_condF (by simp only [ev_t, ev_c, g14, c5]) ?_;refine AM.wp_skip ?_;refine then_n ?_;refine AM.wp_seq hp0 (AM.wp_reg hp0 ?_);refine wpo_seg hp0 1 (fun s H' => s.length = 78 ∧ gt s 0 = v_0 ∧ gt s 1 = .int .i64 what ∧ gt s 2 = .int .i64 at_ ∧ gt s 3 = v_3 ∧ gt s 17 = v_0 ∧ H = H') (by simp only [↓runs, isCall, ↓reduceIte, ↓gd_true, ↓gd_false, evs, AV.cells, Nat.reduceEqDiff, Nat.reduceLT, reduceCtorEq, Nat.reduceAdd, sy, g0, g1, g2, g3, g14, hl]) ?_;rintro s _ ⟨hl, g0, g1, g2, g3, g17, rfl⟩;obtain ⟨r10, e11, hp⟩ := bn hp;refine wpo_callK hp0 rfl (ys := [v_0]) (by simp only [evs, List.map_cons, List.map_nil, ev_t, ev_c, g17]) (R_subdirect_Decompose hst h_0 e11) ?_;rintro rv12 H ⟨W, w13, v14, fg15, hst, rfl, o16⟩;replace h_0 := Rp.mono w13 h_0;replace h_3 := Rp.mono w13 h_3;refine wpo_seg hp0 5 (fun s H' => s.length = 78 ∧ gt s 0 = v_0 ∧ gt s 1 = .int .i64 what ∧ gt s 2 = .int .i64 at_ ∧ gt s 3 = v_3 ∧ gt s 9 = v14 ∧ gt s 10 = .int .i64 r10.2 ∧ H = H') (by simp only [↓runs, isCall, ↓reduceIte, ↓gd_true, ↓gd_false, evs, AV.cells, Nat.reduceEqDiff, Nat.reduceLT, reduceCtorEq, Nat.reduceAdd, sy, gt_other, g0, g1, g2, g3, g17, hl]) ?_;rintro s _ ⟨hl, g0, g1, g2, g3, g9, g10, rfl⟩;refine wpo_nil (then_n ?_);refine AM.wp_seq hp0 (AM.wp_seq hp0 (AM.wp_reg hp0 ?_));refine wpo_seg hp0 2 (fun s H' => s.length = 78 ∧ gt s 0 = v_0 ∧ gt s 1 = .int .i64 what ∧ gt s 2 = .int .i64 at_ ∧ gt s 3 = v_3 ∧ gt s 9 = v14 ∧ gt s 22 = .bool (!decide (r10.2 = 0)) ∧ H = H') (by simp only [↓runs, isCall, ↓reduceIte, ↓gd_true, ↓gd_false, evs, AV.cells, Nat.reduceEqDiff, Nat.reduceLT, reduceCtorEq, Nat.reduceAdd, sy, g0, g1, g2, g3, g9, g10, hl]) ?_;rintro s _ ⟨hl, g0, g1, g2, g3, g9, g22, rfl⟩;refine wpo_nil (then_n ?_);rcases Bool.eq_false_or_eq_true (!decide (r10.2 = 0)) with c17 | c17
  ·replace hp := ifT c17 hp;refine AM.wp_condT (by simp only [ev_t, ev_c, g22, c17]) ?_;refine AM.wp_seq hp0 (AM.wp_reg hp0 ?_);refine wpo_seg hp0 1 (fun s H' => s.length = 78 ∧ gt s 8 = .bool false ∧ H = H') (by simp only [↓runs, isCall, ↓reduceIte, ↓gd_true, ↓gd_false, evs, AV.cells, Nat.reduceEqDiff, Nat.reduceLT, reduceCtorEq, Nat.reduceAdd, sy, g0, g1, g2, g3, g9, g22, hl]) ?_;rintro s _ ⟨hl, g8, rfl⟩;refine wpo_nil (then_n ?_);refine AM.wp_ret ?_;refine then_r ?_;obtain rfl := Option.some.inj hp;replace hst := hst.drop;refine body_ret (vs := [.bool false]) (by simp only [rvs, f_semigrouplaw22_SubdirectTurned, Option.map_some, g8]) ?_;exact ⟨W, (w4.trans w13), hst, rfl⟩
  ·replace hp := ifF c17 hp;refine AM.wp_condF (by simp only [ev_t, ev_c, g22, c17]) ?_;refine AM.wp_skip ?_;refine then_n ?_;refine AM.wp_seq hp0 (AM.wp_reg hp0 ?_);refine wpo_seg hp0 1 (fun s H' => s.length = 78 ∧ gt s 0 = v_0 ∧ gt s 1 = .int .i64 what ∧ gt s 2 = .int .i64 at_ ∧ gt s 3 = v_3 ∧ gt s 9 = v14 ∧ gt s 23 = v14 ∧ H = H') (by simp only [↓runs, isCall, ↓reduceIte, ↓gd_true, ↓gd_false, evs, AV.cells, Nat.reduceEqDiff, Nat.reduceLT, reduceCtorEq, Nat.reduceAdd, sy, g0, g1, g2, g3, g9, g22, hl]) ?_;rintro s _ ⟨hl, g0, g1, g2, g3, g9, g23, rfl⟩;obtain ⟨W, w19, hst, h18⟩ := ow_frz hst o16;replace h_0 := Rp.mono w19 h_0;replace h_3 := Rp.mono w19 h_3;obtain ⟨r20, e21, hp⟩ := bn hp;refine wpo_callK hp0 rfl (ys := [v14]) (by simp only [evs, List.map_cons, List.map_nil, ev_t, ev_c, g23]) (R_semigroupref03_Copy hst h18 e21) ?_;rintro rv22 H ⟨W, w23, fg24, hst, o25⟩;replace h_0 := Rp.mono w23 h_0;replace h_3 := Rp.mono w23 h_3;replace h18 := Rp.mono w23 h18;refine wpo_seg hp0 1 (fun s H' => s.length = 78 ∧ gt s 0 = v_0 ∧ gt s 1 = .int .i64 what ∧ gt s 2 = .int .i64 at_ ∧ gt s 3 = v_3 ∧ gt s 9 = rv22 ∧ H = H') (by simp only [↓runs, isCall, ↓reduceIte, ↓gd_true, ↓gd_false, evs, AV.cells, Nat.reduceEqDiff, Nat.reduceLT, reduceCtorEq, Nat.reduceAdd, sy, gt_other, g0, g1, g2, g3, g9, g23, hl]) ?_;rintro s _ ⟨hl, g0, g1, g2, g3, g9, rfl⟩;refine wpo_nil (then_n ?_);refine AM.wp_seq hp0 (AM.wp_seq hp0 (AM.wp_reg hp0 ?_));have f26 := ow_ln o25;have b27 := ow_big o25;refine wpo_seg hp0 3 (fun s H' => s.length = 78 ∧ gt s 0 = v_0 ∧ gt s 1 = .int .i64 what ∧ gt s 2 = .int .i64 at_ ∧ gt s 3 = v_3 ∧ gt s 9 = rv22 ∧ gt s 27 = .bool (decide (0 < (r20.length : Int))) ∧ H = H') (by simp only [↓runs, isCall, ↓reduceIte, ↓gd_true, ↓gd_false, evs, AV.cells, Nat.reduceEqDiff, Nat.reduceLT, reduceCtorEq, Nat.reduceAdd, sy, f26, g0, g1, g2, g3, g9, hl]) ?_;rintro s _ ⟨hl, g0, g1, g2, g3, g9, g27, rfl⟩;refine wpo_nil (then_n ?_);rcases Bool.eq_false_or_eq_true (decide (0 < (r20.length : Int))) with c28 | c28
   ·replace hp := ifT c28 hp;refine AM.wp_condT (by simp only [ev_t, ev_c, g27, c28]) ?_;refine AM.wp_seq hp0 (AM.wp_reg hp0 ?_);have f29 := ow_ln o25;have b30 := ow_big o25;obtain ⟨x31, e32, hp⟩ := bn hp;have f33 := dvr_ok e32;have f34 := ow_ln o25;have b35 := ow_big o25;have f36 := ow_ln o25;have b37 := ow_big o25;obtain ⟨x38, e39, hp⟩ := bn hp;have f40 := dvr_ok e39;refine wpo_seg hp0 11 (fun s H' => s.length = 78 ∧ gt s 0 = v_0 ∧ gt s 1 = .int .i64 what ∧ gt s 3 = v_3 ∧ gt s 9 = rv22 ∧ gt s 11 = .int .i64 x38 ∧ H = H') (by simp only [↓runs, isCall, ↓reduceIte, ↓gd_true, ↓gd_false, evs, AV.cells, Nat.reduceEqDiff, Nat.reduceLT, reduceCtorEq, Nat.reduceAdd, sy, f29, f33, f34, f36, f40, g0, g1, g2, g3, g9, g27, hl]) ?_;rintro s _ ⟨hl, g0, g1, g3, g9, g11, rfl⟩;refine wpo_nil (then_n ?_);refine AM.wp_seq hp0 (AM.wp_reg hp0 ?_);refine wpo_seg hp0 2 (fun s H' => s.length = 78 ∧ gt s 0 = v_0 ∧ gt s 3 = v_3 ∧ gt s 9 = rv22 ∧ gt s 11 = .int .i64 x38 ∧ gt s 39 = .int .i64 (and64 what 3) ∧ H = H') (by simp only [↓runs, isCall, ↓reduceIte, ↓gd_true, ↓gd_false, evs, AV.cells, Nat.reduceEqDiff, Nat.reduceLT, reduceCtorEq, Nat.reduceAdd, sy, abin_and64, g0, g1, g3, g9, g11, hl]) ?_;rintro s _ ⟨hl, g0, g3, g9, g11, g39, rfl⟩;refine wpo_nil (then_n ?_);refine AM.wp_block ?_;refine AM.wp_seq hp0 (AM.wp_reg hp0 ?_);refine wpo_seg hp0 2 (fun s H' => s.length = 78 ∧ gt s 0 = v_0 ∧ gt s 3 = v_3 ∧ gt s 9 = rv22 ∧ gt s 11 = .int .i64 x38 ∧ gt s 39 = .int .i64 (and64 what 3) ∧ gt s 40 = .bool (decide ((and64 what 3) = 0)) ∧ H = H') (by simp only [↓runs, isCall, ↓reduceIte, ↓gd_true, ↓gd_false, evs, AV.cells, Nat.reduceEqDiff, Nat.reduceLT, reduceCtorEq, Nat.reduceAdd, sy, g0, g3, g9, g11, g39, hl]) ?_;rintro s _ ⟨hl, g0, g3, g9, g11, g39, g40, rfl⟩;refine wpo_nil (then_n ?_);rcases Bool.eq_false_or_eq_true (decide ((and64 what 3) = 0)) with c41 | c41
    ·replace hp := ifT c41 hp;refine AM.wp_condT (by simp only [ev_t, ev_c, g40, c41]) ?_;refine AM.wp_reg hp0 ?_;obtain ⟨W, w43, hst, h42⟩ := ow_frz hst o25;replace h_0 := Rp.mono w43 h_0;replace h_3 := Rp.mono w43 h_3;replace h18 := Rp.mono w43 h18;obtain ⟨x44, e45, hp⟩ := bn hp;obtain ⟨v46, f47, h48, fu49⟩ := fz_cut3 (n := 1) (kl := .i64) (kh := .i64) rfl h42 e45;obtain ⟨x50, e51, hp⟩ := bn hp;obtain ⟨v52, f53, h54⟩ := fz_sub (n := 1) (kl := .i64) (kh := .i64) (lo := (some (w64 (x38 + 1)))) (hi := none) rfl h42 e51 (by simp);simp only [Option.map_some, Option.map_none] at f53;obtain ⟨c55, sn56⟩ := fz_sn hst h54;obtain ⟨x57, e58, hp⟩ := bn hp;obtain ⟨v59, H60, W, f62, w61, hst, h63⟩ := fz_app [.nils] rfl hst h48 fu49 sn56 e58;replace h_0 := Rp.mono w61 h_0;replace h_3 := Rp.mono w61 h_3;replace h18 := Rp.mono w61 h18;replace h42 := Rp.mono w61 h42;replace h48 := Rp.mono w61 h48;replace h54 := Rp.mono w61 h54;refine wpo_seg hp0 10 (fun s H' => s.length = 78 ∧ gt s 0 = v_0 ∧ gt s 9 = v59 ∧ H60 = H') (by simp only [↓runs, isCall, ↓reduceIte, ↓gd_true, ↓gd_false, evs, AV.cells, Nat.reduceEqDiff, Nat.reduceLT, reduceCtorEq, Nat.reduceAdd, sy, f47, f53, f62, g0, g3, g9, g11, g39, g40, hl]) ?_;rintro s _ ⟨hl, g0, g9, rfl⟩;refine wpo_nil ?_;refine blk_n ?_;refine then_n ?_;refine AM.wp_seq hp0 ?_;obtain ⟨z64, hj65, hp⟩ := bn hp;refine AM.wp_regK hp0 (fun s H' => ∃ (W' : AH), s.length = 78 ∧ gt s 8 = .bool z64 ∧  Wle W W' ∧ St G W' H') ?_ ?_
     ·refine wpo_seg hp0 2 (fun s H' => s.length = 78 ∧ gt s 0 = v_0 ∧ gt s 9 = v59 ∧ gt s 68 = v_0 ∧ gt s 69 = v59 ∧ H60 = H') (by simp only [↓runs, isCall, ↓reduceIte, ↓gd_true, ↓gd_false, evs, AV.cells, Nat.reduceEqDiff, Nat.reduceLT, reduceCtorEq, Nat.reduceAdd, sy, g0, g9, hl]) ?_;rintro s _ ⟨hl, g0, g9, g68, g69, rfl⟩;obtain ⟨r66, e67, hj65⟩ := bn hj65;refine wpo_callK hp0 rfl (ys := [v_0, v59]) (by simp only [evs, List.map_cons, List.map_nil, ev_t, ev_c, g68, g69]) (R_subdirect_Check hst h_0 h63 e67) ?_;rintro rv68 H ⟨W, w69, hst, rfl⟩;replace h_0 := Rp.mono w69 h_0;replace h_3 := Rp.mono w69 h_3;replace h18 := Rp.mono w69 h18;replace h63 := Rp.mono w69 h63;replace h42 := Rp.mono w69 h42;replace h48 := Rp.mono w69 h48;replace h54 := Rp.mono w69 h54;refine wpo_seg hp0 2 (fun s H' => s.length = 78 ∧ gt s 70 = .bool r66 ∧ gt s 71 = v_0 ∧ gt s 72 = v59 ∧ H = H') (by simp only [↓runs, isCall, ↓reduceIte, ↓gd_true, ↓gd_false, evs, AV.cells, Nat.reduceEqDiff, Nat.reduceLT, reduceCtorEq, Nat.reduceAdd, sy, gt_other, g0, g9, g68, g69, hl]) ?_;rintro s _ ⟨hl, g70, g71, g72, rfl⟩;obtain ⟨r70, e71, hj65⟩ := bn hj65;refine wpo_callK hp0 rfl (ys := [v_0, v59]) (by simp only [evs, List.map_cons, List.map_nil, ev_t, ev_c, g71, g72]) (R_semigroupref22_Check hst h_0 h63 e71) ?_;rintro rv72 H ⟨W, w73, hst, rfl⟩;replace h_0 := Rp.mono w73 h_0;replace h_3 := Rp.mono w73 h_3;replace h18 := Rp.mono w73 h18;replace h63 := Rp.mono w73 h63;replace h42 := Rp.mono w73 h42;replace h48 := Rp.mono w73 h48;replace h54 := Rp.mono w73 h54;rcases Bool.eq_false_or_eq_true ((r66 == r70)) with c74 | c74
      ·replace hj65 := ifT c74 hj65;refine wpo_seg hp0 2 (fun s H' => s.length = 78 ∧ gt s 75 = .bool true ∧ H = H') (by simp only [↓runs, isCall, ↓reduceIte, ↓gd_true, ↓gd_false, evs, AV.cells, Nat.reduceEqDiff, Nat.reduceLT, reduceCtorEq, Nat.reduceAdd, sy, gt_other, c74, g70, g71, g72, hl]) ?_;rintro s _ ⟨hl, g75, rfl⟩;obtain ⟨r75, e76, hj65⟩ := bn hj65;refine wpo_callK hp0 (by simp only [wanted, g75, beq_self_eq_true]) (ys := []) (by simp only [evs, List.map_cons, List.map_nil, ev_t, ev_c]) (R_semigrouplaw22_awake hst e76) ?_;rintro rv77 H ⟨W, w78, hst, rfl⟩;replace h_0 := Rp.mono w78 h_0;replace h_3 := Rp.mono w78 h_3;replace h18 := Rp.mono w78 h18;replace h63 := Rp.mono w78 h63;replace h42 := Rp.mono w78 h42;replace h48 := Rp.mono w78 h48;replace h54 := Rp.mono w78 h54;refine wpo_seg hp0 2 (fun s H' => s.length = 78 ∧ gt s 8 = .bool r75 ∧ H = H') (by simp only [↓runs, isCall, ↓reduceIte, ↓gd_true, ↓gd_false, evs, AV.cells, Nat.reduceEqDiff, Nat.reduceLT, reduceCtorEq, Nat.reduceAdd, sy, gt_other, g75, hl]) ?_;rintro s _ ⟨hl, g8, rfl⟩;refine wpo_nil ?_;obtain rfl := Option.some.inj hj65;exact ⟨W, hl, g8, ((w69.trans w73).trans w78), hst⟩
      ·replace hj65 := ifF c74 hj65;refine wpo_seg hp0 5 (fun s H' => s.length = 78 ∧ gt s 8 = .bool false ∧ H = H') (by simp only [↓runs, isCall, ↓reduceIte, ↓gd_true, ↓gd_false, evs, AV.cells, Nat.reduceEqDiff, Nat.reduceLT, reduceCtorEq, Nat.reduceAdd, sy, gt_other, c74, g70, g71, g72, hl]) ?_;rintro s _ ⟨hl, g8, rfl⟩;refine wpo_nil ?_;obtain rfl := Option.some.inj hj65;exact ⟨W, hl, g8, (w69.trans w73), hst⟩
     ·rintro s H ⟨W, hl, g8, w79, hst⟩;refine then_n ?_;refine AM.wp_ret ?_;obtain rfl := Option.some.inj hp;refine body_ret (vs := [.bool z64]) (by simp only [rvs, f_semigrouplaw22_SubdirectTurned, Option.map_some, g8]) ?_;exact ⟨W, ((((((w4.trans w13).trans w19).trans w23).trans w43).trans w61).trans w79), hst, rfl⟩
    ·replace hp := ifF c41 hp;refine AM.wp_condF (by simp only [ev_t, ev_c, g40, c41]) ?_;refine AM.wp_seq hp0 (AM.wp_reg hp0 ?_);refine wpo_seg hp0 2 (fun s H' => s.length = 78 ∧ gt s 0 = v_0 ∧ gt s 3 = v_3 ∧ gt s 9 = rv22 ∧ gt s 11 = .int .i64 x38 ∧ gt s 39 = .int .i64 (and64 what 3) ∧ gt s 51 = .bool (decide ((and64 what 3) = 1)) ∧ H = H') (by simp only [↓runs, isCall, ↓reduceIte, ↓gd_true, ↓gd_false, evs, AV.cells, Nat.reduceEqDiff, Nat.reduceLT, reduceCtorEq, Nat.reduceAdd, sy, g0, g3, g9, g11, g39, g40, hl]) ?_;rintro s _ ⟨hl, g0, g3, g9, g11, g39, g51, rfl⟩;refine wpo_nil (then_n ?_);rcases Bool.eq_false_or_eq_true (decide ((and64 what 3) = 1)) with c80 | c80
     ·replace hp := ifT c80 hp;refine AM.wp_condT (by simp only [ev_t, ev_c, g51, c80]) ?_;refine AM.wp_reg hp0 ?_;obtain ⟨x81, e82, hp⟩ := bn hp;obtain ⟨p83, y84, f85, f86, h87⟩ := ow_at (k := .i64) hst (.head _) o25 e82 rfl;obtain ⟨v88, l89, H90, fg91, W, f93, f94, f95, w92, hst, o96⟩ := ow_lit' (n := 1) (k := 1) (z := [.nils]) (ys := [y84]) (M := ([x81] : List (List Int))) [(0, 1, y84)] rfl rfl hst (sc_cons (show Rp.rv _ (y84) (x81 : List Int) from h87) (sc_nil)) ((List.forall_mem_cons.2 ⟨(Rp.cells (show Rp.rv W (y84) (x81 : List Int) from h87)), fun _ h => (List.not_mem_nil h).elim⟩)) rfl rfl rfl (by decide);replace h_0 := Rp.mono w92 h_0;replace h_3 := Rp.mono w92 h_3;replace h18 := Rp.mono w92 h18;replace h87 := Rp.mono w92 h87;replace o25 := o25.mono w92;obtain ⟨c97, sn98⟩ := ow_sn hst (.head _) o96;obtain ⟨x99, e100, hp⟩ := bn hp;replace hst := hst.p1;obtain ⟨v101, H102, fg103, W, f105, w104, hst, o106⟩ := ow_apps [.nils] rfl hst o25 sn98 e100;replace h_0 := Rp.mono w104 h_0;replace h_3 := Rp.mono w104 h_3;replace h18 := Rp.mono w104 h18;replace h87 := Rp.mono w104 h87;replace o96 := o96.mono w104;refine wpo_seg hp0 8 (fun s H' => s.length = 78 ∧ gt s 0 = v_0 ∧ gt s 9 = v101 ∧ H102 = H') (by simp only [↓runs, isCall, ↓reduceIte, ↓gd_true, ↓gd_false, evs, AV.cells, Nat.reduceEqDiff, Nat.reduceLT, reduceCtorEq, Nat.reduceAdd, sy, f85, f86, f93, f94, f95, f105, g0, g3, g9, g11, g39, g51, hl]) ?_;rintro s _ ⟨hl, g0, g9, rfl⟩;refine wpo_nil ?_;refine blk_n ?_;refine then_n ?_;refine AM.wp_seq hp0 ?_;obtain ⟨z107, hj108, hp⟩ := bn hp;refine AM.wp_regK hp0 (fun s H' => ∃ (W' : AH), s.length = 78 ∧ gt s 8 = .bool z107 ∧  Wle W W' ∧ St G W' H') ?_ ?_
      ·refine wpo_seg hp0 2 (fun s H' => s.length = 78 ∧ gt s 0 = v_0 ∧ gt s 9 = v101 ∧ gt s 68 = v_0 ∧ gt s 69 = v101 ∧ H102 = H') (by simp only [↓runs, isCall, ↓reduceIte, ↓gd_true, ↓gd_false, evs, AV.cells, Nat.reduceEqDiff, Nat.reduceLT, reduceCtorEq, Nat.reduceAdd, sy, g0, g9, hl]) ?_;rintro s _ ⟨hl, g0, g9, g68, g69, rfl⟩;obtain ⟨r109, e110, hj108⟩ := bn hj108;obtain ⟨W, w111, hst, h112, k113⟩ := ow_lend hst o106;refine wpo_callK hp0 rfl (ys := [v_0, v101]) (by simp only [evs, List.map_cons, List.map_nil, ev_t, ev_c, g68, g69]) (R_subdirect_Check hst (Rp.mono w111 h_0) h112 e110) ?_;rintro rv114 H ⟨W, w115, hst, rfl⟩;obtain ⟨W, w116, hst, o106⟩ := k113 _ _ _ w115 hst;replace h_0 := Rp.mono w116 h_0;replace h_3 := Rp.mono w116 h_3;replace h18 := Rp.mono w116 h18;replace h87 := Rp.mono w116 h87;replace o96 := o96.mono w116;refine wpo_seg hp0 2 (fun s H' => s.length = 78 ∧ gt s 70 = .bool r109 ∧ gt s 71 = v_0 ∧ gt s 72 = v101 ∧ H = H') (by simp only [↓runs, isCall, ↓reduceIte, ↓gd_true, ↓gd_false, evs, AV.cells, Nat.reduceEqDiff, Nat.reduceLT, reduceCtorEq, Nat.reduceAdd, sy, gt_other, g0, g9, g68, g69, hl]) ?_;rintro s _ ⟨hl, g70, g71, g72, rfl⟩;obtain ⟨W, w118, hst, h117⟩ := ow_frz hst o106;replace h_0 := Rp.mono w118 h_0;replace h_3 := Rp.mono w118 h_3;replace h18 := Rp.mono w118 h18;replace h87 := Rp.mono w118 h87;replace o96 := o96.mono w118;obtain ⟨r119, e120, hj108⟩ := bn hj108;refine wpo_callK hp0 rfl (ys := [v_0, v101]) (by simp only [evs, List.map_cons, List.map_nil, ev_t, ev_c, g71, g72]) (R_semigroupref22_Check hst h_0 h117 e120) ?_;rintro rv121 H ⟨W, w122, hst, rfl⟩;replace h_0 := Rp.mono w122 h_0;replace h_3 := Rp.mono w122 h_3;replace h18 := Rp.mono w122 h18;replace h87 := Rp.mono w122 h87;replace h117 := Rp.mono w122 h117;replace o96 := o96.mono w122;rcases Bool.eq_false_or_eq_true ((r109 == r119)) with c123 | c123
       ·replace hj108 := ifT c123 hj108;refine wpo_seg hp0 2 (fun s H' => s.length = 78 ∧ gt s 75 = .bool true ∧ H = H') (by simp only [↓runs, isCall, ↓reduceIte, ↓gd_true, ↓gd_false, evs, AV.cells, Nat.reduceEqDiff, Nat.reduceLT, reduceCtorEq, Nat.reduceAdd, sy, gt_other, c123, g70, g71, g72, hl]) ?_;rintro s _ ⟨hl, g75, rfl⟩;obtain ⟨r124, e125, hj108⟩ := bn hj108;refine wpo_callK hp0 (by simp only [wanted, g75, beq_self_eq_true]) (ys := []) (by simp only [evs, List.map_cons, List.map_nil, ev_t, ev_c]) (R_semigrouplaw22_awake hst e125) ?_;rintro rv126 H ⟨W, w127, hst, rfl⟩;replace h_0 := Rp.mono w127 h_0;replace h_3 := Rp.mono w127 h_3;replace h18 := Rp.mono w127 h18;replace h87 := Rp.mono w127 h87;replace h117 := Rp.mono w127 h117;replace o96 := o96.mono w127;refine wpo_seg hp0 2 (fun s H' => s.length = 78 ∧ gt s 8 = .bool r124 ∧ H = H') (by simp only [↓runs, isCall, ↓reduceIte, ↓gd_true, ↓gd_false, evs, AV.cells, Nat.reduceEqDiff, Nat.reduceLT, reduceCtorEq, Nat.reduceAdd, sy, gt_other, g75, hl]) ?_;rintro s _ ⟨hl, g8, rfl⟩;refine wpo_nil ?_;obtain rfl := Option.some.inj hj108;replace hst := hst.drop;exact ⟨W, hl, g8, (((w116.trans w118).trans w122).trans w127), hst⟩
       ·replace hj108 := ifF c123 hj108;refine wpo_seg hp0 5 (fun s H' => s.length = 78 ∧ gt s 8 = .bool false ∧ H = H') (by simp only [↓runs, isCall, ↓reduceIte, ↓gd_true, ↓gd_false, evs, AV.cells, Nat.reduceEqDiff, Nat.reduceLT, reduceCtorEq, Nat.reduceAdd, sy, gt_other, c123, g70, g71, g72, hl]) ?_;rintro s _ ⟨hl, g8, rfl⟩;refine wpo_nil ?_;obtain rfl := Option.some.inj hj108;replace hst := hst.drop;exact ⟨W, hl, g8, ((w116.trans w118).trans w122), hst⟩
      ·rintro s H ⟨W, hl, g8, w128, hst⟩;refine then_n ?_;refine AM.wp_ret ?_;obtain rfl := Option.some.inj hp;refine body_ret (vs := [.bool z107]) (by simp only [rvs, f_semigrouplaw22_SubdirectTurned, Option.map_some, g8]) ?_;exact ⟨W, ((((((w4.trans w13).trans w19).trans w23).trans w92).trans w104).trans w128), hst, rfl⟩
     ·replace hp := ifF c80 hp;refine AM.wp_condF (by simp only [ev_t, ev_c, g51, c80]) ?_;refine AM.wp_seq hp0 (AM.wp_reg hp0 ?_);refine wpo_seg hp0 2 (fun s H' => s.length = 78 ∧ gt s 0 = v_0 ∧ gt s 3 = v_3 ∧ gt s 9 = rv22 ∧ gt s 11 = .int .i64 x38 ∧ gt s 60 = .bool (decide ((and64 what 3) = 2)) ∧ H = H') (by simp only [↓runs, isCall, ↓reduceIte, ↓gd_true, ↓gd_false, evs, AV.cells, Nat.reduceEqDiff, Nat.reduceLT, reduceCtorEq, Nat.reduceAdd, sy, g0, g3, g9, g11, g39, g51, hl]) ?_;rintro s _ ⟨hl, g0, g3, g9, g11, g60, rfl⟩;refine wpo_nil (then_n ?_);rcases Bool.eq_false_or_eq_true (decide ((and64 what 3) = 2)) with c129 | c129
      ·replace hp := ifT c129 hp;refine AM.wp_condT (by simp only [ev_t, ev_c, g60, c129]) ?_;refine AM.wp_reg hp0 ?_;obtain ⟨v130, l131, H132, fg133, W, f135, f136, f137, w134, hst, o138⟩ := ow_lit' (n := 1) (k := 0) (z := []) (ys := []) (M := ([] : List (Int))) [] rfl rfl hst (sc_nil) ( fun _ h => (List.not_mem_nil h).elim) rfl rfl rfl (by decide);replace h_0 := Rp.mono w134 h_0;replace h_3 := Rp.mono w134 h_3;replace h18 := Rp.mono w134 h18;replace o25 := o25.mono w134;obtain ⟨c139, sn140⟩ := fz_sn hst h_3;obtain ⟨x141, e142, hp⟩ := bn hp;obtain ⟨v143, H144, fg145, W, f147, w146, hst, o148⟩ := ow_apps [.int .i64 0] rfl hst o138 sn140 e142;replace h_0 := Rp.mono w146 h_0;replace h_3 := Rp.mono w146 h_3;replace h18 := Rp.mono w146 h18;replace o25 := o25.mono w146;obtain ⟨W, w150, hst, h149⟩ := ow_frz hst o148;replace h_0 := Rp.mono w150 h_0;replace h_3 := Rp.mono w150 h_3;replace h18 := Rp.mono w150 h18;replace o25 := o25.mono w150;obtain ⟨x151, e152, hp⟩ := bn hp;obtain ⟨p153, H154, fg155, f156, f157, hst, o158⟩ := ow_set (k := .i64) 1 rfl hst o25 (show Rp.rv W (v143) (x141 : List Int) from h149) e152;refine wpo_seg hp0 7 (fun s H' => s.length = 78 ∧ gt s 0 = v_0 ∧ gt s 9 = rv22 ∧ H154 = H') (by simp only [↓runs, isCall, ↓reduceIte, ↓gd_true, ↓gd_false, evs, AV.cells, Nat.reduceEqDiff, Nat.reduceLT, reduceCtorEq, Nat.reduceAdd, sy, f135, f136, f137, f147, f156, f157, g0, g3, g9, g11, g60, hl]) ?_;rintro s _ ⟨hl, g0, g9, rfl⟩;refine wpo_nil ?_;refine blk_n ?_;refine then_n ?_;refine AM.wp_seq hp0 ?_;obtain ⟨z159, hj160, hp⟩ := bn hp;refine AM.wp_regK hp0 (fun s H' => ∃ (W' : AH), s.length = 78 ∧ gt s 8 = .bool z159 ∧  Wle W W' ∧ St G W' H') ?_ ?_
       ·refine wpo_seg hp0 2 (fun s H' => s.length = 78 ∧ gt s 0 = v_0 ∧ gt s 9 = rv22 ∧ gt s 68 = v_0 ∧ gt s 69 = rv22 ∧ H154 = H') (by simp only [↓runs, isCall, ↓reduceIte, ↓gd_true, ↓gd_false, evs, AV.cells, Nat.reduceEqDiff, Nat.reduceLT, reduceCtorEq, Nat.reduceAdd, sy, g0, g9, hl]) ?_;rintro s _ ⟨hl, g0, g9, g68, g69, rfl⟩;obtain ⟨r161, e162, hj160⟩ := bn hj160;obtain ⟨W, w163, hst, h164, k165⟩ := ow_lend hst o158;refine wpo_callK hp0 rfl (ys := [v_0, rv22]) (by simp only [evs, List.map_cons, List.map_nil, ev_t, ev_c, g68, g69]) (R_subdirect_Check hst (Rp.mono w163 h_0) h164 e162) ?_;rintro rv166 H ⟨W, w167, hst, rfl⟩;obtain ⟨W, w168, hst, o158⟩ := k165 _ _ _ w167 hst;replace h_0 := Rp.mono w168 h_0;replace h_3 := Rp.mono w168 h_3;replace h18 := Rp.mono w168 h18;replace h149 := Rp.mono w168 h149;refine wpo_seg hp0 2 (fun s H' => s.length = 78 ∧ gt s 70 = .bool r161 ∧ gt s 71 = v_0 ∧ gt s 72 = rv22 ∧ H = H') (by simp only [↓runs, isCall, ↓reduceIte, ↓gd_true, ↓gd_false, evs, AV.cells, Nat.reduceEqDiff, Nat.reduceLT, reduceCtorEq, Nat.reduceAdd, sy, gt_other, g0, g9, g68, g69, hl]) ?_;rintro s _ ⟨hl, g70, g71, g72, rfl⟩;obtain ⟨W, w170, hst, h169⟩ := ow_frz hst o158;replace h_0 := Rp.mono w170 h_0;replace h_3 := Rp.mono w170 h_3;replace h18 := Rp.mono w170 h18;replace h149 := Rp.mono w170 h149;obtain ⟨r171, e172, hj160⟩ := bn hj160;refine wpo_callK hp0 rfl (ys := [v_0, rv22]) (by simp only [evs, List.map_cons, List.map_nil, ev_t, ev_c, g71, g72]) (R_semigroupref22_Check hst h_0 h169 e172) ?_;rintro rv173 H ⟨W, w174, hst, rfl⟩;replace h_0 := Rp.mono w174 h_0;replace h_3 := Rp.mono w174 h_3;replace h18 := Rp.mono w174 h18;replace h149 := Rp.mono w174 h149;replace h169 := Rp.mono w174 h169;rcases Bool.eq_false_or_eq_true ((r161 == r171)) with c175 | c175
        ·replace hj160 := ifT c175 hj160;refine wpo_seg hp0 2 (fun s H' => s.length = 78 ∧ gt s 75 = .bool true ∧ H = H') (by simp only [↓runs, isCall, ↓reduceIte, ↓gd_true, ↓gd_false, evs, AV.cells, Nat.reduceEqDiff, Nat.reduceLT, reduceCtorEq, Nat.reduceAdd, sy, gt_other, c175, g70, g71, g72, hl]) ?_;rintro s _ ⟨hl, g75, rfl⟩;obtain ⟨r176, e177, hj160⟩ := bn hj160;refine wpo_callK hp0 (by simp only [wanted, g75, beq_self_eq_true]) (ys := []) (by simp only [evs, List.map_cons, List.map_nil, ev_t, ev_c]) (R_semigrouplaw22_awake hst e177) ?_;rintro rv178 H ⟨W, w179, hst, rfl⟩;replace h_0 := Rp.mono w179 h_0;replace h_3 := Rp.mono w179 h_3;replace h18 := Rp.mono w179 h18;replace h149 := Rp.mono w179 h149;replace h169 := Rp.mono w179 h169;refine wpo_seg hp0 2 (fun s H' => s.length = 78 ∧ gt s 8 = .bool r176 ∧ H = H') (by simp only [↓runs, isCall, ↓reduceIte, ↓gd_true, ↓gd_false, evs, AV.cells, Nat.reduceEqDiff, Nat.reduceLT, reduceCtorEq, Nat.reduceAdd, sy, gt_other, g75, hl]) ?_;rintro s _ ⟨hl, g8, rfl⟩;refine wpo_nil ?_;obtain rfl := Option.some.inj hj160;exact ⟨W, hl, g8, (((w168.trans w170).trans w174).trans w179), hst⟩
        ·replace hj160 := ifF c175 hj160;refine wpo_seg hp0 5 (fun s H' => s.length = 78 ∧ gt s 8 = .bool false ∧ H = H') (by simp only [↓runs, isCall, ↓reduceIte, ↓gd_true, ↓gd_false, evs, AV.cells, Nat.reduceEqDiff, Nat.reduceLT, reduceCtorEq, Nat.reduceAdd, sy, gt_other, c175, g70, g71, g72, hl]) ?_;rintro s _ ⟨hl, g8, rfl⟩;refine wpo_nil ?_;obtain rfl := Option.some.inj hj160;exact ⟨W, hl, g8, ((w168.trans w170).trans w174), hst⟩
       ·rintro s H ⟨W, hl, g8, w180, hst⟩;refine then_n ?_;refine AM.wp_ret ?_;obtain rfl := Option.some.inj hp;refine body_ret (vs := [.bool z159]) (by simp only [rvs, f_semigrouplaw22_SubdirectTurned, Option.map_some, g8]) ?_;exact ⟨W, (((((((w4.trans w13).trans w19).trans w23).trans w134).trans w146).trans w150).trans w180), hst, rfl⟩
      ·replace hp := ifF c129 hp;refine AM.wp_condF (by simp only [ev_t, ev_c, g60, c129]) ?_;refine AM.wp_skip ?_;refine blk_n ?_;refine then_n ?_;refine AM.wp_seq hp0 ?_;obtain ⟨z181, hj182, hp⟩ := bn hp;refine AM.wp_regK hp0 (fun s H' => ∃ (W' : AH), s.length = 78 ∧ gt s 8 = .bool z181 ∧  Wle W W' ∧ St G W' H') ?_ ?_
       ·refine wpo_seg hp0 2 (fun s H' => s.length = 78 ∧ gt s 0 = v_0 ∧ gt s 9 = rv22 ∧ gt s 68 = v_0 ∧ gt s 69 = rv22 ∧ H = H') (by simp only [↓runs, isCall, ↓reduceIte, ↓gd_true, ↓gd_false, evs, AV.cells, Nat.reduceEqDiff, Nat.reduceLT, reduceCtorEq, Nat.reduceAdd, sy, g0, g3, g9, g11, g60, hl]) ?_;rintro s _ ⟨hl, g0, g9, g68, g69, rfl⟩;obtain ⟨r183, e184, hj182⟩ := bn hj182;obtain ⟨W, w185, hst, h186, k187⟩ := ow_lend hst o25;refine wpo_callK hp0 rfl (ys := [v_0, rv22]) (by simp only [evs, List.map_cons, List.map_nil, ev_t, ev_c, g68, g69]) (R_subdirect_Check hst (Rp.mono w185 h_0) h186 e184) ?_;rintro rv188 H ⟨W, w189, hst, rfl⟩;obtain ⟨W, w190, hst, o25⟩ := k187 _ _ _ w189 hst;replace h_0 := Rp.mono w190 h_0;replace h_3 := Rp.mono w190 h_3;replace h18 := Rp.mono w190 h18;refine wpo_seg hp0 2 (fun s H' => s.length = 78 ∧ gt s 70 = .bool r183 ∧ gt s 71 = v_0 ∧ gt s 72 = rv22 ∧ H = H') (by simp only [↓runs, isCall, ↓reduceIte, ↓gd_true, ↓gd_false, evs, AV.cells, Nat.reduceEqDiff, Nat.reduceLT, reduceCtorEq, Nat.reduceAdd, sy, gt_other, g0, g9, g68, g69, hl]) ?_;rintro s _ ⟨hl, g70, g71, g72, rfl⟩;obtain ⟨W, w192, hst, h191⟩ := ow_frz hst o25;replace h_0 := Rp.mono w192 h_0;replace h_3 := Rp.mono w192 h_3;replace h18 := Rp.mono w192 h18;obtain ⟨r193, e194, hj182⟩ := bn hj182;refine wpo_callK hp0 rfl (ys := [v_0, rv22]) (by simp only [evs, List.map_cons, List.map_nil, ev_t, ev_c, g71, g72]) (R_semigroupref22_Check hst h_0 h191 e194) ?_;rintro rv195 H ⟨W, w196, hst, rfl⟩;replace h_0 := Rp.mono w196 h_0;replace h_3 := Rp.mono w196 h_3;replace h18 := Rp.mono w196 h18;replace h191 := Rp.mono w196 h191;rcases Bool.eq_false_or_eq_true ((r183 == r193)) with c197 | c197
        ·replace hj182 := ifT c197 hj182;refine wpo_seg hp0 2 (fun s H' => s.length = 78 ∧ gt s 75 = .bool true ∧ H = H') (by simp only [↓runs, isCall, ↓reduceIte, ↓gd_true, ↓gd_false, evs, AV.cells, Nat.reduceEqDiff, Nat.reduceLT, reduceCtorEq, Nat.reduceAdd, sy, gt_other, c197, g70, g71, g72, hl]) ?_;rintro s _ ⟨hl, g75, rfl⟩;obtain ⟨r198, e199, hj182⟩ := bn hj182;refine wpo_callK hp0 (by simp only [wanted, g75, beq_self_eq_true]) (ys := []) (by simp only [evs, List.map_cons, List.map_nil, ev_t, ev_c]) (R_semigrouplaw22_awake hst e199) ?_;rintro rv200 H ⟨W, w201, hst, rfl⟩;replace h_0 := Rp.mono w201 h_0;replace h_3 := Rp.mono w201 h_3;replace h18 := Rp.mono w201 h18;replace h191 := Rp.mono w201 h191;refine wpo_seg hp0 2 (fun s H' => s.length = 78 ∧ gt s 8 = .bool r198 ∧ H = H') (by simp only [↓runs, isCall, ↓reduceIte, ↓gd_true, ↓gd_false, evs, AV.cells, Nat.reduceEqDiff, Nat.reduceLT, reduceCtorEq, Nat.reduceAdd, sy, gt_other, g75, hl]) ?_;rintro s _ ⟨hl, g8, rfl⟩;refine wpo_nil ?_;obtain rfl := Option.some.inj hj182;exact ⟨W, hl, g8, (((w190.trans w192).trans w196).trans w201), hst⟩
        ·replace hj182 := ifF c197 hj182;refine wpo_seg hp0 5 (fun s H' => s.length = 78 ∧ gt s 8 = .bool false ∧ H = H') (by simp only [↓runs, isCall, ↓reduceIte, ↓gd_true, ↓gd_false, evs, AV.cells, Nat.reduceEqDiff, Nat.reduceLT, reduceCtorEq, Nat.reduceAdd, sy, gt_other, c197, g70, g71, g72, hl]) ?_;rintro s _ ⟨hl, g8, rfl⟩;refine wpo_nil ?_;obtain rfl := Option.some.inj hj182;exact ⟨W, hl, g8, ((w190.trans w192).trans w196), hst⟩
       ·rintro s H ⟨W, hl, g8, w202, hst⟩;refine then_n ?_;refine AM.wp_ret ?_;obtain rfl := Option.some.inj hp;refine body_ret (vs := [.bool z181]) (by simp only [rvs, f_semigrouplaw22_SubdirectTurned, Option.map_some, g8]) ?_;exact ⟨W, ((((w4.trans w13).trans w19).trans w23).trans w202), hst, rfl⟩
   ·replace hp := ifF c28 hp;refine AM.wp_condF (by simp only [ev_t, ev_c, g27, c28]) ?_;refine AM.wp_skip ?_;refine then_n ?_;refine AM.wp_seq hp0 ?_;obtain ⟨z203, hj204, hp⟩ := bn hp;refine AM.wp_regK hp0 (fun s H' => ∃ (W' : AH), s.length = 78 ∧ gt s 8 = .bool z203 ∧  Wle W W' ∧ St G W' H') ?_ ?_
    ·refine wpo_seg hp0 2 (fun s H' => s.length = 78 ∧ gt s 0 = v_0 ∧ gt s 9 = rv22 ∧ gt s 68 = v_0 ∧ gt s 69 = rv22 ∧ H = H') (by simp only [↓runs, isCall, ↓reduceIte, ↓gd_true, ↓gd_false, evs, AV.cells, Nat.reduceEqDiff, Nat.reduceLT, reduceCtorEq, Nat.reduceAdd, sy, g0, g1, g2, g3, g9, g27, hl]) ?_;rintro s _ ⟨hl, g0, g9, g68, g69, rfl⟩;obtain ⟨r205, e206, hj204⟩ := bn hj204;obtain ⟨W, w207, hst, h208, k209⟩ := ow_lend hst o25;refine wpo_callK hp0 rfl (ys := [v_0, rv22]) (by simp only [evs, List.map_cons, List.map_nil, ev_t, ev_c, g68, g69]) (R_subdirect_Check hst (Rp.mono w207 h_0) h208 e206) ?_;rintro rv210 H ⟨W, w211, hst, rfl⟩;obtain ⟨W, w212, hst, o25⟩ := k209 _ _ _ w211 hst;replace h_0 := Rp.mono w212 h_0;replace h_3 := Rp.mono w212 h_3;replace h18 := Rp.mono w212 h18;refine wpo_seg hp0 2 (fun s H' => s.length = 78 ∧ gt s 70 = .bool r205 ∧ gt s 71 = v_0 ∧ gt s 72 = rv22 ∧ H = H') (by simp only [↓runs, isCall, ↓reduceIte, ↓gd_true, ↓gd_false, evs, AV.cells, Nat.reduceEqDiff, Nat.reduceLT, reduceCtorEq, Nat.reduceAdd, sy, gt_other, g0, g9, g68, g69, hl]) ?_;rintro s _ ⟨hl, g70, g71, g72, rfl⟩;obtain ⟨W, w214, hst, h213⟩ := ow_frz hst o25;replace h_0 := Rp.mono w214 h_0;replace h_3 := Rp.mono w214 h_3;replace h18 := Rp.mono w214 h18;obtain ⟨r215, e216, hj204⟩ := bn hj204;refine wpo_callK hp0 rfl (ys := [v_0, rv22]) (by simp only [evs, List.map_cons, List.map_nil, ev_t, ev_c, g71, g72]) (R_semigroupref22_Check hst h_0 h213 e216) ?_;rintro rv217 H ⟨W, w218, hst, rfl⟩;replace h_0 := Rp.mono w218 h_0;replace h_3 := Rp.mono w218 h_3;replace h18 := Rp.mono w218 h18;replace h213 := Rp.mono w218 h213;rcases Bool.eq_false_or_eq_true ((r205 == r215)) with c219 | c219
     ·replace hj204 := ifT c219 hj204;refine wpo_seg hp0 2 (fun s H' => s.length = 78 ∧ gt s 75 = .bool true ∧ H = H') (by simp only [↓runs, isCall, ↓reduceIte, ↓gd_true, ↓gd_false, evs, AV.cells, Nat.reduceEqDiff, Nat.reduceLT, reduceCtorEq, Nat.reduceAdd, sy, gt_other, c219, g70, g71, g72, hl]) ?_;rintro s _ ⟨hl, g75, rfl⟩;obtain ⟨r220, e221, hj204⟩ := bn hj204;refine wpo_callK hp0 (by simp only [wanted, g75, beq_self_eq_true]) (ys := []) (by simp only [evs, List.map_cons, List.map_nil, ev_t, ev_c]) (R_semigrouplaw22_awake hst e221) ?_;rintro rv222 H ⟨W, w223, hst, rfl⟩;replace h_0 := Rp.mono w223 h_0;replace h_3 := Rp.mono w223 h_3;replace h18 := Rp.mono w223 h18;replace h213 := Rp.mono w223 h213;refine wpo_seg hp0 2 (fun s H' => s.length = 78 ∧ gt s 8 = .bool r220 ∧ H = H') (by simp only [↓runs, isCall, ↓reduceIte, ↓gd_true, ↓gd_false, evs, AV.cells, Nat.reduceEqDiff, Nat.reduceLT, reduceCtorEq, Nat.reduceAdd, sy, gt_other, g75, hl]) ?_;rintro s _ ⟨hl, g8, rfl⟩;refine wpo_nil ?_;obtain rfl := Option.some.inj hj204;exact ⟨W, hl, g8, (((w212.trans w214).trans w218).trans w223), hst⟩
     ·replace hj204 := ifF c219 hj204;refine wpo_seg hp0 5 (fun s H' => s.length = 78 ∧ gt s 8 = .bool false ∧ H = H') (by simp only [↓runs, isCall, ↓reduceIte, ↓gd_true, ↓gd_false, evs, AV.cells, Nat.reduceEqDiff, Nat.reduceLT, reduceCtorEq, Nat.reduceAdd, sy, gt_other, c219, g70, g71, g72, hl]) ?_;rintro s _ ⟨hl, g8, rfl⟩;refine wpo_nil ?_;obtain rfl := Option.some.inj hj204;exact ⟨W, hl, g8, ((w212.trans w214).trans w218), hst⟩
    ·rintro s H ⟨W, hl, g8, w224, hst⟩;refine then_n ?_;refine AM.wp_ret ?_;obtain rfl := Option.some.inj hp;refine body_ret (vs := [.bool z203]) (by simp only [rvs, f_semigrouplaw22_SubdirectTurned, Option.map_some, g8]) ?_;exact ⟨W, ((((w4.trans w13).trans w19).trans w23).trans w224), hst, rfl⟩

end Go.Proofs.Ytmdpejgnkoneoaa.Pu
set_option maxRecDepth 10000
namespace Go.Proofs.Ytmdpejgnkoneoaa.Mt
open Go Go.AM Go.AM.Par Go.AM.Cg Go.AM.Lx Go.Proofs.Ytmdpejgnkoneoaa.Pu

theorem small' (t : List (List Int)) (m : Int) : P_semigrouplaw22_small t m = some (decide ((t.length : Int) ≤ m ∧ validM t = 0)) := by
  unfold P_semigrouplaw22_small
  rw [ref_Valid]
  simp only [Option.bind_some]
  by_cases h : (t.length : Int) ≤ m
  · rw [if_pos (decide_eq_true h)]
    simp only [Option.bind_some, h, true_and]
  · rw [if_neg (by simpa using h)]
    simp only [Option.bind_some, h, false_and, decide_false]
theorem copy_ok {l : List (List Int)} (hl : l.length ≤ 160000) (hr : ∀ k, k < l.length → (l.getD k []).length ≤ 400) : P_semigroupref03_Copy l = some l := by
  unfold P_semigroupref03_Copy
  obtain ⟨y, hy, hQ⟩ := forS_inv (n := l.length) (f := fun k x => P_semigroupref03_Copy_l2 l k x) (x := []) (fun k X => X = tab k fun i => l.getD i []) (by simp [tab]) (by
    rintro k _ hk rfl
    have := hr k hk
    unfold P_semigroupref03_Copy_l2
    rw [gi_lt [] hk]
    simp only [Option.bind_some]
    rw [pus_ok (by simp only [List.length_nil]; omega) (by omega)]
    simp only [Option.bind_some, List.nil_append]
    rw [pus_ok (by simp only [tab_length, List.length_cons, List.length_nil]; omega) (by omega)]
    exact ⟨_, rfl, by simp [tab, List.range_succ]⟩)
  rw [hy, hQ]
  simp only [Option.bind_some, Option.some.injEq]
  exact (tab_of (d := [])).symm
theorem chk_awake (t l : List (List Int)) : (Option.bind (P_subdirect_Check t l) fun r66 => Option.bind (P_semigroupref22_Check t l) fun r70 =>
    if (r66 == r70) then Option.bind (P_semigrouplaw22_awake) fun r75 => some r75 else some false) = some true := by
  obtain ⟨r, a, b⟩ := chk_same t l
  rw [a]
  simp only [Option.bind_some]
  rw [b]
  simp only [Option.bind_some, beq_self_eq_true, if_true]
  rw [awake]
  rfl
theorem wrap_at (a : Int) {n : Nat} (h0 : 0 < n) (hn : n ≤ 160000) : ∃ x, dvr a (n : Int) = some x ∧ ∃ i : Nat, i < n ∧ dvr (w64 (x + (n : Int))) (n : Int) = some (i : Int) := by
  have hp : (0 : Int) < (n : Int) := by omega
  have h1 := Int.tmod_lt_of_pos a hp
  have h2 := Int.tmod_lt_of_pos (-a) hp
  rw [Int.neg_tmod] at h2
  refine ⟨a.tmod n, by unfold dvr; rw [if_neg (by omega)], (((a.tmod n + n).tmod n).toNat), ?_, ?_⟩
  · have h3 := Int.tmod_lt_of_pos (a.tmod n + n) hp
    have h4 : 0 ≤ (a.tmod n + n).tmod n := Int.tmod_nonneg _ (by omega)
    omega
  · have h4 : 0 ≤ (a.tmod n + n).tmod n := Int.tmod_nonneg _ (by omega)
    rw [w64_id (by omega) (by omega)]
    unfold dvr
    rw [if_neg (by omega), Int.toNat_of_nonneg h4]

theorem SubdirectTurned (t : List (List Int)) (what at_ : Int) (p_ : List Int) (hp : p_.length * 8 ≤ 140737488351232) : P_semigrouplaw22_SubdirectTurned t what at_ p_ = some true := by
  unfold P_semigrouplaw22_SubdirectTurned
  rw [small']
  simp only [Option.bind_some]
  by_cases c1 : (t.length : Int) ≤ 7 ∧ validM t = 0
  · have h := valid_sg.1 c1.2
    obtain ⟨l, e, hC, hlen⟩ := decompose h
    have h400 := h.le
    have hcopy := copy_ok hlen (fun k hk => by rw [(hC.1 k hk).1.1]; exact h400)
    simp only [decide_eq_true c1, Bool.not_true, Bool.false_eq_true, if_false]
    rw [e]
    simp only [Option.bind_some, decide_true, Bool.not_true, Bool.false_eq_true, if_false]
    rw [hcopy]
    simp only [Option.bind_some]
    by_cases c2 : (0 : Int) < (l.length : Int)
    · obtain ⟨x, hx, i, hi, hxi⟩ := wrap_at at_ (n := l.length) (by omega) hlen
      have hw : w64 ((i : Int) + 1) = ((i + 1 : Nat) : Int) := by rw [w64_id (by omega) (by omega)]; simp
      simp only [decide_eq_true c2, if_true]
      rw [hx]
      simp only [Option.bind_some]
      rw [hxi]
      simp only [Option.bind_some]
      by_cases d0 : and64 what 3 = 0
      · rw [if_pos (decide_eq_true d0), sub_take (by omega), hw]
        simp only [Option.bind_some]
        rw [sub_drop (by omega)]
        simp only [Option.bind_some]
        rw [pus_ok (by simp only [List.length_drop, List.length_take]; omega) (by omega)]
        simp only [Option.bind_some]
        rw [chk_awake]
        rfl
      · rw [if_neg (by simpa using d0)]
        by_cases d1 : and64 what 3 = 1
        · rw [if_pos (decide_eq_true d1), gi_lt [] hi]
          simp only [Option.bind_some]
          rw [pus_ok (by simp only [List.length_cons, List.length_nil]; omega) (by omega)]
          simp only [Option.bind_some]
          rw [chk_awake]
          rfl
        · rw [if_neg (by simpa using d1)]
          by_cases d2 : and64 what 3 = 2
          · have hpp : pus 8 [] p_ = some p_ := by
              unfold pus
              rw [if_pos ⟨by simp only [List.length_nil]; omega, by simp only [List.length_nil]; omega⟩]
              rfl
            rw [if_pos (decide_eq_true d2), hpp]
            simp only [Option.bind_some]
            rw [si_lt hi]
            simp only [Option.bind_some]
            rw [chk_awake]
            rfl
          · rw [if_neg (by simpa using d2), chk_awake]
            rfl
    · rw [if_neg (by simpa using c2), chk_awake]
      rfl
  · simp only [decide_eq_false c1, Bool.not_false, if_true]
    rw [awake]
    rfl
end Go.Proofs.Ytmdpejgnkoneoaa.Mt
namespace Go.AM

theorem vrs_get {ρ : RL} : ∀ {xs : List AV} {vs : List Value}, VRs ρ xs vs → ∀ {i : Nat} {x : AV} {v : Value}, xs[i]? = some x → vs[i]? = some v → VR ρ x v
  | [], _, _, i, x, v, hx, _ => by simp at hx
  | x0 :: xs, vs, h, i, x, v, hx, hv => by
    obtain ⟨v0, r, rfl, h1, h2⟩ := h
    cases i with
    | zero =>
      simp only [List.getElem?_cons_zero, Option.some.injEq] at hx hv
      subst hx; subst hv; exact h1
    | succ i =>
      simp only [List.getElem?_cons_succ] at hx hv
      exact vrs_get h2 hx hv
theorem arg_len {α : Type} [Rp α] {ρ : RL} {W : AH} {w : AV} {L : List α} {a : Option Addr} {len cap : Nat} (hw : VR ρ w (.slice a len cap)) (hx : Rp.rv W w L) : L.length = len := by
  rcases (show SlR W w L from hx) with ⟨rfl, rfl⟩ | ⟨o, off, c, r, b, rfl, h1, h2, h3, hch⟩
  · simp only [VR] at hw
    cases hw; rfl
  · simp only [VR] at hw
    obtain ⟨l, a', cap', _, h4, _⟩ := hw
    cases h4; rfl
theorem sized_len {K : Type} {enc : TypeId × Value → K} {P : Program} {W : World} {ts : List TypeId} {ds : List (DataW K)} {spare : Nat → Bool} {held : Bool} {base : Nat} {d : DataW K} {p : List MemPlace} {j : Nat} {t e : TypeId} {a : Option Addr} {len cap : Nat}
    (hs : (DataW.weightsEach P ts ds).all (· ≤ reachBytes) = true) (hT : DataW.Trod enc P W base spare held t (.slice a len cap) d p) (ht : ts[j]? = some t) (hd : ds[j]? = some d) (hu : P.underlying t = some (.slice e)) :
    len * P.bytesOf e ≤ 140737488351232 := by
  obtain ⟨fuel, h⟩ := hT
  have h : DataW.trod enc P W base spare held fuel t [.slice a len cap] = some (d, p) := h
  rcases DataW.trod_slice hu h with ⟨q1, q2⟩ | ⟨a', len', cap', elems, rest, n', _, q1, q2, _, _, _, q3, _⟩
  · cases q1; simp
  · cases q1
    have q4 := congrArg Prod.fst q2
    dsimp only at q4
    subst q4
    have := sized_slice hs ht hd hu
    simp only [List.length_map, q3, reachBytes, Nat.add_mul] at this
    omega
end Go.AM
