/- Part 12 of the proof that the law SubdirectTurned holds: words and lemmas it rests on. No condition. -/
import Derived.Test.YtmdpejgnkoneoaaT11
import Derived.Test.YtmdpejgnkoneoaaT5
import Derived.Test.YtmdpejgnkoneoaaT9
import Derived.Test.YtmdpejgnkoneoaaT6
import Derived.Test.YtmdpejgnkoneoaaT8
import Derived.Test.YtmdpejgnkoneoaaT7
set_option linter.unusedSimpArgs false
set_option linter.unusedVariables false
set_option linter.unnecessarySimpa false
set_option linter.unusedSectionVars false
namespace Go.Proofs.Ytmdpejgnkoneoaa.Mt
open Go Go.AM Go.AM.Par Go.AM.Cg Go.AM.Lx Go.Proofs.Ytmdpejgnkoneoaa.Pu

def InfTo (list : List (List Int)) (b : Int) (k x y : Nat) : Prop := ∀ j, j < k → (j : Int) ≠ b → (list.getD j []).getD x 0 = (list.getD j []).getD y 0
theorem inf_step {list : List (List Int)} {b : Int} {k x y : Nat} (hb : (k : Int) ≠ b) : (InfTo list b k x y ∧ (list.getD k []).getD x 0 = (list.getD k []).getD y 0) ↔ InfTo list b (k + 1) x y := by
  constructor
  · rintro ⟨h1, h2⟩ j hj hjb
    rcases Nat.lt_or_ge j k with h | h
    · exact h1 j h hjb
    · have : j = k := by omega
      subst this; exact h2
  · intro h; exact ⟨fun j hj => h j (by omega), h k (by omega) hb⟩
theorem inf_skip {list : List (List Int)} {b : Int} {k x y : Nat} (hb : (k : Int) = b) : InfTo list b k x y ↔ InfTo list b (k + 1) x y := by
  constructor
  · intro h1 j hj hjb
    rcases Nat.lt_or_ge j k with h | h
    · exact h1 j h hjb
    · have : j = k := by omega
      subst this; exact absurd hb hjb
  · intro h j hj; exact h j (by omega)
theorem smeet {n : Nat} {list : List (List Int)} (hn : n ≤ 4096) (hl : ∀ k, k < list.length → (list.getD k []).length = n ∧ validP (list.getD k []) = true) (b : Int) :
    ∃ r, P_subdirect_meet (n : Int) list b = some r ∧ IsP n (InfTo list b list.length) r := by
  unfold P_subdirect_meet
  rw [trivial' hn]
  simp only [Option.bind_some]
  obtain ⟨y, hy, hQ⟩ := forS_inv (n := list.length) (f := fun k x => P_subdirect_meet_l8 b list k x) (x := List.replicate n 0) (fun k X => IsP n (InfTo list b k) X)
    ((rep_isP n).mono fun x y _ _ => ⟨fun _ j hj => by omega, fun _ => trivial⟩) (by
      intro k X hk hX
      unfold P_subdirect_meet_l8
      rw [gi_lt [] hk]
      simp only [Option.bind_some]
      by_cases hb : (k : Int) = b
      · have c1 : decide ((k : Int) = b) = true := decide_eq_true hb
        simp only [c1, Bool.not_true, Bool.false_eq_true, if_false]
        exact ⟨_, rfl, hX.mono fun x y _ _ => inf_skip hb⟩
      · have c1 : decide ((k : Int) = b) = false := decide_eq_false hb
        simp only [c1, Bool.not_false, if_true]
        obtain ⟨h1, h2⟩ := hl k hk
        have hs := IsP.self h2
        rw [h1] at hs
        obtain ⟨r, hr, hR⟩ := meet hX hs hn
        rw [hr]
        exact ⟨_, rfl, hR.mono fun x y _ _ => inf_step hb⟩)
  rw [hy]
  exact ⟨_, rfl, hQ⟩
theorem rmeet {n : Nat} {list : List (List Int)} (hn : n ≤ 4096) (hl : ∀ k, k < list.length → (list.getD k []).length = n ∧ validP (list.getD k []) = true) (b : Int) :
    ∃ r, P_semigroupref22_meet (n : Int) list b = some r ∧ IsP n (InfTo list b list.length) r := by
  unfold P_semigroupref22_meet
  rw [mkz_ok (by omega) (by omega)]
  simp only [Option.bind_some]
  obtain ⟨y, hy, hQ⟩ := forS_inv (n := list.length) (f := fun k x => P_semigroupref22_meet_l10 b list k x) (x := List.replicate n 0) (fun k X => IsP n (InfTo list b k) X)
    ((rep_isP n).mono fun x y _ _ => ⟨fun _ j hj => by omega, fun _ => trivial⟩) (by
      intro k X hk hX
      unfold P_semigroupref22_meet_l10
      rw [gi_lt [] hk]
      simp only [Option.bind_some]
      by_cases hb : (k : Int) = b
      · have c1 : decide ((k : Int) = b) = true := decide_eq_true hb
        simp only [c1, Bool.not_true, Bool.false_eq_true, if_false]
        exact ⟨_, rfl, hX.mono fun x y _ _ => inf_skip hb⟩
      · have c1 : decide ((k : Int) = b) = false := decide_eq_false hb
        simp only [c1, Bool.not_false, if_true]
        obtain ⟨h1, h2⟩ := hl k hk
        have hs := IsP.self h2
        rw [h1] at hs
        obtain ⟨r, hr, hR⟩ := ref_meet hX hs hn
        rw [hr]
        exact ⟨_, rfl, hR.mono fun x y _ _ => inf_step hb⟩)
  rw [hy]
  exact ⟨_, rfl, hQ⟩

def SI (n : Nat) (T : Nat → Nat → Nat) : Prop := 2 ≤ n ∧ ¬ Disc n (Mon n T)
def Fac (n : Nat) (T : Nat → Nat → Nat) (p : List Int) : Prop := CongL n T 0 p ∧ SI (ncl p) (quoT T p)
def ChkP (n : Nat) (T : Nat → Nat → Nat) (list : List (List Int)) : Prop := (∀ k, k < list.length → Fac n T (list.getD k [])) ∧ Disc n (InfTo list (-1) list.length) ∧ ∀ k, k < list.length → ¬ Disc n (InfTo list (k : Int) list.length)

open Classical in
theorem check {n : Nat} {T : Nat → Nat → Nat} {t : List (List Int)} (h : Sg t n T) (list : List (List Int)) : P_subdirect_Check t list = some (decide (ChkP n T list)) := by
  have h400 := h.le
  unfold P_subdirect_Check
  rw [validate, h.valid, h.len]
  simp only [Option.bind_some, Option.bind_none, decide_true, decide_false, Bool.not_true, Bool.not_false, Bool.true_and, Bool.and_true, Bool.false_eq_true, if_true, if_false, not_true_eq_false, not_false_eq_true, ite_true, ite_false, Bool.not_eq_true, decide_eq_true_eq, decide_eq_false_iff_not, Bool.not_eq_true', Bool.not_eq_false', Option.getD_some, Option.getD_none, Option.isSome_some, Option.isSome_none, Option.isNone_some, Option.isNone_none, eq_self, forall_const, true_implies, false_implies, implies_true]
  rw [look_const (ok := fun k => Fac n T (list.getD k [])) (b := false) fun k hk => by
    unfold P_subdirect_Check_l7
    rw [gi_lt [] hk]
    simp only [Option.bind_some]
    rw [quotient h]
    by_cases hC : CongL n T 0 (list.getD k [])
    · rw [if_pos hC]
      simp only [Option.bind_some, Option.bind_none, decide_true, decide_false, Bool.not_true, Bool.not_false, Bool.true_and, Bool.and_true, Bool.false_eq_true, if_true, if_false, not_true_eq_false, not_false_eq_true, ite_true, ite_false, Bool.not_eq_true, decide_eq_true_eq, decide_eq_false_iff_not, Bool.not_eq_true', Bool.not_eq_false', Option.getD_some, Option.getD_none, Option.isSome_some, Option.isSome_none, Option.isNone_some, Option.isNone_none, eq_self, forall_const, true_implies, false_implies, implies_true]
      rcases monolith (quo_tab h hC) with ⟨a, b⟩ | ⟨p, a, b, c, d⟩
      · rw [a, if_neg (fun hF : Fac n T (list.getD k []) => by
          rcases b with b | b
          · have := hF.2.1; omega
          · exact hF.2.2 b)]
        rfl
      · rw [a, if_pos (show Fac n T (list.getD k []) from ⟨hC, b, c⟩)]
        rfl
    · rw [if_neg hC, if_neg (fun hF : Fac n T (list.getD k []) => hC hF.1)]
      rfl]
  by_cases hA : ∀ k, k < list.length → Fac n T (list.getD k [])
  · have hl : ∀ k, k < list.length → (list.getD k []).length = n ∧ validP (list.getD k []) = true := fun k hk => ⟨(hA k hk).1.1, (hA k hk).1.2.1⟩
    rw [if_pos hA]
    obtain ⟨r, e, hr⟩ := smeet (by omega) hl (-1)
    simp only [Option.bind_some]
    rw [e]
    simp only [Option.bind_some]
    rw [discrete hr (by omega)]
    simp only [Option.bind_some]
    by_cases hD : Disc n (InfTo list (-1) list.length)
    · rw [decide_eq_true hD]
      simp only [Bool.not_true, Bool.false_eq_true, if_false, Bool.true_eq_false, reduceCtorEq]
      rw [look_const (ok := fun k => ¬ Disc n (InfTo list (k : Int) list.length)) (b := false) fun k hk => by
        unfold P_subdirect_Check_l57
        obtain ⟨r, e, hr⟩ := smeet (by omega) hl (k : Int)
        rw [h.len, e]
        simp only [Option.bind_some]
        rw [discrete hr (by omega)]
        simp only [Option.bind_some]
        by_cases hd : Disc n (InfTo list (k : Int) list.length)
        · rw [decide_eq_true hd, if_neg (show ¬ ¬ Disc n (InfTo list (k : Int) list.length) from fun h => h hd)]; rfl
        · rw [decide_eq_false hd, if_pos hd]; rfl]
      by_cases hB : ∀ k, k < list.length → ¬ Disc n (InfTo list (k : Int) list.length)
      · rw [if_pos hB, decide_eq_true (show ChkP n T list from ⟨hA, hD, hB⟩)]; rfl
      · rw [if_neg hB, decide_eq_false (fun hc : ChkP n T list => hB hc.2.2)]; rfl
    · rw [decide_eq_false hD, decide_eq_false (fun hc : ChkP n T list => hD hc.2.1)]
      rfl
  · rw [if_neg hA, decide_eq_false (fun hc : ChkP n T list => hA hc.1)]
    rfl

open Classical in
theorem ref_check {n : Nat} {T : Nat → Nat → Nat} {t : List (List Int)} (h : Sg t n T) (list : List (List Int)) : P_semigroupref22_Check t list = some (decide (ChkP n T list)) := by
  have h400 := h.le
  unfold P_semigroupref22_Check
  rw [ref_Valid, h.valid, h.len]
  simp only [Option.bind_some, Option.bind_none, decide_true, decide_false, Bool.not_true, Bool.not_false, Bool.true_and, Bool.and_true, Bool.false_eq_true, if_true, if_false, not_true_eq_false, not_false_eq_true, ite_true, ite_false, Bool.not_eq_true, decide_eq_true_eq, decide_eq_false_iff_not, Bool.not_eq_true', Bool.not_eq_false', Option.getD_some, Option.getD_none, Option.isSome_some, Option.isSome_none, Option.isNone_some, Option.isNone_none, eq_self, forall_const, true_implies, false_implies, implies_true]
  have cnt : ∀ {θ : Nat → Nat → Prop} {r : List Int}, IsP n θ r → decide (((nub r).length : Int) = (n : Int)) = decide (Disc n θ) := fun {θ r} hr => by
    rw [Bool.eq_iff_iff]
    simp only [decide_eq_true_eq]
    rw [← isP_full hr]
    omega
  rw [look_const (ok := fun k => Fac n T (list.getD k [])) (b := false) fun k hk => by
    unfold P_semigroupref22_Check_l7
    rw [gi_lt [] hk]
    simp only [Option.bind_some]
    rw [ref_isCong h]
    by_cases hC : CongL n T 0 (list.getD k [])
    · rw [decide_eq_true (⟨hC, by omega, by omega⟩ : CongL n T 0 (list.getD k []) ∧ (0 : Int) ≤ 0 ∧ (0 : Int) ≤ 2)]
      simp only [Option.bind_some, Option.bind_none, decide_true, decide_false, Bool.not_true, Bool.not_false, Bool.true_and, Bool.and_true, Bool.false_eq_true, if_true, if_false, not_true_eq_false, not_false_eq_true, ite_true, ite_false, Bool.not_eq_true, decide_eq_true_eq, decide_eq_false_iff_not, Bool.not_eq_true', Bool.not_eq_false', Option.getD_some, Option.getD_none, Option.isSome_some, Option.isSome_none, Option.isNone_some, Option.isNone_none, eq_self, forall_const, true_implies, false_implies, implies_true]
      rw [ref_quotient h hC]
      simp only [Option.bind_some]
      rcases ref_irreducible (quo_tab h hC) with ⟨a, b⟩ | ⟨p, a, b, c, d⟩
      · rw [a, if_neg (fun hF : Fac n T (list.getD k []) => by
          rcases b with b | b
          · have := hF.2.1; omega
          · exact hF.2.2 b)]
        rfl
      · rw [a, if_pos (show Fac n T (list.getD k []) from ⟨hC, b, c⟩)]
        rfl
    · rw [decide_eq_false (fun hF : CongL n T 0 (list.getD k []) ∧ (0 : Int) ≤ 0 ∧ (0 : Int) ≤ 2 => hC hF.1), if_neg (fun hF : Fac n T (list.getD k []) => hC hF.1)]
      rfl]
  by_cases hA : ∀ k, k < list.length → Fac n T (list.getD k [])
  · have hl : ∀ k, k < list.length → (list.getD k []).length = n ∧ validP (list.getD k []) = true := fun k hk => ⟨(hA k hk).1.1, (hA k hk).1.2.1⟩
    rw [if_pos hA]
    obtain ⟨r, e, hr⟩ := rmeet (by omega) hl (-1)
    simp only [Option.bind_some]
    rw [e]
    simp only [Option.bind_some]
    rw [ref_count (hr.valid (by omega))]
    simp only [Option.bind_some, Bool.true_eq_false, Bool.not_true, Bool.false_eq_true, if_false]
    have cn := isP_full hr
    by_cases hD : Disc n (InfTo list (-1) list.length)
    · rw [if_neg (fun hh => hh (by have := cn.2 hD; omega))]
      rw [look_const (ok := fun k => ¬ Disc n (InfTo list (k : Int) list.length)) (b := false) fun k hk => by
        unfold P_semigroupref22_Check_l61
        obtain ⟨r, e, hr⟩ := rmeet (by omega) hl (k : Int)
        rw [h.len, e]
        simp only [Option.bind_some]
        rw [ref_count (hr.valid (by omega))]
        simp only [Option.bind_some]
        rw [cnt hr]
        by_cases hd : Disc n (InfTo list (k : Int) list.length)
        · rw [decide_eq_true hd, if_neg (show ¬ ¬ Disc n (InfTo list (k : Int) list.length) from fun h => h hd)]; rfl
        · rw [decide_eq_false hd, if_pos hd]; rfl]
      by_cases hB : ∀ k, k < list.length → ¬ Disc n (InfTo list (k : Int) list.length)
      · rw [if_pos hB, decide_eq_true (show ChkP n T list from ⟨hA, hD, hB⟩)]; rfl
      · rw [if_neg hB, decide_eq_false (fun hc : ChkP n T list => hB hc.2.2)]; rfl
    · rw [if_pos (fun hh => hD (cn.1 (by omega))), decide_eq_false (fun hc : ChkP n T list => hD hc.2.1)]
  · rw [if_neg hA, decide_eq_false (fun hc : ChkP n T list => hA hc.1)]
    rfl
end Go.Proofs.Ytmdpejgnkoneoaa.Mt
set_option maxRecDepth 100000
set_option maxHeartbeats 4000000
namespace Go.Proofs.Ytmdpejgnkoneoaa.Pu
open Go Go.AM Go.Proofs.Ytmdpejgnkoneoaa.Code

noncomputable def P_semigrouplaw22_klein : Option ((List (List Int))) :=
 some ([[0, 1, 2, 3], [1, 0, 3, 2], [2, 3, 0, 1], [3, 2, 1, 0]])
theorem R_semigrouplaw22_klein {G : List Frag} {W H : AH} (hst : St G W H) {r : (List (List Int))} (hp : P_semigrouplaw22_klein = some r) :
  wpc E0 N_semigrouplaw22_klein [] H fun rv H' => ∃ W', Wle W W' ∧ ∃ (g0 : Frag), St (g0 :: G) W' H' ∧ OwS W' rv g0 (r : List (List Int)) := by
 refine enterN (F := f_semigrouplaw22_klein) rfl (Nat.le_of_ble_eq_true rfl) fun s hl hg => ?_;replace hl : s.length = 6 := hl;clear hg;unfold P_semigrouplaw22_klein at hp;show wp E0 c_semigrouplaw22_klein s H _;unfold c_semigrouplaw22_klein;refine AM.wp_seq hp0 (AM.wp_reg hp0 ?_);refine wpo_seg hp0 1 (fun s H' => s.length = 6 ∧ H = H') (by simp only [↓runs, isCall, ↓reduceIte, ↓gd_true, ↓gd_false, evs, AV.cells, Nat.reduceEqDiff, Nat.reduceLT, reduceCtorEq, Nat.reduceAdd, sy, hl]) ?_;rintro s _ ⟨hl, rfl⟩;refine wpo_nil (then_n ?_);refine AM.wp_seq hp0 (AM.wp_reg hp0 ?_);obtain ⟨v1, l2, H3, fg4, W, f6, f7, f8, w5, hst, o9⟩ := ow_lit' (n := 1) (k := 4) (z := [.int .i64 0, .int .i64 0, .int .i64 0, .int .i64 0]) (ys := [.int .i64 0, .int .i64 1, .int .i64 2, .int .i64 3]) (M := ([0, 1, 2, 3] : List (Int))) [(0, 1, .int .i64 0), (1, 1, .int .i64 1), (2, 1, .int .i64 2), (3, 1, .int .i64 3)] rfl rfl hst (sc_cons (show Rp.rv _ (.int .i64 0) (0 : Int) from rfl) (sc_cons (show Rp.rv _ (.int .i64 1) (1 : Int) from rfl) (sc_cons (show Rp.rv _ (.int .i64 2) (2 : Int) from rfl) (sc_cons (show Rp.rv _ (.int .i64 3) (3 : Int) from rfl) (sc_nil))))) ((List.forall_mem_cons.2 ⟨rfl, (List.forall_mem_cons.2 ⟨rfl, (List.forall_mem_cons.2 ⟨rfl, (List.forall_mem_cons.2 ⟨rfl, fun _ h => (List.not_mem_nil h).elim⟩)⟩)⟩)⟩)) rfl rfl rfl (by decide);obtain ⟨v10, l11, H12, fg13, W, f15, f16, f17, w14, hst, o18⟩ := ow_lit' (n := 1) (k := 4) (z := [.int .i64 0, .int .i64 0, .int .i64 0, .int .i64 0]) (ys := [.int .i64 1, .int .i64 0, .int .i64 3, .int .i64 2]) (M := ([1, 0, 3, 2] : List (Int))) [(0, 1, .int .i64 1), (1, 1, .int .i64 0), (2, 1, .int .i64 3), (3, 1, .int .i64 2)] rfl rfl hst (sc_cons (show Rp.rv _ (.int .i64 1) (1 : Int) from rfl) (sc_cons (show Rp.rv _ (.int .i64 0) (0 : Int) from rfl) (sc_cons (show Rp.rv _ (.int .i64 3) (3 : Int) from rfl) (sc_cons (show Rp.rv _ (.int .i64 2) (2 : Int) from rfl) (sc_nil))))) ((List.forall_mem_cons.2 ⟨rfl, (List.forall_mem_cons.2 ⟨rfl, (List.forall_mem_cons.2 ⟨rfl, (List.forall_mem_cons.2 ⟨rfl, fun _ h => (List.not_mem_nil h).elim⟩)⟩)⟩)⟩)) rfl rfl rfl (by decide);replace o9 := o9.mono w14;obtain ⟨v19, l20, H21, fg22, W, f24, f25, f26, w23, hst, o27⟩ := ow_lit' (n := 1) (k := 4) (z := [.int .i64 0, .int .i64 0, .int .i64 0, .int .i64 0]) (ys := [.int .i64 2, .int .i64 3, .int .i64 0, .int .i64 1]) (M := ([2, 3, 0, 1] : List (Int))) [(0, 1, .int .i64 2), (1, 1, .int .i64 3), (2, 1, .int .i64 0), (3, 1, .int .i64 1)] rfl rfl hst (sc_cons (show Rp.rv _ (.int .i64 2) (2 : Int) from rfl) (sc_cons (show Rp.rv _ (.int .i64 3) (3 : Int) from rfl) (sc_cons (show Rp.rv _ (.int .i64 0) (0 : Int) from rfl) (sc_cons (show Rp.rv _ (.int .i64 1) (1 : Int) from rfl) (sc_nil))))) ((List.forall_mem_cons.2 ⟨rfl, (List.forall_mem_cons.2 ⟨rfl, (List.forall_mem_cons.2 ⟨rfl, (List.forall_mem_cons.2 ⟨rfl, fun _ h => (List.not_mem_nil h).elim⟩)⟩)⟩)⟩)) rfl rfl rfl (by decide);replace o9 := o9.mono w23;replace o18 := o18.mono w23;obtain ⟨v28, l29, H30, fg31, W, f34, f35, f36, w33, hst, o37⟩ := ow_lit' (n := 1) (k := 4) (z := [.int .i64 0, .int .i64 0, .int .i64 0, .int .i64 0]) (ys := [.int .i64 3, .int .i64 2, .int .i64 1, .int .i64 0]) (M := ([3, 2, 1, 0] : List (Int))) [(0, 1, .int .i64 3), (1, 1, .int .i64 2), (2, 1, .int .i64 1), (3, 1, .int .i64 0)] rfl rfl hst (sc_cons (show Rp.rv _ (.int .i64 3) (3 : Int) from rfl) (sc_cons (show Rp.rv _ (.int .i64 2) (2 : Int) from rfl) (sc_cons (show Rp.rv _ (.int .i64 1) (1 : Int) from rfl) (sc_cons (show Rp.rv _ (.int .i64 0) (0 : Int) from rfl) (sc_nil))))) ((List.forall_mem_cons.2 ⟨rfl, (List.forall_mem_cons.2 ⟨rfl, (List.forall_mem_cons.2 ⟨rfl, (List.forall_mem_cons.2 ⟨rfl, fun _ h => (List.not_mem_nil h).elim⟩)⟩)⟩)⟩)) rfl rfl rfl (by decide);replace o9 := o9.mono w33;replace o18 := o18.mono w33;replace o27 := o27.mono w33;replace hst := hst.p3;obtain ⟨W, w39, hst, h38⟩ := ow_frz hst o9;replace o18 := o18.mono w39;replace o27 := o27.mono w39;replace o37 := o37.mono w39;replace hst := hst.p2;obtain ⟨W, w41, hst, h40⟩ := ow_frz hst o18;replace h38 := Rp.mono w41 h38;replace o27 := o27.mono w41;replace o37 := o37.mono w41;replace hst := hst.p1;obtain ⟨W, w43, hst, h42⟩ := ow_frz hst o27;replace h38 := Rp.mono w43 h38;replace h40 := Rp.mono w43 h40;replace o37 := o37.mono w43;obtain ⟨W, w45, hst, h44⟩ := ow_frz hst o37;replace h38 := Rp.mono w45 h38;replace h40 := Rp.mono w45 h40;replace h42 := Rp.mono w45 h42;obtain ⟨v46, l47, H48, fg49, W, f51, f52, f53, w50, hst, o54⟩ := ow_lit' (n := 1) (k := 4) (z := [.nils, .nils, .nils, .nils]) (ys := [v1, v10, v19, v28]) (M := ([[0, 1, 2, 3], [1, 0, 3, 2], [2, 3, 0, 1], [3, 2, 1, 0]] : List (List Int))) [(0, 1, v1), (1, 1, v10), (2, 1, v19), (3, 1, v28)] rfl rfl hst (sc_cons (show Rp.rv _ (v1) ([0, 1, 2, 3] : List Int) from h38) (sc_cons (show Rp.rv _ (v10) ([1, 0, 3, 2] : List Int) from h40) (sc_cons (show Rp.rv _ (v19) ([2, 3, 0, 1] : List Int) from h42) (sc_cons (show Rp.rv _ (v28) ([3, 2, 1, 0] : List Int) from h44) (sc_nil))))) ((List.forall_mem_cons.2 ⟨(Rp.cells (show Rp.rv W (v1) ([0, 1, 2, 3] : List Int) from h38)), (List.forall_mem_cons.2 ⟨(Rp.cells (show Rp.rv W (v10) ([1, 0, 3, 2] : List Int) from h40)), (List.forall_mem_cons.2 ⟨(Rp.cells (show Rp.rv W (v19) ([2, 3, 0, 1] : List Int) from h42)), (List.forall_mem_cons.2 ⟨(Rp.cells (show Rp.rv W (v28) ([3, 2, 1, 0] : List Int) from h44)), fun _ h => (List.not_mem_nil h).elim⟩)⟩)⟩)⟩)) rfl rfl rfl (by decide);replace h38 := Rp.mono w50 h38;replace h40 := Rp.mono w50 h40;replace h42 := Rp.mono w50 h42;replace h44 := Rp.mono w50 h44;refine wpo_seg hp0 6 (fun s H' => s.length = 6 ∧ gt s 0 = v46 ∧ H48 = H') (by simp only [↓runs, isCall, ↓reduceIte, ↓gd_true, ↓gd_false, evs, AV.cells, Nat.reduceEqDiff, Nat.reduceLT, reduceCtorEq, Nat.reduceAdd, sy, f6, f7, f8, f15, f16, f17, f24, f25, f26, f34, f35, f36, f51, f52, f53, hl]) ?_;rintro s _ ⟨hl, g0, rfl⟩;refine wpo_nil (then_n ?_);refine AM.wp_ret ?_;obtain rfl := Option.some.inj hp;refine body_ret (vs := [v46]) (by simp only [rvs, f_semigrouplaw22_klein, Option.map_some, g0]) ?_;exact ⟨W, ((((((((w5.trans w14).trans w23).trans w33).trans w39).trans w41).trans w43).trans w45).trans w50), _, hst, o54⟩

end Go.Proofs.Ytmdpejgnkoneoaa.Pu
set_option maxRecDepth 100000
set_option maxHeartbeats 4000000
namespace Go.Proofs.Ytmdpejgnkoneoaa.Pu
open Go Go.AM Go.Proofs.Ytmdpejgnkoneoaa.Code

noncomputable def P_semigrouplaw22_awake : Option (Bool) :=
 Option.bind (P_semigrouplaw22_klein) fun r1 =>
 Option.bind (P_subdirect_Irreducible r1) fun r10 =>
 Option.bind (P_subdirect_Irreducible ([[0, 1], [1, 0]])) fun r49 =>
 Option.bind (
  if !r10.2 then
   if r49.2 then
    Option.bind (P_subdirect_Check r1 ([[0, 0, 1, 1], [0, 1, 0, 1]])) fun r98 =>
    some r98
   else
    some false
  else
   some false) fun z55 =>
 some z55
theorem R_semigrouplaw22_awake {G : List Frag} {W H : AH} (hst : St G W H) {r : Bool} (hp : P_semigrouplaw22_awake = some r) :
  wpc E0 N_semigrouplaw22_awake [] H fun rv H' => ∃ W', Wle W W' ∧ St G W' H' ∧ rv = .bool r := by
 refine enterN (F := f_semigrouplaw22_awake) rfl (Nat.le_of_ble_eq_true rfl) fun s hl hg => ?_;replace hl : s.length = 29 := hl;clear hg;unfold P_semigrouplaw22_awake at hp;show wp E0 c_semigrouplaw22_awake s H _;unfold c_semigrouplaw22_awake;refine AM.wp_seq hp0 (AM.wp_reg hp0 ?_);refine wpo_seg hp0 1 (fun s H' => s.length = 29 ∧ H = H') (by simp only [↓runs, isCall, ↓reduceIte, ↓gd_true, ↓gd_false, evs, AV.cells, Nat.reduceEqDiff, Nat.reduceLT, reduceCtorEq, Nat.reduceAdd, sy, hl]) ?_;rintro s _ ⟨hl, rfl⟩;refine wpo_nil (then_n ?_);refine AM.wp_seq hp0 (AM.wp_reg hp0 ?_);obtain ⟨r1, e2, hp⟩ := bn hp;refine wpo_callK hp0 rfl (ys := []) (by simp only [evs, List.map_cons, List.map_nil, ev_t, ev_c]) (R_semigrouplaw22_klein hst e2) ?_;rintro rv3 H ⟨W, w4, fg5, hst, o6⟩;refine wpo_seg hp0 0 (fun s H' => s.length = 29 ∧ gt s 6 = rv3 ∧ H = H') (by simp only [↓runs, isCall, ↓reduceIte, ↓gd_true, ↓gd_false, evs, AV.cells, Nat.reduceEqDiff, Nat.reduceLT, reduceCtorEq, Nat.reduceAdd, sy, gt_other, hl]) ?_;rintro s _ ⟨hl, g6, rfl⟩;obtain ⟨W, w9, hst, h7⟩ := ow_frz hst o6;obtain ⟨r10, e11, hp⟩ := bn hp;refine wpo_callK hp0 rfl (ys := [rv3]) (by simp only [evs, List.map_cons, List.map_nil, ev_t, ev_c, g6]) (R_subdirect_Irreducible hst h7 e11) ?_;rintro rv12 H ⟨W, w13, v14, hst, rfl, h15⟩;replace h7 := Rp.mono w13 h7;refine wpo_seg hp0 5 (fun s H' => s.length = 29 ∧ gt s 2 = .bool r10.2 ∧ H = H') (by simp only [↓runs, isCall, ↓reduceIte, ↓gd_true, ↓gd_false, evs, AV.cells, Nat.reduceEqDiff, Nat.reduceLT, reduceCtorEq, Nat.reduceAdd, sy, gt_other, g6, hl]) ?_;rintro s _ ⟨hl, g2, rfl⟩;refine wpo_nil (then_n ?_);refine AM.wp_seq hp0 (AM.wp_reg hp0 ?_);obtain ⟨v16, l17, H18, fg19, W, f21, f22, f23, w20, hst, o24⟩ := ow_lit' (n := 1) (k := 2) (z := [.int .i64 0, .int .i64 0]) (ys := [.int .i64 0, .int .i64 1]) (M := ([0, 1] : List (Int))) [(0, 1, .int .i64 0), (1, 1, .int .i64 1)] rfl rfl hst (sc_cons (show Rp.rv _ (.int .i64 0) (0 : Int) from rfl) (sc_cons (show Rp.rv _ (.int .i64 1) (1 : Int) from rfl) (sc_nil))) ((List.forall_mem_cons.2 ⟨rfl, (List.forall_mem_cons.2 ⟨rfl, fun _ h => (List.not_mem_nil h).elim⟩)⟩)) rfl rfl rfl (by decide);replace h7 := Rp.mono w20 h7;replace h15 := Rp.mono w20 h15;obtain ⟨v25, l26, H27, fg28, W, f30, f31, f32, w29, hst, o33⟩ := ow_lit' (n := 1) (k := 2) (z := [.int .i64 0, .int .i64 0]) (ys := [.int .i64 1, .int .i64 0]) (M := ([1, 0] : List (Int))) [(0, 1, .int .i64 1), (1, 1, .int .i64 0)] rfl rfl hst (sc_cons (show Rp.rv _ (.int .i64 1) (1 : Int) from rfl) (sc_cons (show Rp.rv _ (.int .i64 0) (0 : Int) from rfl) (sc_nil))) ((List.forall_mem_cons.2 ⟨rfl, (List.forall_mem_cons.2 ⟨rfl, fun _ h => (List.not_mem_nil h).elim⟩)⟩)) rfl rfl rfl (by decide);replace h7 := Rp.mono w29 h7;replace h15 := Rp.mono w29 h15;replace o24 := o24.mono w29;replace hst := hst.p1;obtain ⟨W, w35, hst, h34⟩ := ow_frz hst o24;replace h7 := Rp.mono w35 h7;replace h15 := Rp.mono w35 h15;replace o33 := o33.mono w35;obtain ⟨W, w37, hst, h36⟩ := ow_frz hst o33;replace h7 := Rp.mono w37 h7;replace h15 := Rp.mono w37 h15;replace h34 := Rp.mono w37 h34;obtain ⟨v38, l39, H40, fg41, W, f43, f44, f45, w42, hst, o46⟩ := ow_lit' (n := 1) (k := 2) (z := [.nils, .nils]) (ys := [v16, v25]) (M := ([[0, 1], [1, 0]] : List (List Int))) [(0, 1, v16), (1, 1, v25)] rfl rfl hst (sc_cons (show Rp.rv _ (v16) ([0, 1] : List Int) from h34) (sc_cons (show Rp.rv _ (v25) ([1, 0] : List Int) from h36) (sc_nil))) ((List.forall_mem_cons.2 ⟨(Rp.cells (show Rp.rv W (v16) ([0, 1] : List Int) from h34)), (List.forall_mem_cons.2 ⟨(Rp.cells (show Rp.rv W (v25) ([1, 0] : List Int) from h36)), fun _ h => (List.not_mem_nil h).elim⟩)⟩)) rfl rfl rfl (by decide);replace h7 := Rp.mono w42 h7;replace h15 := Rp.mono w42 h15;replace h34 := Rp.mono w42 h34;replace h36 := Rp.mono w42 h36;refine wpo_seg hp0 3 (fun s H' => s.length = 29 ∧ gt s 2 = .bool r10.2 ∧ gt s 13 = v38 ∧ H40 = H') (by simp only [↓runs, isCall, ↓reduceIte, ↓gd_true, ↓gd_false, evs, AV.cells, Nat.reduceEqDiff, Nat.reduceLT, reduceCtorEq, Nat.reduceAdd, sy, f21, f22, f23, f30, f31, f32, f43, f44, f45, g2, hl]) ?_;rintro s _ ⟨hl, g2, g13, rfl⟩;obtain ⟨W, w48, hst, h47⟩ := ow_frz hst o46;replace h7 := Rp.mono w48 h7;replace h15 := Rp.mono w48 h15;replace h34 := Rp.mono w48 h34;replace h36 := Rp.mono w48 h36;obtain ⟨r49, e50, hp⟩ := bn hp;refine wpo_callK hp0 rfl (ys := [v38]) (by simp only [evs, List.map_cons, List.map_nil, ev_t, ev_c, g13]) (R_subdirect_Irreducible hst h47 e50) ?_;rintro rv51 H ⟨W, w52, v53, hst, rfl, h54⟩;replace h7 := Rp.mono w52 h7;replace h15 := Rp.mono w52 h15;replace h34 := Rp.mono w52 h34;replace h36 := Rp.mono w52 h36;replace h47 := Rp.mono w52 h47;refine wpo_seg hp0 5 (fun s H' => s.length = 29 ∧ gt s 2 = .bool r10.2 ∧ gt s 4 = .bool r49.2 ∧ H = H') (by simp only [↓runs, isCall, ↓reduceIte, ↓gd_true, ↓gd_false, evs, AV.cells, Nat.reduceEqDiff, Nat.reduceLT, reduceCtorEq, Nat.reduceAdd, sy, gt_other, g2, g13, hl]) ?_;rintro s _ ⟨hl, g2, g4, rfl⟩;refine wpo_nil (then_n ?_);refine AM.wp_seq hp0 ?_;obtain ⟨z55, hj56, hp⟩ := bn hp;refine AM.wp_regK hp0 (fun s H' => ∃ (W' : AH), s.length = 29 ∧ gt s 0 = .bool z55 ∧  Wle W W' ∧ St G W' H') ?_ ?_
 ·rcases Bool.eq_false_or_eq_true (!r10.2) with c57 | c57
  ·replace hj56 := ifT c57 hj56;rcases Bool.eq_false_or_eq_true (r49.2) with c58 | c58
   ·replace hj56 := ifT c58 hj56;refine wpo_seg hp0 6 (fun s H' => s.length = 29 ∧ gt s 22 = .bool true ∧ H = H') (by simp only [↓runs, isCall, ↓reduceIte, ↓gd_true, ↓gd_false, evs, AV.cells, Nat.reduceEqDiff, Nat.reduceLT, reduceCtorEq, Nat.reduceAdd, sy, c57, c58, g2, g4, hl]) ?_;rintro s _ ⟨hl, g22, rfl⟩;refine wpo_callK hp0 (by simp only [wanted, g22, beq_self_eq_true]) (ys := []) (by simp only [evs, List.map_cons, List.map_nil, ev_t, ev_c]) (R_semigrouplaw22_klein hst e2) ?_;rintro rv59 H ⟨W, w60, fg61, hst, o62⟩;replace h7 := Rp.mono w60 h7;replace h15 := Rp.mono w60 h15;replace h34 := Rp.mono w60 h34;replace h36 := Rp.mono w60 h36;replace h47 := Rp.mono w60 h47;replace h54 := Rp.mono w60 h54;obtain ⟨v63, l64, H65, fg66, W, f68, f69, f70, w67, hst, o71⟩ := ow_lit' (n := 1) (k := 4) (z := [.int .i64 0, .int .i64 0, .int .i64 0, .int .i64 0]) (ys := [.int .i64 0, .int .i64 0, .int .i64 1, .int .i64 1]) (M := ([0, 0, 1, 1] : List (Int))) [(0, 1, .int .i64 0), (1, 1, .int .i64 0), (2, 1, .int .i64 1), (3, 1, .int .i64 1)] rfl rfl hst (sc_cons (show Rp.rv _ (.int .i64 0) (0 : Int) from rfl) (sc_cons (show Rp.rv _ (.int .i64 0) (0 : Int) from rfl) (sc_cons (show Rp.rv _ (.int .i64 1) (1 : Int) from rfl) (sc_cons (show Rp.rv _ (.int .i64 1) (1 : Int) from rfl) (sc_nil))))) ((List.forall_mem_cons.2 ⟨rfl, (List.forall_mem_cons.2 ⟨rfl, (List.forall_mem_cons.2 ⟨rfl, (List.forall_mem_cons.2 ⟨rfl, fun _ h => (List.not_mem_nil h).elim⟩)⟩)⟩)⟩)) rfl rfl rfl (by decide);replace h7 := Rp.mono w67 h7;replace h15 := Rp.mono w67 h15;replace h34 := Rp.mono w67 h34;replace h36 := Rp.mono w67 h36;replace h47 := Rp.mono w67 h47;replace h54 := Rp.mono w67 h54;replace o62 := o62.mono w67;obtain ⟨v72, l73, H74, fg75, W, f77, f78, f79, w76, hst, o80⟩ := ow_lit' (n := 1) (k := 4) (z := [.int .i64 0, .int .i64 0, .int .i64 0, .int .i64 0]) (ys := [.int .i64 0, .int .i64 1, .int .i64 0, .int .i64 1]) (M := ([0, 1, 0, 1] : List (Int))) [(0, 1, .int .i64 0), (1, 1, .int .i64 1), (2, 1, .int .i64 0), (3, 1, .int .i64 1)] rfl rfl hst (sc_cons (show Rp.rv _ (.int .i64 0) (0 : Int) from rfl) (sc_cons (show Rp.rv _ (.int .i64 1) (1 : Int) from rfl) (sc_cons (show Rp.rv _ (.int .i64 0) (0 : Int) from rfl) (sc_cons (show Rp.rv _ (.int .i64 1) (1 : Int) from rfl) (sc_nil))))) ((List.forall_mem_cons.2 ⟨rfl, (List.forall_mem_cons.2 ⟨rfl, (List.forall_mem_cons.2 ⟨rfl, (List.forall_mem_cons.2 ⟨rfl, fun _ h => (List.not_mem_nil h).elim⟩)⟩)⟩)⟩)) rfl rfl rfl (by decide);replace h7 := Rp.mono w76 h7;replace h15 := Rp.mono w76 h15;replace h34 := Rp.mono w76 h34;replace h36 := Rp.mono w76 h36;replace h47 := Rp.mono w76 h47;replace h54 := Rp.mono w76 h54;replace o62 := o62.mono w76;replace o71 := o71.mono w76;replace hst := hst.p1;obtain ⟨W, w82, hst, h81⟩ := ow_frz hst o71;replace h7 := Rp.mono w82 h7;replace h15 := Rp.mono w82 h15;replace h34 := Rp.mono w82 h34;replace h36 := Rp.mono w82 h36;replace h47 := Rp.mono w82 h47;replace h54 := Rp.mono w82 h54;replace o62 := o62.mono w82;replace o80 := o80.mono w82;obtain ⟨W, w84, hst, h83⟩ := ow_frz hst o80;replace h7 := Rp.mono w84 h7;replace h15 := Rp.mono w84 h15;replace h34 := Rp.mono w84 h34;replace h36 := Rp.mono w84 h36;replace h47 := Rp.mono w84 h47;replace h54 := Rp.mono w84 h54;replace h81 := Rp.mono w84 h81;replace o62 := o62.mono w84;obtain ⟨v85, l86, H87, fg88, W, f90, f91, f92, w89, hst, o93⟩ := ow_lit' (n := 1) (k := 2) (z := [.nils, .nils]) (ys := [v63, v72]) (M := ([[0, 0, 1, 1], [0, 1, 0, 1]] : List (List Int))) [(0, 1, v63), (1, 1, v72)] rfl rfl hst (sc_cons (show Rp.rv _ (v63) ([0, 0, 1, 1] : List Int) from h81) (sc_cons (show Rp.rv _ (v72) ([0, 1, 0, 1] : List Int) from h83) (sc_nil))) ((List.forall_mem_cons.2 ⟨(Rp.cells (show Rp.rv W (v63) ([0, 0, 1, 1] : List Int) from h81)), (List.forall_mem_cons.2 ⟨(Rp.cells (show Rp.rv W (v72) ([0, 1, 0, 1] : List Int) from h83)), fun _ h => (List.not_mem_nil h).elim⟩)⟩)) rfl rfl rfl (by decide);replace h7 := Rp.mono w89 h7;replace h15 := Rp.mono w89 h15;replace h34 := Rp.mono w89 h34;replace h36 := Rp.mono w89 h36;replace h47 := Rp.mono w89 h47;replace h54 := Rp.mono w89 h54;replace h81 := Rp.mono w89 h81;replace h83 := Rp.mono w89 h83;replace o62 := o62.mono w89;refine wpo_seg hp0 3 (fun s H' => s.length = 29 ∧ gt s 22 = .bool true ∧ gt s 23 = rv59 ∧ gt s 26 = v85 ∧ H87 = H') (by simp only [↓runs, isCall, ↓reduceIte, ↓gd_true, ↓gd_false, evs, AV.cells, Nat.reduceEqDiff, Nat.reduceLT, reduceCtorEq, Nat.reduceAdd, sy, gt_other, f68, f69, f70, f77, f78, f79, f90, f91, f92, g22, hl]) ?_;rintro s _ ⟨hl, g22, g23, g26, rfl⟩;replace hst := hst.p1;obtain ⟨W, w95, hst, h94⟩ := ow_frz hst o62;replace h7 := Rp.mono w95 h7;replace h15 := Rp.mono w95 h15;replace h34 := Rp.mono w95 h34;replace h36 := Rp.mono w95 h36;replace h47 := Rp.mono w95 h47;replace h54 := Rp.mono w95 h54;replace h81 := Rp.mono w95 h81;replace h83 := Rp.mono w95 h83;replace o93 := o93.mono w95;obtain ⟨W, w97, hst, h96⟩ := ow_frz hst o93;replace h7 := Rp.mono w97 h7;replace h15 := Rp.mono w97 h15;replace h34 := Rp.mono w97 h34;replace h36 := Rp.mono w97 h36;replace h47 := Rp.mono w97 h47;replace h54 := Rp.mono w97 h54;replace h81 := Rp.mono w97 h81;replace h83 := Rp.mono w97 h83;replace h94 := Rp.mono w97 h94;obtain ⟨r98, e99, hj56⟩ := bn hj56;refine wpo_callK hp0 (by simp only [wanted, g22, beq_self_eq_true]) (ys := [rv59, v85]) (by simp only [evs, List.map_cons, List.map_nil, ev_t, ev_c, g23, g26]) (R_subdirect_Check hst h94 h96 e99) ?_;rintro rv100 H ⟨W, w101, hst, rfl⟩;replace h7 := Rp.mono w101 h7;replace h15 := Rp.mono w101 h15;replace h34 := Rp.mono w101 h34;replace h36 := Rp.mono w101 h36;replace h47 := Rp.mono w101 h47;replace h54 := Rp.mono w101 h54;replace h81 := Rp.mono w101 h81;replace h83 := Rp.mono w101 h83;replace h94 := Rp.mono w101 h94;replace h96 := Rp.mono w101 h96;refine wpo_seg hp0 2 (fun s H' => s.length = 29 ∧ gt s 0 = .bool r98 ∧ H = H') (by simp only [↓runs, isCall, ↓reduceIte, ↓gd_true, ↓gd_false, evs, AV.cells, Nat.reduceEqDiff, Nat.reduceLT, reduceCtorEq, Nat.reduceAdd, sy, gt_other, g22, g23, g26, hl]) ?_;rintro s _ ⟨hl, g0, rfl⟩;refine wpo_nil ?_;obtain rfl := Option.some.inj hj56;exact ⟨W, hl, g0, ((((((((w60.trans w67).trans w76).trans w82).trans w84).trans w89).trans w95).trans w97).trans w101), hst⟩
   ·replace hj56 := ifF c58 hj56;refine wpo_seg hp0 13 (fun s H' => s.length = 29 ∧ gt s 0 = .bool false ∧ H = H') (by simp (maxSteps := 1000000) only [↓runs, isCall, ↓reduceIte, ↓gd_true, ↓gd_false, evs, AV.cells, Nat.reduceEqDiff, Nat.reduceLT, reduceCtorEq, Nat.reduceAdd, sy, c57, c58, g2, g4, hl]) ?_;rintro s _ ⟨hl, g0, rfl⟩;refine wpo_nil ?_;obtain rfl := Option.some.inj hj56;exact ⟨W, hl, g0, .refl _, hst⟩
  ·replace hj56 := ifF c57 hj56;refine wpo_seg hp0 13 (fun s H' => s.length = 29 ∧ gt s 0 = .bool false ∧ H = H') (by simp (maxSteps := 1000000) only [↓runs, isCall, ↓reduceIte, ↓gd_true, ↓gd_false, evs, AV.cells, Nat.reduceEqDiff, Nat.reduceLT, reduceCtorEq, Nat.reduceAdd, sy, c57, g2, g4, hl]) ?_;rintro s _ ⟨hl, g0, rfl⟩;refine wpo_nil ?_;obtain rfl := Option.some.inj hj56;exact ⟨W, hl, g0, .refl _, hst⟩
 ·rintro s H ⟨W, hl, g0, w102, hst⟩;refine then_n ?_;refine AM.wp_ret ?_;obtain rfl := Option.some.inj hp;refine body_ret (vs := [.bool z55]) (by simp only [rvs, f_semigrouplaw22_awake, Option.map_some, g0]) ?_;exact ⟨W, ((((((((((w4.trans w9).trans w13).trans w20).trans w29).trans w35).trans w37).trans w42).trans w48).trans w52).trans w102), hst, rfl⟩

end Go.Proofs.Ytmdpejgnkoneoaa.Pu
set_option maxRecDepth 100000
set_option maxHeartbeats 4000000
namespace Go.Proofs.Ytmdpejgnkoneoaa.Pu
open Go Go.AM Go.Proofs.Ytmdpejgnkoneoaa.Code

end Go.Proofs.Ytmdpejgnkoneoaa.Pu
namespace Go.Proofs.Ytmdpejgnkoneoaa.Mt
open Go Go.AM Go.AM.Par Go.AM.Cg Go.AM.Lx Go.Proofs.Ytmdpejgnkoneoaa.Pu

theorem sg_of {t : List (List Int)} {n : Nat} (hl : t.length = n) (h0 : 0 < n) (h1 : n ≤ 400) (hr : ∀ x, x < n → (t.getD x []).length = n) (hv : ∀ x, x < n → ∀ y, y < n → (t.getD x []).getD y 0 = (natT t x y : Int) ∧ natT t x y < n)
    (ha : ∀ x, x < n → ∀ y, y < n → ∀ z, z < n → natT t (natT t x y) z = natT t x (natT t y z)) : Sg t n (natT t) :=
  ⟨⟨hl, h0, h1, hr, fun x y hx hy => (hv x hx y hy).1, fun x y hx hy => (hv x hx y hy).2⟩, fun x y z hx hy hz => ha x hx y hy z hz⟩
abbrev kT : List (List Int) := [[0, 1, 2, 3], [1, 0, 3, 2], [2, 3, 0, 1], [3, 2, 1, 0]]
abbrev zT : List (List Int) := [[0, 1], [1, 0]]
abbrev kP : List Int := [0, 0, 1, 1]
abbrev kQ : List Int := [0, 1, 0, 1]
theorem k_sg : Sg kT 4 (natT kT) := sg_of rfl (by omega) (by omega) (by decide) (by decide) (by decide)
theorem z_sg : Sg zT 2 (natT zT) := sg_of rfl (by omega) (by omega) (by decide) (by decide) (by decide)
theorem congL_of {n : Nat} {T : Nat → Nat → Nat} {p : List Int} (hl : p.length = n) (hv : validP p = true) (h : ∀ x, x < n → ∀ y, y < n → ∀ s, s < n → p.getD x 0 = p.getD y 0 → p.getD (T s x) 0 = p.getD (T s y) 0 ∧ p.getD (T x s) 0 = p.getD (T y s) 0) : CongL n T 0 p :=
  ⟨hl, hv, fun x y s hx hy hs e => ⟨fun _ => (h x hx y hy s hs e).1, fun _ => (h x hx y hy s hs e).2⟩⟩
theorem kP_cong : CongL 4 (natT kT) 0 kP := congL_of rfl (by decide) (by decide)
theorem kQ_cong : CongL 4 (natT kT) 0 kQ := congL_of rfl (by decide) (by decide)
theorem kPQ : ∀ x, x < 4 → ∀ y, y < 4 → kP.getD x 0 = kP.getD y 0 → kQ.getD x 0 = kQ.getD y 0 → x = y := by decide
theorem si_two (T : Nat → Nat → Nat) : SI 2 T := by
  refine ⟨Nat.le_refl _, fun h => ?_⟩
  have := h 0 1 (by omega) (by omega) fun a b ha hb hne => by
    rcases (by omega : (a = 0 ∧ b = 1) ∨ (a = 1 ∧ b = 0)) with ⟨rfl, rfl⟩ | ⟨rfl, rfl⟩
    · exact Gen.has (p := (0, 1)) (by simp)
    · exact Gen.cgr.symm _ _ (Gen.has (p := (1, 0)) (by simp))
  omega
theorem k_disc : Disc 4 (Mon 4 (natT kT)) := fun u v hu hv h => by
  have h1 := h 0 1 (by omega) (by omega) (by omega) _ (kP_cong.cgr k_sg.lt) (fun p hp => by
    simp only [List.mem_singleton] at hp; subst hp; exact (Ker.iff (by omega) (by omega)).2 rfl)
  have h2 := h 0 2 (by omega) (by omega) (by omega) _ (kQ_cong.cgr k_sg.lt) (fun p hp => by
    simp only [List.mem_singleton] at hp; subst hp; exact (Ker.iff (by omega) (by omega)).2 rfl)
  exact kPQ u hu v hv ((Ker.iff hu hv).1 h1) ((Ker.iff hu hv).1 h2)
theorem k_chk : ChkP 4 (natT kT) [kP, kQ] := by
  refine ⟨fun k hk => ?_, fun x y hx hy h => ?_, fun k hk h => ?_⟩
  · rcases (by simp only [List.length_cons, List.length_nil] at hk; omega : k = 0 ∨ k = 1) with rfl | rfl
    · exact ⟨kP_cong, si_two _⟩
    · exact ⟨kQ_cong, si_two _⟩
  · exact kPQ x hx y hy (h 0 (by decide) (by decide)) (h 1 (by decide) (by decide))
  · rcases (by simp only [List.length_cons, List.length_nil] at hk; omega : k = 0 ∨ k = 1) with rfl | rfl
    · have := h 0 2 (by omega) (by omega) fun j hj hne => by
        have : j = 1 := by simp only [List.length_cons, List.length_nil] at hj; omega
        subst this; rfl
      omega
    · have := h 0 1 (by omega) (by omega) fun j hj hne => by
        have : j = 0 := by simp only [List.length_cons, List.length_nil] at hj; omega
        subst this; rfl
      omega
open Classical in
theorem awake : P_semigrouplaw22_awake = some true := by
  unfold P_semigrouplaw22_awake P_semigrouplaw22_klein
  simp only [Option.bind_some]
  rcases irreducible k_sg with ⟨a, _⟩ | ⟨p, _, _, c, _⟩
  · rcases irreducible z_sg with ⟨_, b⟩ | ⟨p, a2, _⟩
    · rcases b with b | b
      · omega
      · exact absurd b (si_two _).2
    · rw [a, a2]
      simp only [Option.bind_some, Bool.not_false, if_true]
      rw [check k_sg, decide_eq_true k_chk]
      rfl
  · exact absurd k_disc c
end Go.Proofs.Ytmdpejgnkoneoaa.Mt
set_option maxRecDepth 100000
set_option maxHeartbeats 4000000
namespace Go.Proofs.Ytmdpejgnkoneoaa.Pu
open Go Go.AM Go.Proofs.Ytmdpejgnkoneoaa.Code

noncomputable def P_subdirect_apart_l35 (a : Int) (b_ : Int) (k20 : Nat) (t : List (List Int)) (p43 : List Int) (pairs44 : List (Int × Int)) (x45 : Int) : Option (Lp ((List Int) × (List (Int × Int)) × Int) (Empty)) :=
 if decide (x45 < (k20 : Int)) then
  Option.bind (gi p43 x45) fun x54 =>
  Option.bind (gi p43 (k20 : Int)) fun x61 =>
  if decide (x54 = x61) then
   some (.go (p43, pairs44, w64 (x45 + 1)))
  else
   Option.bind (pus 16 [] pairs44) fun x80 =>
   Option.bind (pus 16 x80 [(x45, (k20 : Int))]) fun x100 =>
   Option.bind (P_congr_Generated t x100 0) fun r108 =>
   Option.bind (gi r108 a) fun x118 =>
   Option.bind (gi r108 b_) fun x125 =>
   if !decide (x118 = x125) then
    some (.go (r108, x100, w64 (x45 + 1)))
   else
    some (.go (p43, pairs44, w64 (x45 + 1)))
 else
  some (.br (p43, pairs44, x45))
noncomputable def P_subdirect_apart_l18 (a : Int) (b_ : Int) (t : List (List Int)) (k20 : Nat) (p26 : List Int) (pairs27 : List (Int × Int)) : Option ((List Int) × (List (Int × Int))) :=
 Option.bind (loopO (fun x => P_subdirect_apart_l35 a b_ k20 t x.1 x.2.1 x.2.2) (p26, pairs27, 0)) fun z41 =>
 match z41 with
 | .inl x133 =>
  some (x133.1, x133.2.1)
 | .inr b => b.elim
noncomputable def P_subdirect_apart (t : List (List Int)) (a : Int) (b_ : Int) : Option ((List Int)) :=
 Option.bind (P_partition_Discrete (t.length : Int)) fun r2 =>
 Option.bind (forS t.length (fun k x => P_subdirect_apart_l18 a b_ t k x.1 x.2) (r2, [])) fun z24 =>
 some z24.1
theorem R_subdirect_apart {G : List Frag} {W H : AH} {v_0 : AV} {t : List (List Int)} {a : Int} {b_ : Int} (hst : St G W H) (h_0 : Rp.rv W v_0 t) {r : (List Int)} (hp : P_subdirect_apart t a b_ = some r) :
  wpc E0 N_subdirect_apart [v_0, .int .i64 a, .int .i64 b_] H fun rv H' => ∃ W', Wle W W' ∧ ∃ (g0 : Frag), St (g0 :: G) W' H' ∧ OwS W' rv g0 (r : List Int) := by
 refine enterN (F := f_subdirect_apart) rfl (Nat.le_of_ble_eq_true rfl) fun s hl hg => ?_;replace hl : s.length = 60 := hl;have g0 : gt s 0 = v_0 := hg 0 (Nat.le_of_ble_eq_true rfl);have g1 : gt s 1 = .int .i64 a := hg 1 (Nat.le_of_ble_eq_true rfl);have g2 : gt s 2 = .int .i64 b_ := hg 2 (Nat.le_of_ble_eq_true rfl);clear hg;unfold P_subdirect_apart at hp;show wp E0 c_subdirect_apart s H _;unfold c_subdirect_apart;refine AM.wp_seq hp0 (AM.wp_reg hp0 ?_);refine wpo_seg hp0 1 (fun s H' => s.length = 60 ∧ gt s 0 = v_0 ∧ gt s 1 = .int .i64 a ∧ gt s 2 = .int .i64 b_ ∧ H = H') (by simp only [↓runs, isCall, ↓reduceIte, ↓gd_true, ↓gd_false, evs, AV.cells, Nat.reduceEqDiff, Nat.reduceLT, reduceCtorEq, Nat.reduceAdd, sy, g0, g1, g2, hl]) ?_;rintro s _ ⟨hl, g0, g1, g2, rfl⟩;refine wpo_nil (then_n ?_);refine AM.wp_seq hp0 (AM.wp_reg hp0 ?_);have f1 := fz_ln h_0;refine wpo_seg hp0 2 (fun s H' => s.length = 60 ∧ gt s 0 = v_0 ∧ gt s 1 = .int .i64 a ∧ gt s 2 = .int .i64 b_ ∧ gt s 14 = .int .i64 (t.length : Int) ∧ H = H') (by simp only [↓runs, isCall, ↓reduceIte, ↓gd_true, ↓gd_false, evs, AV.cells, Nat.reduceEqDiff, Nat.reduceLT, reduceCtorEq, Nat.reduceAdd, sy, f1, g0, g1, g2, hl]) ?_;rintro s _ ⟨hl, g0, g1, g2, g14, rfl⟩;obtain ⟨r2, e3, hp⟩ := bn hp;refine wpo_callK hp0 rfl (ys := [.int .i64 (t.length : Int)]) (by simp only [evs, List.map_cons, List.map_nil, ev_t, ev_c, g14]) (R_partition_Discrete hst e3) ?_;rintro rv4 H ⟨W, w5, fg6, hst, o7⟩;replace h_0 := Rp.mono w5 h_0;refine wpo_seg hp0 1 (fun s H' => s.length = 60 ∧ gt s 0 = v_0 ∧ gt s 1 = .int .i64 a ∧ gt s 2 = .int .i64 b_ ∧ gt s 7 = rv4 ∧ H = H') (by simp only [↓runs, isCall, ↓reduceIte, ↓gd_true, ↓gd_false, evs, AV.cells, Nat.reduceEqDiff, Nat.reduceLT, reduceCtorEq, Nat.reduceAdd, sy, gt_other, g0, g1, g2, g14, hl]) ?_;rintro s _ ⟨hl, g0, g1, g2, g7, rfl⟩;refine wpo_nil (then_n ?_);refine AM.wp_seq hp0 (AM.wp_reg hp0 ?_);obtain ⟨v8, l9, H10, fg11, W, f13, f14, f15, w12, hst, o16⟩ := ow_lit' (n := 2) (k := 0) (z := []) (ys := []) (M := ([] : List (Int × Int))) [] rfl rfl hst (sc_nil) ( fun _ h => (List.not_mem_nil h).elim) rfl rfl rfl (by decide);replace h_0 := Rp.mono w12 h_0;replace o7 := o7.mono w12;refine wpo_seg hp0 2 (fun s H' => s.length = 60 ∧ gt s 0 = v_0 ∧ gt s 1 = .int .i64 a ∧ gt s 2 = .int .i64 b_ ∧ gt s 7 = rv4 ∧ gt s 8 = v8 ∧ H10 = H') (by simp only [↓runs, isCall, ↓reduceIte, ↓gd_true, ↓gd_false, evs, AV.cells, Nat.reduceEqDiff, Nat.reduceLT, reduceCtorEq, Nat.reduceAdd, sy, f13, f14, f15, g0, g1, g2, g7, hl]) ?_;rintro s _ ⟨hl, g0, g1, g2, g7, g8, rfl⟩;refine wpo_nil (then_n ?_);refine AM.wp_seq hp0 (AM.wp_seq hp0 (AM.wp_reg hp0 ?_));have f17 := fz_ln h_0;refine wpo_seg hp0 3 (fun s H' => s.length = 60 ∧ gt s 0 = v_0 ∧ gt s 1 = .int .i64 a ∧ gt s 2 = .int .i64 b_ ∧ gt s 7 = rv4 ∧ gt s 8 = v8 ∧ gt s 18 = .int .i64 (t.length : Int) ∧ gt s 19 = .int .i64 0 ∧ H10 = H') (by simp only [↓runs, isCall, ↓reduceIte, ↓gd_true, ↓gd_false, evs, AV.cells, Nat.reduceEqDiff, Nat.reduceLT, reduceCtorEq, Nat.reduceAdd, sy, f17, g0, g1, g2, g7, g8, hl]) ?_;rintro s _ ⟨hl, g0, g1, g2, g7, g8, g18, g19, rfl⟩;refine wpo_nil (then_n ?_);obtain ⟨z24, e25, hp⟩ := bn hp;refine rangeS_ref hp0 60 t.length (fun k x => P_subdirect_apart_l18 a b_ t k x.1 x.2) (fun _ x s H' => ∃ (W' : AH) (w7 : AV) (q7 : Frag) (w8 : AV) (q8 : Frag), s.length = 60 ∧ gt s 7 = w7 ∧ gt s 8 = w8 ∧ gt s 0 = v_0 ∧ gt s 1 = .int .i64 a ∧ gt s 2 = .int .i64 b_ ∧  Wle W W' ∧ St (q7 :: q8 :: G) W' H' ∧ OwS W' w7 q7 (x.1 : List Int) ∧ OwS W' w8 q8 (x.2 : List (Int × Int))) e25 (fz_big h_0) rfl ?_ ?_ hl g19 g18 ?_ ?_
 ·intro k x s H d v hd h; rcases hd with rfl | rfl | rfl <;> simpa only [gt_other, pt_length, Nat.reduceEqDiff, not_false_eq_true] using h
 ·replace hst := hst.p1;exact ⟨W, _, _, _, _, hl, g7, g8, g0, g1, g2, .refl _, hst, o7, o16⟩
 ·intro k20 x19 y21 s H hk hI hl g19 g18 hy22;obtain ⟨p26, pairs27⟩ := x19;dsimp only at hI;change P_subdirect_apart_l18 a b_ t k20 p26 pairs27 = some y21 at hy22;unfold P_subdirect_apart_l18 at hy22;obtain ⟨W, v29, fg30, v32, fg33, hl, g7, g8, g0, g1, g2, w28, hst, o31, o34⟩ := hI;replace h_0 := Rp.mono w28 h_0;refine AM.wp_seq hp0 (AM.wp_reg hp0 ?_);refine wpo_seg hp0 2 (fun s H' => s.length = 60 ∧ gt s 0 = v_0 ∧ gt s 1 = .int .i64 a ∧ gt s 2 = .int .i64 b_ ∧ gt s 7 = v29 ∧ gt s 8 = v32 ∧ gt s 9 = .int .i64 (k20 : Int) ∧ gt s 18 = .int .i64 (t.length : Int) ∧ gt s 19 = .int .i64 (k20 : Int) ∧ H = H') (by simp only [↓runs, isCall, ↓reduceIte, ↓gd_true, ↓gd_false, evs, AV.cells, Nat.reduceEqDiff, Nat.reduceLT, reduceCtorEq, Nat.reduceAdd, sy, g0, g1, g2, g7, g8, g18, g19, hl]) ?_;rintro s _ ⟨hl, g0, g1, g2, g7, g8, g9, g18, g19, rfl⟩;refine wpo_nil (then_n ?_);refine AM.wp_seq hp0 (AM.wp_reg hp0 ?_);refine wpo_seg hp0 1 (fun s H' => s.length = 60 ∧ gt s 0 = v_0 ∧ gt s 1 = .int .i64 a ∧ gt s 2 = .int .i64 b_ ∧ gt s 7 = v29 ∧ gt s 8 = v32 ∧ gt s 9 = .int .i64 (k20 : Int) ∧ gt s 10 = .int .i64 0 ∧ gt s 18 = .int .i64 (t.length : Int) ∧ gt s 19 = .int .i64 (k20 : Int) ∧ H = H') (by simp only [↓runs, isCall, ↓reduceIte, ↓gd_true, ↓gd_false, evs, AV.cells, Nat.reduceEqDiff, Nat.reduceLT, reduceCtorEq, Nat.reduceAdd, sy, g0, g1, g2, g7, g8, g9, g18, g19, hl]) ?_;rintro s _ ⟨hl, g0, g1, g2, g7, g8, g9, g10, g18, g19, rfl⟩;refine wpo_nil (then_n ?_);obtain ⟨z41, e42, hy22⟩ := bn hy22;refine loop_ref hp0 (fun x => P_subdirect_apart_l35 a b_ k20 t x.1 x.2.1 x.2.2) (fun x s H' => ∃ (W' : AH) (w7 : AV) (q7 : Frag) (w8 : AV) (q8 : Frag), s.length = 60 ∧ gt s 7 = w7 ∧ gt s 8 = w8 ∧ gt s 10 = .int .i64 x.2.2 ∧ gt s 0 = v_0 ∧ gt s 1 = .int .i64 a ∧ gt s 2 = .int .i64 b_ ∧ gt s 9 = .int .i64 (k20 : Int) ∧ gt s 18 = .int .i64 (t.length : Int) ∧ gt s 19 = .int .i64 (k20 : Int) ∧  Wle W W' ∧ St (q7 :: q8 :: G) W' H' ∧ OwS W' w7 q7 (x.1 : List Int) ∧ OwS W' w8 q8 (x.2.1 : List (Int × Int))) (fun x s H' => ∃ (W' : AH) (w7 : AV) (q7 : Frag) (w8 : AV) (q8 : Frag), s.length = 60 ∧ gt s 7 = w7 ∧ gt s 8 = w8 ∧ gt s 0 = v_0 ∧ gt s 1 = .int .i64 a ∧ gt s 2 = .int .i64 b_ ∧ gt s 18 = .int .i64 (t.length : Int) ∧ gt s 19 = .int .i64 (k20 : Int) ∧  Wle W W' ∧ St (q7 :: q8 :: G) W' H' ∧ OwS W' w7 q7 (x.1 : List Int) ∧ OwS W' w8 q8 (x.2.1 : List (Int × Int))) e42 ?_ ?_ ?_
  ·replace hst := hst.p1;replace hst := hst.p1;exact ⟨W, _, _, _, _, hl, g7, g8, g10, g0, g1, g2, g9, g18, g19, .refl _, hst, o31, o34⟩
  ·intro x36 y38 s H hI hy39 hx40;obtain ⟨p43, pairs44, x45⟩ := x36;dsimp only at hI;change P_subdirect_apart_l35 a b_ k20 t p43 pairs44 x45 = some y38 at hy39;unfold P_subdirect_apart_l35 at hy39;obtain ⟨W, v47, fg48, v50, fg51, hl, g7, g8, g10, g0, g1, g2, g9, g18, g19, w46, hst, o49, o52⟩ := hI;replace h_0 := Rp.mono w46 h_0;refine AM.wp_seq hp0 (AM.wp_seq hp0 (AM.wp_reg hp0 ?_));refine wpo_seg hp0 3 (fun s H' => s.length = 60 ∧ gt s 0 = v_0 ∧ gt s 1 = .int .i64 a ∧ gt s 2 = .int .i64 b_ ∧ gt s 7 = v47 ∧ gt s 8 = v50 ∧ gt s 9 = .int .i64 (k20 : Int) ∧ gt s 10 = .int .i64 x45 ∧ gt s 18 = .int .i64 (t.length : Int) ∧ gt s 19 = .int .i64 (k20 : Int) ∧ gt s 24 = .bool (decide (x45 < (k20 : Int))) ∧ H = H') (by simp only [↓runs, isCall, ↓reduceIte, ↓gd_true, ↓gd_false, evs, AV.cells, Nat.reduceEqDiff, Nat.reduceLT, reduceCtorEq, Nat.reduceAdd, sy, g0, g1, g2, g7, g8, g9, g10, g18, g19, hl]) ?_;rintro s _ ⟨hl, g0, g1, g2, g7, g8, g9, g10, g18, g19, g24, rfl⟩;refine wpo_nil (then_n ?_);rcases Bool.eq_false_or_eq_true (decide (x45 < (k20 : Int))) with c53 | c53
   ·replace hy39 := ifT c53 hy39;refine AM.wp_condT (by simp only [ev_t, ev_c, g24, c53]) ?_;refine AM.wp_skip ?_;refine then_n ?_;refine AM.wp_seq hp0 ?_;refine AM.wp_block ?_;refine AM.wp_seq hp0 (AM.wp_seq hp0 (AM.wp_reg hp0 ?_));obtain ⟨x54, e55, hy39⟩ := bn hy39;obtain ⟨p56, _, f58, f59, rfl⟩ := ow_at (k := .i64) hst (.head _) o49 e55 rfl;obtain ⟨x61, e62, hy39⟩ := bn hy39;obtain ⟨p63, _, f65, f66, rfl⟩ := ow_at (k := .i64) hst (.head _) o49 e62 rfl;refine wpo_seg hp0 9 (fun s H' => s.length = 60 ∧ gt s 0 = v_0 ∧ gt s 1 = .int .i64 a ∧ gt s 2 = .int .i64 b_ ∧ gt s 7 = v47 ∧ gt s 8 = v50 ∧ gt s 9 = .int .i64 (k20 : Int) ∧ gt s 10 = .int .i64 x45 ∧ gt s 18 = .int .i64 (t.length : Int) ∧ gt s 19 = .int .i64 (k20 : Int) ∧ gt s 35 = .bool (decide (x54 = x61)) ∧ H = H') (by simp only [↓runs, isCall, ↓reduceIte, ↓gd_true, ↓gd_false, evs, AV.cells, Nat.reduceEqDiff, Nat.reduceLT, reduceCtorEq, Nat.reduceAdd, sy, f58, f59, f65, f66, g0, g1, g2, g7, g8, g9, g10, g18, g19, g24, hl]) ?_;rintro s _ ⟨hl, g0, g1, g2, g7, g8, g9, g10, g18, g19, g35, rfl⟩;refine wpo_nil (then_n ?_);rcases Bool.eq_false_or_eq_true (decide (x54 = x61)) with c68 | c68
    ·replace hy39 := ifT c68 hy39;refine AM.wp_condT (by simp only [ev_t, ev_c, g35, c68]) ?_;refine AM.wp_exit ?_;refine then_x ?_;refine blk_h rfl ?_;refine then_n ?_;refine AM.wp_reg hp0 ?_;refine wpo_seg hp0 3 (fun s H' => s.length = 60 ∧ gt s 0 = v_0 ∧ gt s 1 = .int .i64 a ∧ gt s 2 = .int .i64 b_ ∧ gt s 7 = v47 ∧ gt s 8 = v50 ∧ gt s 9 = .int .i64 (k20 : Int) ∧ gt s 10 = .int .i64 (w64 (x45 + 1)) ∧ gt s 18 = .int .i64 (t.length : Int) ∧ gt s 19 = .int .i64 (k20 : Int) ∧ H = H') (by simp only [↓runs, isCall, ↓reduceIte, ↓gd_true, ↓gd_false, evs, AV.cells, Nat.reduceEqDiff, Nat.reduceLT, reduceCtorEq, Nat.reduceAdd, sy, g0, g1, g2, g7, g8, g9, g10, g18, g19, g35, hl]) ?_;rintro s _ ⟨hl, g0, g1, g2, g7, g8, g9, g10, g18, g19, rfl⟩;refine wpo_nil (then_n ?_);obtain rfl := Option.some.inj hy39;replace hst := hst.p1;replace hst := hst.p1;exact ⟨_, rfl, ⟨W, _, _, _, _, hl, g7, g8, g10, g0, g1, g2, g9, g18, g19, w46, hst, o49, o52⟩⟩
    ·replace hy39 := ifF c68 hy39;refine AM.wp_condF (by simp only [ev_t, ev_c, g35, c68]) ?_;refine AM.wp_skip ?_;refine then_n ?_;refine AM.wp_seq hp0 (AM.wp_reg hp0 ?_);obtain ⟨v69, l70, H71, fg72, W, f74, f75, f76, w73, hst, o77⟩ := ow_lit' (n := 2) (k := 0) (z := []) (ys := []) (M := ([] : List (Int × Int))) [] rfl rfl hst (sc_nil) ( fun _ h => (List.not_mem_nil h).elim) rfl rfl rfl (by decide);replace h_0 := Rp.mono w73 h_0;replace o49 := o49.mono w73;replace o52 := o52.mono w73;obtain ⟨c78, sn79⟩ := ow_sn hst (.tail _ (.tail _ (.head _))) o52;obtain ⟨x80, e81, hy39⟩ := bn hy39;obtain ⟨v82, H83, fg84, W, f86, w85, hst, o87⟩ := ow_apps [.int .i64 0, .int .i64 0] rfl hst o77 sn79 e81;replace h_0 := Rp.mono w85 h_0;replace o49 := o49.mono w85;replace o52 := o52.mono w85;have f88 : fillA [.int .i64 0, .int .i64 0] [(0, 1, .int .i64 x45), (1, 1, .int .i64 (k20 : Int))] = some [.int .i64 x45, .int .i64 (k20 : Int)] := by simp [fillA, splice, AV.cells]
     obtain ⟨v89, l90, H91, fg92, W, f94, f95, f96, w93, hst, o97⟩ := ow_lit' (n := 2) (k := 1) (z := [.int .i64 0, .int .i64 0]) (ys := [.agg [.int .i64 x45, .int .i64 (k20 : Int)]]) (M := ([(x45, (k20 : Int))] : List (Int × Int))) [(0, 2, .agg [.int .i64 x45, .int .i64 (k20 : Int)])] rfl rfl hst (sc_cons (show Rp.rv _ (.agg [.int .i64 x45, .int .i64 (k20 : Int)]) ((x45, (k20 : Int)) : Int × Int) from (mk_ii _ _ _)) (sc_nil)) ((List.forall_mem_cons.2 ⟨(Rp.cells (show Rp.rv W (.agg [.int .i64 x45, .int .i64 (k20 : Int)]) ((x45, (k20 : Int)) : Int × Int) from (mk_ii _ _ _))), fun _ h => (List.not_mem_nil h).elim⟩)) rfl rfl rfl (by decide);replace h_0 := Rp.mono w93 h_0;replace o49 := o49.mono w93;replace o52 := o52.mono w93;replace o87 := o87.mono w93;obtain ⟨c98, sn99⟩ := ow_sn hst (.head _) o97;obtain ⟨x100, e101, hy39⟩ := bn hy39;replace hst := hst.p1;obtain ⟨v102, H103, fg104, W, f106, w105, hst, o107⟩ := ow_apps [.int .i64 0, .int .i64 0] rfl hst o87 sn99 e101;replace h_0 := Rp.mono w105 h_0;replace o49 := o49.mono w105;replace o52 := o52.mono w105;replace o97 := o97.mono w105;refine wpo_seg hp0 9 (fun s H' => s.length = 60 ∧ gt s 0 = v_0 ∧ gt s 1 = .int .i64 a ∧ gt s 2 = .int .i64 b_ ∧ gt s 7 = v47 ∧ gt s 8 = v50 ∧ gt s 9 = .int .i64 (k20 : Int) ∧ gt s 10 = .int .i64 x45 ∧ gt s 11 = v102 ∧ gt s 18 = .int .i64 (t.length : Int) ∧ gt s 19 = .int .i64 (k20 : Int) ∧ H103 = H') (by simp only [↓runs, isCall, ↓reduceIte, ↓gd_true, ↓gd_false, evs, AV.cells, Nat.reduceEqDiff, Nat.reduceLT, reduceCtorEq, Nat.reduceAdd, sy, f74, f75, f76, f86, f88, f94, f95, f96, f106, g0, g1, g2, g7, g8, g9, g10, g18, g19, g35, hl]) ?_;rintro s _ ⟨hl, g0, g1, g2, g7, g8, g9, g10, g11, g18, g19, rfl⟩;refine wpo_nil (then_n ?_);refine AM.wp_seq hp0 (AM.wp_reg hp0 ?_);refine wpo_seg hp0 2 (fun s H' => s.length = 60 ∧ gt s 0 = v_0 ∧ gt s 1 = .int .i64 a ∧ gt s 2 = .int .i64 b_ ∧ gt s 7 = v47 ∧ gt s 8 = v50 ∧ gt s 9 = .int .i64 (k20 : Int) ∧ gt s 10 = .int .i64 x45 ∧ gt s 11 = v102 ∧ gt s 18 = .int .i64 (t.length : Int) ∧ gt s 19 = .int .i64 (k20 : Int) ∧ gt s 44 = v_0 ∧ gt s 45 = v102 ∧ H103 = H') (by simp only [↓runs, isCall, ↓reduceIte, ↓gd_true, ↓gd_false, evs, AV.cells, Nat.reduceEqDiff, Nat.reduceLT, reduceCtorEq, Nat.reduceAdd, sy, g0, g1, g2, g7, g8, g9, g10, g11, g18, g19, hl]) ?_;rintro s _ ⟨hl, g0, g1, g2, g7, g8, g9, g10, g11, g18, g19, g44, g45, rfl⟩;obtain ⟨r108, e109, hy39⟩ := bn hy39;obtain ⟨W, w110, hst, h111, k112⟩ := ow_lend hst o107;refine wpo_callK hp0 rfl (ys := [v_0, v102, .int .i64 0]) (by simp only [evs, List.map_cons, List.map_nil, ev_t, ev_c, g44, g45]) (R_congr_Generated hst (Rp.mono w110 h_0) h111 e109) ?_;rintro rv113 H ⟨W, w114, fg115, hst, o116⟩;obtain ⟨W, w117, hst, o107⟩ := k112 _ _ _ w114 hst;replace o116 : OwS W _ _ _ := o116.flat;replace h_0 := Rp.mono w117 h_0;replace o49 := o49.mono w117;replace o52 := o52.mono w117;replace o97 := o97.mono w117;refine wpo_seg hp0 1 (fun s H' => s.length = 60 ∧ gt s 0 = v_0 ∧ gt s 1 = .int .i64 a ∧ gt s 2 = .int .i64 b_ ∧ gt s 7 = v47 ∧ gt s 8 = v50 ∧ gt s 9 = .int .i64 (k20 : Int) ∧ gt s 10 = .int .i64 x45 ∧ gt s 11 = v102 ∧ gt s 12 = rv113 ∧ gt s 18 = .int .i64 (t.length : Int) ∧ gt s 19 = .int .i64 (k20 : Int) ∧ H = H') (by simp only [↓runs, isCall, ↓reduceIte, ↓gd_true, ↓gd_false, evs, AV.cells, Nat.reduceEqDiff, Nat.reduceLT, reduceCtorEq, Nat.reduceAdd, sy, gt_other, g0, g1, g2, g7, g8, g9, g10, g11, g18, g19, g44, g45, hl]) ?_;rintro s _ ⟨hl, g0, g1, g2, g7, g8, g9, g10, g11, g12, g18, g19, rfl⟩;refine wpo_nil (then_n ?_);refine AM.wp_seq hp0 (AM.wp_reg hp0 ?_);obtain ⟨x118, e119, hy39⟩ := bn hy39;obtain ⟨p120, _, f122, f123, rfl⟩ := ow_at (k := .i64) hst (.tail _ (.head _)) o116 e119 rfl;obtain ⟨x125, e126, hy39⟩ := bn hy39;obtain ⟨p127, _, f129, f130, rfl⟩ := ow_at (k := .i64) hst (.tail _ (.head _)) o116 e126 rfl;refine wpo_seg hp0 9 (fun s H' => s.length = 60 ∧ gt s 0 = v_0 ∧ gt s 1 = .int .i64 a ∧ gt s 2 = .int .i64 b_ ∧ gt s 7 = v47 ∧ gt s 8 = v50 ∧ gt s 9 = .int .i64 (k20 : Int) ∧ gt s 10 = .int .i64 x45 ∧ gt s 11 = v102 ∧ gt s 12 = rv113 ∧ gt s 18 = .int .i64 (t.length : Int) ∧ gt s 19 = .int .i64 (k20 : Int) ∧ gt s 55 = .bool (!decide (x118 = x125)) ∧ H = H') (by simp only [↓runs, isCall, ↓reduceIte, ↓gd_true, ↓gd_false, evs, AV.cells, Nat.reduceEqDiff, Nat.reduceLT, reduceCtorEq, Nat.reduceAdd, sy, f122, f123, f129, f130, g0, g1, g2, g7, g8, g9, g10, g11, g12, g18, g19, hl]) ?_;rintro s _ ⟨hl, g0, g1, g2, g7, g8, g9, g10, g11, g12, g18, g19, g55, rfl⟩;refine wpo_nil (then_n ?_);rcases Bool.eq_false_or_eq_true (!decide (x118 = x125)) with c132 | c132
     ·replace hy39 := ifT c132 hy39;refine AM.wp_condT (by simp only [ev_t, ev_c, g55, c132]) ?_;refine AM.wp_reg hp0 ?_;refine wpo_seg hp0 4 (fun s H' => s.length = 60 ∧ gt s 0 = v_0 ∧ gt s 1 = .int .i64 a ∧ gt s 2 = .int .i64 b_ ∧ gt s 7 = rv113 ∧ gt s 8 = v102 ∧ gt s 9 = .int .i64 (k20 : Int) ∧ gt s 10 = .int .i64 x45 ∧ gt s 18 = .int .i64 (t.length : Int) ∧ gt s 19 = .int .i64 (k20 : Int) ∧ H = H') (by simp only [↓runs, isCall, ↓reduceIte, ↓gd_true, ↓gd_false, evs, AV.cells, Nat.reduceEqDiff, Nat.reduceLT, reduceCtorEq, Nat.reduceAdd, sy, g0, g1, g2, g7, g8, g9, g10, g11, g12, g18, g19, g55, hl]) ?_;rintro s _ ⟨hl, g0, g1, g2, g7, g8, g9, g10, g18, g19, rfl⟩;refine wpo_nil ?_;refine blk_n ?_;refine then_n ?_;refine AM.wp_reg hp0 ?_;refine wpo_seg hp0 3 (fun s H' => s.length = 60 ∧ gt s 0 = v_0 ∧ gt s 1 = .int .i64 a ∧ gt s 2 = .int .i64 b_ ∧ gt s 7 = rv113 ∧ gt s 8 = v102 ∧ gt s 9 = .int .i64 (k20 : Int) ∧ gt s 10 = .int .i64 (w64 (x45 + 1)) ∧ gt s 18 = .int .i64 (t.length : Int) ∧ gt s 19 = .int .i64 (k20 : Int) ∧ H = H') (by simp only [↓runs, isCall, ↓reduceIte, ↓gd_true, ↓gd_false, evs, AV.cells, Nat.reduceEqDiff, Nat.reduceLT, reduceCtorEq, Nat.reduceAdd, sy, g0, g1, g2, g7, g8, g9, g10, g18, g19, hl]) ?_;rintro s _ ⟨hl, g0, g1, g2, g7, g8, g9, g10, g18, g19, rfl⟩;refine wpo_nil (then_n ?_);obtain rfl := Option.some.inj hy39;replace hst := hst.p2;replace hst := hst.drop;replace hst := hst.p2;replace hst := hst.drop;replace hst := hst.p2;replace hst := hst.drop;replace hst := hst.p1;exact ⟨_, rfl, ⟨W, _, _, _, _, hl, g7, g8, g10, g0, g1, g2, g9, g18, g19, (((((w46.trans w73).trans w85).trans w93).trans w105).trans w117), hst, o116, o107⟩⟩
     ·replace hy39 := ifF c132 hy39;refine AM.wp_condF (by simp only [ev_t, ev_c, g55, c132]) ?_;refine AM.wp_skip ?_;refine blk_n ?_;refine then_n ?_;refine AM.wp_reg hp0 ?_;refine wpo_seg hp0 3 (fun s H' => s.length = 60 ∧ gt s 0 = v_0 ∧ gt s 1 = .int .i64 a ∧ gt s 2 = .int .i64 b_ ∧ gt s 7 = v47 ∧ gt s 8 = v50 ∧ gt s 9 = .int .i64 (k20 : Int) ∧ gt s 10 = .int .i64 (w64 (x45 + 1)) ∧ gt s 18 = .int .i64 (t.length : Int) ∧ gt s 19 = .int .i64 (k20 : Int) ∧ H = H') (by simp only [↓runs, isCall, ↓reduceIte, ↓gd_true, ↓gd_false, evs, AV.cells, Nat.reduceEqDiff, Nat.reduceLT, reduceCtorEq, Nat.reduceAdd, sy, g0, g1, g2, g7, g8, g9, g10, g11, g12, g18, g19, g55, hl]) ?_;rintro s _ ⟨hl, g0, g1, g2, g7, g8, g9, g10, g18, g19, rfl⟩;refine wpo_nil (then_n ?_);obtain rfl := Option.some.inj hy39;replace hst := hst.drop;replace hst := hst.drop;replace hst := hst.drop;replace hst := hst.p1;replace hst := hst.p1;exact ⟨_, rfl, ⟨W, _, _, _, _, hl, g7, g8, g10, g0, g1, g2, g9, g18, g19, (((((w46.trans w73).trans w85).trans w93).trans w105).trans w117), hst, o49, o52⟩⟩
   ·replace hy39 := ifF c53 hy39;refine AM.wp_condF (by simp only [ev_t, ev_c, g24, c53]) ?_;refine AM.wp_exit ?_;refine then_x ?_;refine then_x (rnd_c rfl ?_);obtain rfl := Option.some.inj hy39;replace hst := hst.p1;replace hst := hst.p1;exact ⟨_, rfl, ⟨W, _, _, _, _, hl, g7, g8, g0, g1, g2, g18, g19, w46, hst, o49, o52⟩⟩
  ·rintro x133 s H hz hI;subst hz;dsimp only at hy22 hI;obtain ⟨W, v135, fg136, v138, fg139, hl, g7, g8, g0, g1, g2, g18, g19, w134, hst, o137, o140⟩ := hI;replace h_0 := Rp.mono w134 h_0;refine rnd_n ?_;obtain rfl := Option.some.inj hy22;replace hst := hst.p1;replace hst := hst.p1;exact ⟨hl, g19, g18, ⟨W, _, _, _, _, hl, g7, g8, g0, g1, g2, (w28.trans w134), hst, o137, o140⟩⟩
 ·rintro s H hI _;obtain ⟨W, v142, fg143, v145, fg146, hl, g7, g8, g0, g1, g2, w141, hst, o144, o147⟩ := hI;replace h_0 := Rp.mono w141 h_0;refine then_n ?_;refine AM.wp_seq hp0 (AM.wp_reg hp0 ?_);refine wpo_seg hp0 2 (fun s H' => s.length = 60 ∧ gt s 6 = v142 ∧ H = H') (by simp only [↓runs, isCall, ↓reduceIte, ↓gd_true, ↓gd_false, evs, AV.cells, Nat.reduceEqDiff, Nat.reduceLT, reduceCtorEq, Nat.reduceAdd, sy, g0, g1, g2, g7, g8, hl]) ?_;rintro s _ ⟨hl, g6, rfl⟩;refine wpo_nil (then_n ?_);refine AM.wp_ret ?_;obtain rfl := Option.some.inj hp;replace hst := hst.p1;replace hst := hst.drop;refine body_ret (vs := [v142]) (by simp only [rvs, f_subdirect_apart, Option.map_some, g6]) ?_;exact ⟨W, ((w5.trans w12).trans w141), _, hst, o144⟩

end Go.Proofs.Ytmdpejgnkoneoaa.Pu
set_option maxRecDepth 10000
namespace Go.Proofs.Ytmdpejgnkoneoaa.Mt
open Go Go.AM Go.AM.Par Go.AM.Cg Go.AM.Lx Go.Proofs.Ytmdpejgnkoneoaa.Pu

theorem gen_from {n : Nat} {T : Nat → Nat → Nat} {sd : Int} {P Q : List (Nat × Nat)} {x y : Nat} (h : Gen n T sd P x y) (hP : ∀ q ∈ P, Gen n T sd Q q.1 q.2) : Gen n T sd Q x y :=
  fun θ hθ h0 => h θ hθ fun q hq => hP q hq θ hθ h0
structure Ap (n : Nat) (T : Nat → Nat → Nat) (a b k x : Nat) (p : List Int) (P : List (Nat × Nat)) : Prop where
  lt : ∀ q ∈ P, q.1 < n ∧ q.2 < n
  len : P.length ≤ k * 400 + x
  is : IsP n (Gen n T 0 P) p
  ap : p.getD a 0 ≠ p.getD b 0
  mx : ∀ u v, (v < k ∨ (v = k ∧ u < x)) → u < v → v < n → p.getD u 0 = p.getD v 0 ∨ Gen n T 0 (P ++ [(u, v)]) a b

theorem apart_row {t : List (List Int)} {n : Nat} {T : Nat → Nat → Nat} (h : Sg t n T) {a b k : Nat} (ha : a < n) (hb : b < n) (hk : k < n) {p : List Int} {P : List (Nat × Nat)} (hA : Ap n T a b k 0 p P) :
    ∃ p' P', P_subdirect_apart_l18 (a : Int) (b : Int) t k p (P.map pz) = some (p', P'.map pz) ∧ Ap n T a b (k + 1) 0 p' P' := by
  have h400 := h.le
  obtain ⟨o, ho, p', P', rfl, hQ⟩ := loop_inv (f := fun x => P_subdirect_apart_l35 (a : Int) (b : Int) k t x.1 x.2.1 x.2.2) (x := (p, P.map pz, (0 : Int)))
    (fun s : List Int × List (Int × Int) × Int => ∃ (x : Nat) (P : List (Nat × Nat)), s.2.2 = (x : Int) ∧ x ≤ k ∧ s.2.1 = P.map pz ∧ Ap n T a b k x s.1 P)
    (fun s => k - s.2.2.toNat) (fun o => ∃ p' P', o = .inl (p', P'.map pz, (k : Int)) ∧ Ap n T a b k k p' P') ⟨0, P, rfl, Nat.zero_le _, rfl, hA⟩ (by
      rintro ⟨p, _, _⟩ ⟨x, P, rfl, hxk, rfl, hA⟩
      dsimp only at hA ⊢
      have hlen := hA.is.len
      have hPl := hA.len
      have hw : w64 ((x : Int) + 1) = ((x + 1 : Nat) : Int) := by rw [w64_id (by omega) (by omega)]; simp
      have hms : k - (w64 ((x : Int) + 1)).toNat = k - (x + 1) := by rw [hw, Int.toNat_natCast]
      unfold P_subdirect_apart_l35
      by_cases hlt : x < k
      · rw [if_pos (by simp only [decide_eq_true_eq]; omega), gi_lt 0 (by omega), gi_lt 0 (by omega)]
        simp only [Option.bind_some]
        by_cases e : p.getD x 0 = p.getD k 0
        · rw [if_pos (by simpa only [decide_eq_true_eq] using e)]
          refine .inl ⟨_, rfl, ⟨x + 1, P, hw, by omega, rfl, hA.lt, by omega, hA.is, hA.ap, fun u v hc huv hv => ?_⟩, by dsimp only; rw [hms]; omega⟩
          by_cases hh : v = k ∧ u = x
          · rw [hh.1, hh.2]; exact .inl e
          · exact hA.mx u v (by omega) huv hv
        · rw [if_neg (by simpa only [decide_eq_true_eq] using e)]
          rw [pus_ok (by simp only [List.length_nil, List.length_map]; omega) (by omega)]
          simp only [Option.bind_some, List.nil_append]
          rw [pus_ok (by simp only [List.length_cons, List.length_nil, List.length_map]; omega) (by omega)]
          simp only [Option.bind_some]
          have hm : P.map pz ++ [((x : Int), (k : Int))] = (P ++ [(x, k)]).map pz := by simp [pz]
          have hlt2 : ∀ q ∈ P ++ [(x, k)], q.1 < n ∧ q.2 < n := fun q hq => by
            rcases List.mem_append.1 hq with h1 | h1
            · exact hA.lt q h1
            · simp only [List.mem_singleton] at h1; subst h1; exact ⟨by omega, hk⟩
          obtain ⟨r, e1, hr⟩ := Generated (sd := 0) h ⟨by omega, by omega⟩ (P0 := P ++ [(x, k)]) hlt2 (by simp only [List.length_append, List.length_cons, List.length_nil]; omega)
          rw [hm, e1]
          simp only [Option.bind_some]
          have hrl := hr.len
          rw [gi_lt 0 (by omega), gi_lt 0 (by omega)]
          simp only [Option.bind_some]
          by_cases e2 : r.getD a 0 = r.getD b 0
          · have c1 : decide (r.getD a 0 = r.getD b 0) = true := decide_eq_true e2
            simp only [c1, Bool.not_true, Bool.false_eq_true, if_false]
            refine .inl ⟨_, rfl, ⟨x + 1, P, hw, by omega, rfl, hA.lt, by omega, hA.is, hA.ap, fun u v hc huv hv => ?_⟩, by dsimp only; rw [hms]; omega⟩
            by_cases hh : v = k ∧ u = x
            · rw [hh.1, hh.2]; exact .inr ((hr.ker a b ha hb).1 e2)
            · exact hA.mx u v (by omega) huv hv
          · have c1 : decide (r.getD a 0 = r.getD b 0) = false := decide_eq_false e2
            simp only [c1, Bool.not_false, if_true]
            refine .inl ⟨_, rfl, ⟨x + 1, P ++ [(x, k)], hw, by omega, rfl, hlt2, by simp only [List.length_append, List.length_cons, List.length_nil]; omega, hr, e2, fun u v hc huv hv => ?_⟩, by dsimp only; rw [hms]; omega⟩
            by_cases hh : v = k ∧ u = x
            · rw [hh.1, hh.2]; exact .inl ((hr.ker x k (by omega) hk).2 (Gen.has (p := (x, k)) (by simp)))
            · rcases hA.mx u v (by omega) huv hv with h1 | h1
              · exact .inl ((hr.ker u v (by omega) hv).2 (gen_from ((hA.is.ker u v (by omega) hv).1 h1) fun q hq => Gen.has (List.mem_append_left _ hq)))
              · refine .inr (gen_from h1 fun q hq => Gen.has ?_)
                rcases List.mem_append.1 hq with h2 | h2
                · exact List.mem_append_left _ (List.mem_append_left _ h2)
                · exact List.mem_append_right _ h2
      · have : x = k := by omega
        subst this
        rw [if_neg (by simp only [decide_eq_true_eq]; omega)]
        exact .inr (.inl ⟨_, rfl, p, P, rfl, hA⟩))
  have hlen : P'.length ≤ (k + 1) * 400 + 0 := by
    have h1 := hQ.len
    clear hA hQ ho
    omega
  refine ⟨p', P', ?_, ⟨hQ.lt, hlen, hQ.is, hQ.ap, fun u v hc huv hv => hQ.mx u v (by omega) huv hv⟩⟩
  unfold P_subdirect_apart_l18
  rw [ho]
  rfl

theorem apart {t : List (List Int)} {n : Nat} {T : Nat → Nat → Nat} (h : Sg t n T) {a b : Nat} (ha : a < n) (hb : b < n) (hne : a ≠ b) :
    ∃ p P, P_subdirect_apart t (a : Int) (b : Int) = some p ∧ Ap n T a b n 0 p P := by
  have h400 := h.le
  unfold P_subdirect_apart
  rw [h.len, discrete' (by omega)]
  simp only [Option.bind_some]
  have hg : IsP n (Gen n T 0 []) (iota n) := (iota_isP n).mono fun x y _ _ => by
    constructor
    · intro e; rw [e]; exact Gen.cgr.refl y
    · intro hh
      exact hh (fun u v => u = v) ⟨fun _ => rfl, fun _ _ e => e.symm, fun _ _ _ e e2 => e.trans e2, fun _ s x y _ _ _ e => by rw [e], fun _ s x y _ _ _ e => by rw [e]⟩ (fun p hp => by simp at hp)
  obtain ⟨y, hy, P, hP, hQ⟩ := forS_inv (n := n) (f := fun k x => P_subdirect_apart_l18 (a : Int) (b : Int) t k x.1 x.2) (x := (iota n, []))
    (fun k x => ∃ P : List (Nat × Nat), x.2 = P.map pz ∧ Ap n T a b k 0 x.1 P) ⟨[], rfl, fun q hq => by simp at hq, Nat.zero_le _, hg, fun e => hne (iota_inj ha hb e), fun u v hc => by omega⟩ (by
      rintro k ⟨p, _⟩ hk ⟨P, rfl, hA⟩
      obtain ⟨p', P', e, hA'⟩ := apart_row h ha hb hk hA
      exact ⟨_, e, P', rfl, hA'⟩)
  rw [hy]
  exact ⟨_, P, rfl, hQ⟩

theorem quo_hom {n : Nat} {T : Nat → Nat → Nat} {p : List Int} (hC : CongL n T 0 p) (hlt : ∀ x y, x < n → y < n → T x y < n) {x y : Nat} (hx : x < n) (hy : y < n) :
    quoT T p (p.getD x 0).toNat (p.getD y 0).toNat = (p.getD (T x y) 0).toNat := by
  obtain ⟨hl, hv, hc⟩ := hC
  have key : ∀ z, z < n → fpt p (p.getD z 0).toNat < n ∧ p.getD (fpt p (p.getD z 0).toNat) 0 = p.getD z 0 := fun z hz => by
    have h1 := ncl_lt hv (k := z) (by omega)
    have h2 := fpt_spec hv (c := (p.getD z 0).toNat) (by omega)
    exact ⟨by rw [← hl]; exact h2.2.1, by rw [h2.2.2.1]; omega⟩
  obtain ⟨a1, a2⟩ := key x hx
  obtain ⟨b1, b2⟩ := key y hy
  unfold quoT
  rw [(hc _ _ (fpt p (p.getD y 0).toNat) a1 hx b1 a2).2 (by omega), (hc _ _ x b1 hy hx b2).1 (by omega)]

theorem Ap.fac {t : List (List Int)} {n : Nat} {T : Nat → Nat → Nat} (h : Sg t n T) {a b : Nat} (ha : a < n) (hb : b < n) {p : List Int} {P : List (Nat × Nat)} (hA : Ap n T a b n 0 p P) : Fac n T p := by
  have h400 := h.le
  have hv := hA.is.valid (by omega)
  have hC : CongL n T 0 p := ⟨hA.is.len, hv, fun x y s hx hy hs e => by
    have g := (hA.is.ker x y hx hy).1 e
    exact ⟨fun q => (hA.is.ker _ _ (h.lt _ _ hs hx) (h.lt _ _ hs hy)).2 (Gen.cgr.left q s x y hs hx hy g), fun q => (hA.is.ker _ _ (h.lt _ _ hx hs) (h.lt _ _ hy hs)).2 (Gen.cgr.right q s x y hs hx hy g)⟩⟩
  have hl := hC.1
  have na := ncl_lt hv (k := a) (by omega)
  have nb := ncl_lt hv (k := b) (by omega)
  have hap := hA.ap
  refine ⟨hC, by omega, fun hD => ?_⟩
  have := hD (p.getD a 0).toNat (p.getD b 0).toNat (by omega) (by omega) fun c d hc hd hcd => by
    intro θ hθ h0
    have hcg : Cgr n T 0 fun x y => θ (p.getD x 0).toNat (p.getD y 0).toNat := by
      refine ⟨fun _ => hθ.refl _, fun _ _ => hθ.symm _ _, fun _ _ _ => hθ.trans _ _ _, fun q s x y hs hx hy e => ?_, fun q s x y hs hx hy e => ?_⟩
      · have k1 := ncl_lt hv (k := s) (by omega); have k2 := ncl_lt hv (k := x) (by omega); have k3 := ncl_lt hv (k := y) (by omega)
        have := hθ.left q (p.getD s 0).toNat _ _ (by omega) (by omega) (by omega) e
        rwa [quo_hom hC h.lt hs hx, quo_hom hC h.lt hs hy] at this
      · have k1 := ncl_lt hv (k := s) (by omega); have k2 := ncl_lt hv (k := x) (by omega); have k3 := ncl_lt hv (k := y) (by omega)
        have := hθ.right q (p.getD s 0).toNat _ _ (by omega) (by omega) (by omega) e
        rwa [quo_hom hC h.lt hx hs, quo_hom hC h.lt hy hs] at this
    have fc := fpt_spec hv hc
    have fd := fpt_spec hv hd
    have hcd0 : θ c d := h0 (c, d) (by simp)
    have hold : ∀ q ∈ P, θ (p.getD q.1 0).toNat (p.getD q.2 0).toNat := fun q hq => by
      obtain ⟨q1, q2⟩ := hA.lt q hq
      rw [(hA.is.ker q.1 q.2 q1 q2).2 (Gen.has hq)]; exact hθ.refl _
    have tc : (p.getD (fpt p c) 0).toNat = c := by rw [fc.2.2.1]; simp
    have td : (p.getD (fpt p d) 0).toNat = d := by rw [fd.2.2.1]; simp
    rcases Nat.lt_trichotomy (fpt p c) (fpt p d) with h5 | h5 | h5
    · rcases hA.mx _ _ (.inl (by omega)) h5 (by omega) with h6 | h6
      · exact absurd (by have := fc.2.2.1; have := fd.2.2.1; omega) hcd
      · refine h6 _ hcg fun q hq => ?_
        rcases List.mem_append.1 hq with h7 | h7
        · exact hold q h7
        · simp only [List.mem_singleton] at h7; subst h7
          show θ (p.getD (fpt p c) 0).toNat (p.getD (fpt p d) 0).toNat
          rw [tc, td]; exact hcd0
    · exact absurd (by rw [← tc, ← td, h5]) hcd
    · rcases hA.mx _ _ (.inl (by omega)) h5 (by omega) with h6 | h6
      · exact absurd (by have := fc.2.2.1; have := fd.2.2.1; omega) hcd
      · refine h6 _ hcg fun q hq => ?_
        rcases List.mem_append.1 hq with h7 | h7
        · exact hold q h7
        · simp only [List.mem_singleton] at h7; subst h7
          show θ (p.getD (fpt p d) 0).toNat (p.getD (fpt p c) 0).toNat
          rw [tc, td]; exact hθ.symm _ _ hcd0
  omega
end Go.Proofs.Ytmdpejgnkoneoaa.Mt
set_option maxRecDepth 100000
set_option maxHeartbeats 4000000
namespace Go.Proofs.Ytmdpejgnkoneoaa.Pu
open Go Go.AM Go.Proofs.Ytmdpejgnkoneoaa.Code

noncomputable def P_subdirect_Decompose_l50 (r22 : (List Int)) (t : List (List Int)) (k52 : Nat) (list58 : List (List Int)) (x59 : List (Int × Int)) : Option (Lp ((List (List Int)) × (List (Int × Int))) (Empty)) :=
 Option.bind (gi r22 (k52 : Int)) fun x66 =>
 if (mget x59 x66).isSome then
  Option.bind (P_subdirect_apart t ((mget x59 x66).getD 0) (k52 : Int)) fun r78 =>
  Option.bind (pus 24 list58 [r78]) fun x97 =>
  some (.br (x97, x59))
 else
  some (.go (list58, mput x59 x66 (k52 : Int)))
noncomputable def P_subdirect_Decompose_l7 (t : List (List Int)) (x9 : List (List Int)) : Option (Lp ((List (List Int))) (Empty)) :=
 Option.bind (P_subdirect_meet (t.length : Int) x9 (-1)) fun r22 =>
 Option.bind (P_subdirect_discrete r22) fun r32 =>
 if r32 then
  some (.br x9)
 else
  Option.bind (forR r22.length (fun k x => P_subdirect_Decompose_l50 r22 t k x.1 x.2) (x9, [])) fun z56 =>
  match z56 with
  | .inl x109 =>
   some (.go x109.1)
  | .inr b => b.elim
noncomputable def P_subdirect_Decompose_l121 (t : List (List Int)) (list129 : List (List Int)) (i130 : Int) : Option (Lp ((List (List Int)) × Int) (Empty)) :=
 if decide (i130 < (list129.length : Int)) then
  Option.bind (P_subdirect_meet (t.length : Int) list129 i130) fun r139 =>
  Option.bind (P_subdirect_discrete r139) fun r151 =>
  if r151 then
   Option.bind (sub list129 none (some i130)) fun x167 =>
   Option.bind (pus 24 [] x167) fun x174 =>
   Option.bind (sub list129 (some (w64 (i130 + 1))) none) fun x182 =>
   Option.bind (pus 24 x174 x182) fun x189 =>
   some (.go (x189, i130))
  else
   some (.go (list129, w64 (i130 + 1)))
 else
  some (.br (list129, i130))
noncomputable def P_subdirect_Decompose (t : List (List Int)) : Option ((List (List Int)) × Int) :=
 Option.bind (P_mult_Validate t) fun r1 =>
 if !decide (r1 = 0) then
  some ([], r1)
 else
  Option.bind (loopO (fun x => P_subdirect_Decompose_l7 t x) []) fun z14 =>
  match z14 with
  | .inl x116 =>
   Option.bind (loopO (fun x => P_subdirect_Decompose_l121 t x.1 x.2) (x116, 0)) fun z127 =>
   match z127 with
   | .inl x197 =>
    some (x197.1, 0)
   | .inr b => b.elim
  | .inr b => b.elim
theorem R_subdirect_Decompose {G : List Frag} {W H : AH} {v_0 : AV} {t : List (List Int)} (hst : St G W H) (h_0 : Rp.rv W v_0 t) {r : (List (List Int)) × Int} (hp : P_subdirect_Decompose t = some r) :
  wpc E0 N_subdirect_Decompose [v_0] H fun rv H' => ∃ W', Wle W W' ∧ ∃ (v0 : AV), ∃ (g0 : Frag), St (g0 :: G) W' H' ∧ rv = .tup [v0, .int .i64 r.2] ∧ OwS W' v0 g0 (r.1 : List (List Int)) := by
 refine enterN (F := f_subdirect_Decompose) rfl (Nat.le_of_ble_eq_true rfl) fun s hl hg => ?_;replace hl : s.length = 73 := hl;have g0 : gt s 0 = v_0 := hg 0 (Nat.le_of_ble_eq_true rfl);clear hg;unfold P_subdirect_Decompose at hp;show wp E0 c_subdirect_Decompose s H _;unfold c_subdirect_Decompose;refine AM.wp_seq hp0 (AM.wp_reg hp0 ?_);refine wpo_seg hp0 2 (fun s H' => s.length = 73 ∧ gt s 0 = v_0 ∧ H = H') (by simp only [↓runs, isCall, ↓reduceIte, ↓gd_true, ↓gd_false, evs, AV.cells, Nat.reduceEqDiff, Nat.reduceLT, reduceCtorEq, Nat.reduceAdd, sy, g0, hl]) ?_;rintro s _ ⟨hl, g0, rfl⟩;refine wpo_nil (then_n ?_);refine AM.wp_seq hp0 (AM.wp_seq hp0 (AM.wp_reg hp0 ?_));refine wpo_seg hp0 1 (fun s H' => s.length = 73 ∧ gt s 0 = v_0 ∧ gt s 13 = v_0 ∧ H = H') (by simp only [↓runs, isCall, ↓reduceIte, ↓gd_true, ↓gd_false, evs, AV.cells, Nat.reduceEqDiff, Nat.reduceLT, reduceCtorEq, Nat.reduceAdd, sy, g0, hl]) ?_;rintro s _ ⟨hl, g0, g13, rfl⟩;obtain ⟨r1, e2, hp⟩ := bn hp;refine wpo_callK hp0 rfl (ys := [v_0]) (by simp only [evs, List.map_cons, List.map_nil, ev_t, ev_c, g13]) (R_mult_Validate hst h_0 e2) ?_;rintro rv3 H ⟨W, w4, hst, rfl⟩;replace h_0 := Rp.mono w4 h_0;refine wpo_seg hp0 1 (fun s H' => s.length = 73 ∧ gt s 0 = v_0 ∧ gt s 4 = .int .i64 r1 ∧ H = H') (by simp only [↓runs, isCall, ↓reduceIte, ↓gd_true, ↓gd_false, evs, AV.cells, Nat.reduceEqDiff, Nat.reduceLT, reduceCtorEq, Nat.reduceAdd, sy, gt_other, g0, g13, hl]) ?_;rintro s _ ⟨hl, g0, g4, rfl⟩;refine wpo_nil (then_n ?_);refine AM.wp_seq hp0 (AM.wp_reg hp0 ?_);refine wpo_seg hp0 2 (fun s H' => s.length = 73 ∧ gt s 0 = v_0 ∧ gt s 4 = .int .i64 r1 ∧ gt s 16 = .bool (!decide (r1 = 0)) ∧ H = H') (by simp only [↓runs, isCall, ↓reduceIte, ↓gd_true, ↓gd_false, evs, AV.cells, Nat.reduceEqDiff, Nat.reduceLT, reduceCtorEq, Nat.reduceAdd, sy, g0, g4, hl]) ?_;rintro s _ ⟨hl, g0, g4, g16, rfl⟩;refine wpo_nil (then_n ?_);rcases Bool.eq_false_or_eq_true (!decide (r1 = 0)) with c5 | c5
 ·replace hp := ifT c5 hp;refine AM.wp_condT (by simp only [ev_t, ev_c, g16, c5]) ?_;refine AM.wp_seq hp0 (AM.wp_reg hp0 ?_);refine wpo_seg hp0 3 (fun s H' => s.length = 73 ∧ gt s 2 = .nils ∧ gt s 3 = .int .i64 r1 ∧ H = H') (by simp only [↓runs, isCall, ↓reduceIte, ↓gd_true, ↓gd_false, evs, AV.cells, Nat.reduceEqDiff, Nat.reduceLT, reduceCtorEq, Nat.reduceAdd, sy, g0, g4, g16, hl]) ?_;rintro s _ ⟨hl, g2, g3, rfl⟩;refine wpo_nil (then_n ?_);refine AM.wp_ret ?_;refine then_r ?_;replace hst := hst.nil;have o6 := ow_nil (α := List Int) W;obtain rfl := Option.some.inj hp;refine body_ret (vs := [.nils, .int .i64 r1]) (by simp only [rvs, f_subdirect_Decompose, Option.map_some, g2, g3]) ?_;exact ⟨W, w4, _, _, hst, rfl, o6⟩
 ·replace hp := ifF c5 hp;refine AM.wp_condF (by simp only [ev_t, ev_c, g16, c5]) ?_;refine AM.wp_skip ?_;refine then_n ?_;refine AM.wp_seq hp0 (AM.wp_reg hp0 ?_);refine wpo_seg hp0 1 (fun s H' => s.length = 73 ∧ gt s 0 = v_0 ∧ gt s 5 = .nils ∧ H = H') (by simp only [↓runs, isCall, ↓reduceIte, ↓gd_true, ↓gd_false, evs, AV.cells, Nat.reduceEqDiff, Nat.reduceLT, reduceCtorEq, Nat.reduceAdd, sy, g0, g4, g16, hl]) ?_;rintro s _ ⟨hl, g0, g5, rfl⟩;refine wpo_nil (then_n ?_);refine AM.wp_seq hp0 ?_;replace hst := hst.nil;have o8 := ow_nil (α := List Int) W;obtain ⟨z14, e15, hp⟩ := bn hp;refine loop_ref hp0 (fun x => P_subdirect_Decompose_l7 t x) (fun x s H' => ∃ (W' : AH) (w5 : AV) (q5 : Frag), s.length = 73 ∧ gt s 5 = w5 ∧ gt s 0 = v_0 ∧  Wle W W' ∧ St (q5 :: G) W' H' ∧ OwS W' w5 q5 (x : List (List Int))) (fun x s H' => ∃ (W' : AH) (w5 : AV) (q5 : Frag), s.length = 73 ∧ gt s 5 = w5 ∧ gt s 0 = v_0 ∧  Wle W W' ∧ St (q5 :: G) W' H' ∧ OwS W' w5 q5 (x : List (List Int))) e15 ?_ ?_ ?_
  ·exact ⟨W, _, _, hl, g5, g0, .refl _, hst, o8⟩
  ·intro x9 y11 s H hI hy12 hx13;change P_subdirect_Decompose_l7 t x9 = some y11 at hy12;unfold P_subdirect_Decompose_l7 at hy12;obtain ⟨W, v18, fg19, hl, g5, g0, w17, hst, o20⟩ := hI;replace h_0 := Rp.mono w17 h_0;refine AM.wp_block ?_;refine AM.wp_seq hp0 (AM.wp_reg hp0 ?_);have f21 := fz_ln h_0;refine wpo_seg hp0 3 (fun s H' => s.length = 73 ∧ gt s 0 = v_0 ∧ gt s 5 = v18 ∧ gt s 19 = .int .i64 (t.length : Int) ∧ gt s 20 = v18 ∧ H = H') (by simp only [↓runs, isCall, ↓reduceIte, ↓gd_true, ↓gd_false, evs, AV.cells, Nat.reduceEqDiff, Nat.reduceLT, reduceCtorEq, Nat.reduceAdd, sy, f21, g0, g5, hl]) ?_;rintro s _ ⟨hl, g0, g5, g19, g20, rfl⟩;obtain ⟨r22, e23, hy12⟩ := bn hy12;obtain ⟨W, w24, hst, h25, k26⟩ := ow_lend hst o20;refine wpo_callK hp0 rfl (ys := [.int .i64 (t.length : Int), v18, .int .i64 (-1)]) (by simp only [evs, List.map_cons, List.map_nil, ev_t, ev_c, g19, g20]) (R_subdirect_meet hst h25 e23) ?_;rintro rv27 H ⟨W, w28, fg29, hst, o30⟩;obtain ⟨W, w31, hst, o20⟩ := k26 _ _ _ w28 hst;replace o30 : OwS W _ _ _ := o30.flat;replace h_0 := Rp.mono w31 h_0;refine wpo_seg hp0 1 (fun s H' => s.length = 73 ∧ gt s 0 = v_0 ∧ gt s 5 = v18 ∧ gt s 6 = rv27 ∧ H = H') (by simp only [↓runs, isCall, ↓reduceIte, ↓gd_true, ↓gd_false, evs, AV.cells, Nat.reduceEqDiff, Nat.reduceLT, reduceCtorEq, Nat.reduceAdd, sy, gt_other, g0, g5, g19, g20, hl]) ?_;rintro s _ ⟨hl, g0, g5, g6, rfl⟩;refine wpo_nil (then_n ?_);refine AM.wp_seq hp0 (AM.wp_seq hp0 (AM.wp_reg hp0 ?_));refine wpo_seg hp0 1 (fun s H' => s.length = 73 ∧ gt s 0 = v_0 ∧ gt s 5 = v18 ∧ gt s 6 = rv27 ∧ gt s 22 = rv27 ∧ H = H') (by simp only [↓runs, isCall, ↓reduceIte, ↓gd_true, ↓gd_false, evs, AV.cells, Nat.reduceEqDiff, Nat.reduceLT, reduceCtorEq, Nat.reduceAdd, sy, g0, g5, g6, hl]) ?_;rintro s _ ⟨hl, g0, g5, g6, g22, rfl⟩;obtain ⟨r32, e33, hy12⟩ := bn hy12;replace hst := hst.p1;obtain ⟨W, w34, hst, h35, k36⟩ := ow_lend hst o30;refine wpo_callK hp0 rfl (ys := [rv27]) (by simp only [evs, List.map_cons, List.map_nil, ev_t, ev_c, g22]) (R_subdirect_discrete hst h35 e33) ?_;rintro rv37 H ⟨W, w38, hst, rfl⟩;obtain ⟨W, w39, hst, o30⟩ := k36 _ _ _ w38 hst;replace h_0 := Rp.mono w39 h_0;replace o20 := o20.mono w39;refine wpo_seg hp0 0 (fun s H' => s.length = 73 ∧ gt s 0 = v_0 ∧ gt s 5 = v18 ∧ gt s 6 = rv27 ∧ gt s 23 = .bool r32 ∧ H = H') (by simp only [↓runs, isCall, ↓reduceIte, ↓gd_true, ↓gd_false, evs, AV.cells, Nat.reduceEqDiff, Nat.reduceLT, reduceCtorEq, Nat.reduceAdd, sy, gt_other, g0, g5, g6, g22, hl]) ?_;rintro s _ ⟨hl, g0, g5, g6, g23, rfl⟩;refine wpo_nil (then_n ?_);rcases Bool.eq_false_or_eq_true (r32) with c40 | c40
   ·replace hy12 := ifT c40 hy12;refine AM.wp_condT (by simp only [ev_t, ev_c, g23, c40]) ?_;refine AM.wp_exit ?_;refine then_x ?_;refine blk_o (by decide) ?_;refine then_x (rnd_c rfl ?_);obtain rfl := Option.some.inj hy12;replace hst := hst.drop;exact ⟨_, rfl, ⟨W, _, _, hl, g5, g0, ((w17.trans w31).trans w39), hst, o20⟩⟩
   ·replace hy12 := ifF c40 hy12;refine AM.wp_condF (by simp only [ev_t, ev_c, g23, c40]) ?_;refine AM.wp_skip ?_;refine then_n ?_;refine AM.wp_seq hp0 (AM.wp_reg hp0 ?_);obtain ⟨v41, H42, fg43, W, f45, f46, w44, hst, o47⟩ := om_new' Int Int hst;replace h_0 := Rp.mono w44 h_0;replace o20 := o20.mono w44;replace o30 := o30.mono w44;refine wpo_seg hp0 2 (fun s H' => s.length = 73 ∧ gt s 0 = v_0 ∧ gt s 5 = v18 ∧ gt s 6 = rv27 ∧ gt s 7 = v41 ∧ H42 = H') (by simp only [↓runs, isCall, ↓reduceIte, ↓gd_true, ↓gd_false, evs, AV.cells, Nat.reduceEqDiff, Nat.reduceLT, reduceCtorEq, Nat.reduceAdd, sy, f45, f46, g0, g5, g6, g23, hl]) ?_;rintro s _ ⟨hl, g0, g5, g6, g7, rfl⟩;refine wpo_nil (then_n ?_);refine AM.wp_seq hp0 (AM.wp_reg hp0 ?_);have f48 := ow_ln o30;have b49 := ow_big o30;refine wpo_seg hp0 3 (fun s H' => s.length = 73 ∧ gt s 0 = v_0 ∧ gt s 5 = v18 ∧ gt s 7 = v41 ∧ gt s 25 = rv27 ∧ gt s 26 = .int .i64 (r22.length : Int) ∧ gt s 27 = .int .i64 0 ∧ H42 = H') (by simp only [↓runs, isCall, ↓reduceIte, ↓gd_true, ↓gd_false, evs, AV.cells, Nat.reduceEqDiff, Nat.reduceLT, reduceCtorEq, Nat.reduceAdd, sy, f48, g0, g5, g6, g7, hl]) ?_;rintro s _ ⟨hl, g0, g5, g7, g25, g26, g27, rfl⟩;refine wpo_nil (then_n ?_);obtain ⟨z56, e57, hy12⟩ := bn hy12;refine range_ref hp0 73 r22.length (fun k x => P_subdirect_Decompose_l50 r22 t k x.1 x.2) (fun _ x s H' => ∃ (W' : AH) (w5 : AV) (q5 : Frag) (qo5 : Frag), s.length = 73 ∧ gt s 5 = w5 ∧ gt s 0 = v_0 ∧ gt s 7 = v41 ∧ gt s 25 = rv27 ∧  Wle W W' ∧ St (q5 :: qo5 :: fg29 :: G) W' H' ∧ OwS W' w5 q5 (x.1 : List (List Int)) ∧ OwM W' v41 qo5 (x.2 : List (Int × Int))) (fun _ x s H' => ∃ (W' : AH) (w5 : AV) (q5 : Frag) (qo5 : Frag), s.length = 73 ∧ gt s 5 = w5 ∧ gt s 0 = v_0 ∧  Wle W W' ∧ St (q5 :: qo5 :: fg29 :: G) W' H' ∧ OwS W' w5 q5 (x.1 : List (List Int)) ∧ OwM W' v41 qo5 (x.2 : List (Int × Int))) e57 (b49) rfl ?_ ?_ hl g27 g26 ?_ ?_
    ·intro k x s H d v hd h; rcases hd with rfl | rfl | rfl <;> simpa only [gt_other, pt_length, Nat.reduceEqDiff, not_false_eq_true] using h
    ·replace hst := hst.p1;replace hst := hst.p1;replace hst := hst.p2;exact ⟨W, _, _, _, hl, g5, g0, g7, g25, .refl _, hst, o20, o47⟩
    ·intro k52 x51 y53 s H hk hI hl g27 g26 hy54 hx55;obtain ⟨list58, x59⟩ := x51;dsimp only at hI;change P_subdirect_Decompose_l50 r22 t k52 list58 x59 = some y53 at hy54;unfold P_subdirect_Decompose_l50 at hy54;obtain ⟨W, v61, fg62, fg64, hl, g5, g0, g7, g25, w60, hst, o63, o65⟩ := hI;replace h_0 := Rp.mono w60 h_0;replace o30 := o30.mono w60;refine AM.wp_seq hp0 (AM.wp_reg hp0 ?_);obtain ⟨x66, e67, hy54⟩ := bn hy54;obtain ⟨p68, _, f70, f71, rfl⟩ := ow_at (k := .i64) hst (.tail _ (.tail _ (.head _))) o30 e67 rfl;refine wpo_seg hp0 5 (fun s H' => s.length = 73 ∧ gt s 0 = v_0 ∧ gt s 5 = v61 ∧ gt s 7 = v41 ∧ gt s 8 = .int .i64 (k52 : Int) ∧ gt s 9 = .int .i64 x66 ∧ gt s 25 = rv27 ∧ gt s 26 = .int .i64 (r22.length : Int) ∧ gt s 27 = .int .i64 (k52 : Int) ∧ H = H') (by simp only [↓runs, isCall, ↓reduceIte, ↓gd_true, ↓gd_false, evs, AV.cells, Nat.reduceEqDiff, Nat.reduceLT, reduceCtorEq, Nat.reduceAdd, sy, f70, f71, g0, g5, g7, g25, g26, g27, hl]) ?_;rintro s _ ⟨hl, g0, g5, g7, g8, g9, g25, g26, g27, rfl⟩;refine wpo_nil (then_n ?_);refine AM.wp_seq hp0 (AM.wp_seq hp0 (AM.wp_reg hp0 ?_));obtain ⟨y73, f74, f75, h76⟩ := om_look (kk := .int) hst (.tail _ (.head _)) o65 (show (.int .i64 x66 : AV) = Ky.enc (x66 : Int) from rfl) rfl (show Rp.rv _ (.int .i64 0) (0 : Int) from rfl);obtain rfl : y73 = .int .i64 ((mget x59 x66).getD 0) := h76;refine wpo_seg hp0 8 (fun s H' => s.length = 73 ∧ gt s 0 = v_0 ∧ gt s 5 = v61 ∧ gt s 7 = v41 ∧ gt s 8 = .int .i64 (k52 : Int) ∧ gt s 9 = .int .i64 x66 ∧ gt s 10 = .int .i64 ((mget x59 x66).getD 0) ∧ gt s 11 = .bool ((mget x59 x66).isSome) ∧ gt s 25 = rv27 ∧ gt s 26 = .int .i64 (r22.length : Int) ∧ gt s 27 = .int .i64 (k52 : Int) ∧ H = H') (by simp only [↓runs, isCall, ↓reduceIte, ↓gd_true, ↓gd_false, evs, AV.cells, Nat.reduceEqDiff, Nat.reduceLT, reduceCtorEq, Nat.reduceAdd, sy, f74, f75, g0, g5, g7, g8, g9, g25, g26, g27, hl]) ?_;rintro s _ ⟨hl, g0, g5, g7, g8, g9, g10, g11, g25, g26, g27, rfl⟩;refine wpo_nil (then_n ?_);refine AM.wp_seq hp0 (AM.wp_reg hp0 ?_);refine wpo_seg hp0 1 (fun s H' => s.length = 73 ∧ gt s 0 = v_0 ∧ gt s 5 = v61 ∧ gt s 7 = v41 ∧ gt s 8 = .int .i64 (k52 : Int) ∧ gt s 9 = .int .i64 x66 ∧ gt s 10 = .int .i64 ((mget x59 x66).getD 0) ∧ gt s 25 = rv27 ∧ gt s 26 = .int .i64 (r22.length : Int) ∧ gt s 27 = .int .i64 (k52 : Int) ∧ gt s 38 = .bool ((mget x59 x66).isSome) ∧ H = H') (by simp only [↓runs, isCall, ↓reduceIte, ↓gd_true, ↓gd_false, evs, AV.cells, Nat.reduceEqDiff, Nat.reduceLT, reduceCtorEq, Nat.reduceAdd, sy, g0, g5, g7, g8, g9, g10, g11, g25, g26, g27, hl]) ?_;rintro s _ ⟨hl, g0, g5, g7, g8, g9, g10, g25, g26, g27, g38, rfl⟩;refine wpo_nil (then_n ?_);rcases Bool.eq_false_or_eq_true ((mget x59 x66).isSome) with c77 | c77
     ·replace hy54 := ifT c77 hy54;refine AM.wp_condT (by simp only [ev_t, ev_c, g38, c77]) ?_;refine AM.wp_seq hp0 (AM.wp_reg hp0 ?_);refine wpo_seg hp0 4 (fun s H' => s.length = 73 ∧ gt s 0 = v_0 ∧ gt s 5 = v61 ∧ gt s 39 = v61 ∧ gt s 40 = v_0 ∧ gt s 41 = .int .i64 ((mget x59 x66).getD 0) ∧ gt s 42 = .int .i64 (k52 : Int) ∧ H = H') (by simp only [↓runs, isCall, ↓reduceIte, ↓gd_true, ↓gd_false, evs, AV.cells, Nat.reduceEqDiff, Nat.reduceLT, reduceCtorEq, Nat.reduceAdd, sy, g0, g5, g7, g8, g9, g10, g25, g26, g27, g38, hl]) ?_;rintro s _ ⟨hl, g0, g5, g39, g40, g41, g42, rfl⟩;obtain ⟨r78, e79, hy54⟩ := bn hy54;refine wpo_callK hp0 rfl (ys := [v_0, .int .i64 ((mget x59 x66).getD 0), .int .i64 (k52 : Int)]) (by simp only [evs, List.map_cons, List.map_nil, ev_t, ev_c, g40, g41, g42]) (R_subdirect_apart hst h_0 e79) ?_;rintro rv80 H ⟨W, w81, fg82, hst, o83⟩;replace h_0 := Rp.mono w81 h_0;replace o30 := o30.mono w81;replace o65 := o65.mono w81;replace o63 := o63.mono w81;obtain ⟨W, w85, hst, h84⟩ := ow_frz hst o83;replace h_0 := Rp.mono w85 h_0;replace o30 := o30.mono w85;replace o65 := o65.mono w85;replace o63 := o63.mono w85;obtain ⟨v86, l87, H88, fg89, W, f91, f92, f93, w90, hst, o94⟩ := ow_lit' (n := 1) (k := 1) (z := [.nils]) (ys := [rv80]) (M := ([r78] : List (List Int))) [(0, 1, rv80)] rfl rfl hst (sc_cons (show Rp.rv _ (rv80) (r78 : List Int) from h84) (sc_nil)) ((List.forall_mem_cons.2 ⟨(Rp.cells (show Rp.rv W (rv80) (r78 : List Int) from h84)), fun _ h => (List.not_mem_nil h).elim⟩)) rfl rfl rfl (by decide);replace h_0 := Rp.mono w90 h_0;replace h84 := Rp.mono w90 h84;replace o30 := o30.mono w90;replace o65 := o65.mono w90;replace o63 := o63.mono w90;obtain ⟨c95, sn96⟩ := ow_sn hst (.head _) o94;obtain ⟨x97, e98, hy54⟩ := bn hy54;replace hst := hst.p1;obtain ⟨v99, H100, fg101, W, f103, w102, hst, o104⟩ := ow_apps [.nils] rfl hst o63 sn96 e98;replace h_0 := Rp.mono w102 h_0;replace h84 := Rp.mono w102 h84;replace o30 := o30.mono w102;replace o65 := o65.mono w102;replace o94 := o94.mono w102;refine wpo_seg hp0 3 (fun s H' => s.length = 73 ∧ gt s 0 = v_0 ∧ gt s 5 = v99 ∧ H100 = H') (by simp only [↓runs, isCall, ↓reduceIte, ↓gd_true, ↓gd_false, evs, AV.cells, Nat.reduceEqDiff, Nat.reduceLT, reduceCtorEq, Nat.reduceAdd, sy, gt_other, f91, f92, f93, f103, g0, g5, g39, g40, g41, g42, hl]) ?_;rintro s _ ⟨hl, g0, g5, rfl⟩;refine wpo_nil (then_n ?_);refine AM.wp_exit ?_;refine then_x ?_;refine rnd_b (by decide) rfl ?_;obtain rfl := Option.some.inj hy54;replace hst := hst.p1;replace hst := hst.drop;replace hst := hst.p2;replace hst := hst.p2;replace hst := hst.p2;exact ⟨_, rfl, ⟨W, _, _, _, hl, g5, g0, ((((w60.trans w81).trans w85).trans w90).trans w102), hst, o104, o65⟩⟩
     ·replace hy54 := ifF c77 hy54;refine AM.wp_condF (by simp only [ev_t, ev_c, g38, c77]) ?_;refine AM.wp_skip ?_;refine then_n ?_;refine AM.wp_reg hp0 ?_;replace hst := hst.p1;obtain ⟨H105, fg106, f107, hst, o108⟩ := om_put (kk := .int) hst o65 (show (.int .i64 x66 : AV) = Ky.enc (x66 : Int) from rfl) rfl (show Rp.rv _ (.int .i64 (k52 : Int)) ((k52 : Int) : Int) from rfl);refine wpo_seg hp0 4 (fun s H' => s.length = 73 ∧ gt s 0 = v_0 ∧ gt s 5 = v61 ∧ gt s 7 = v41 ∧ gt s 25 = rv27 ∧ gt s 26 = .int .i64 (r22.length : Int) ∧ gt s 27 = .int .i64 (k52 : Int) ∧ H105 = H') (by simp only [↓runs, isCall, ↓reduceIte, ↓gd_true, ↓gd_false, evs, AV.cells, Nat.reduceEqDiff, Nat.reduceLT, reduceCtorEq, Nat.reduceAdd, sy, f107, g0, g5, g7, g8, g9, g10, g25, g26, g27, g38, hl]) ?_;rintro s _ ⟨hl, g0, g5, g7, g25, g26, g27, rfl⟩;refine wpo_nil ?_;refine rnd_n ?_;obtain rfl := Option.some.inj hy54;replace hst := hst.p2;replace hst := hst.p1;replace hst := hst.p2;exact ⟨_, rfl, hl, g27, g26, ⟨W, _, _, _, hl, g5, g0, g7, g25, w60, hst, o63, o108⟩⟩
    ·rintro x109 s Hn hz hI;replace hI : (fun s H' => ∃ (W' : AH) (w5 : AV) (q5 : Frag) (qo5 : Frag), s.length = 73 ∧ gt s 5 = w5 ∧ gt s 0 = v_0 ∧  Wle W W' ∧ St (q5 :: qo5 :: fg29 :: G) W' H' ∧ OwS W' w5 q5 (x109.1 : List (List Int)) ∧ OwM W' v41 qo5 (x109.2 : List (Int × Int))) s Hn := by
      rcases hI with ⟨hI, -⟩ | ⟨_, hI⟩
      ·obtain ⟨W2, v5, q5, qq5, hl, g5, g0, g7, g25, w2, hst2, o5, oo5⟩ := hI;exact ⟨W2, _, _, _, hl, g5, g0, w2, hst2, o5, oo5⟩
      ·exact hI
     obtain ⟨H, rfl⟩ : ∃ K, K = Hn := ⟨_, rfl⟩;subst hz;dsimp only at hy12 hI;obtain ⟨W, v111, fg112, fg114, hl, g5, g0, w110, hst, o113, o115⟩ := hI;replace h_0 := Rp.mono w110 h_0;replace o30 := o30.mono w110;refine blk_n ?_;refine then_n ?_;obtain rfl := Option.some.inj hy12;replace hst := hst.p1;replace hst := hst.drop;replace hst := hst.p1;replace hst := hst.drop;exact ⟨_, rfl, ⟨W, _, _, hl, g5, g0, ((((w17.trans w31).trans w39).trans w44).trans w110), hst, o113⟩⟩
  ·rintro x116 s H hz hI;subst hz;dsimp only at hp hI;obtain ⟨W, v118, fg119, hl, g5, g0, w117, hst, o120⟩ := hI;replace h_0 := Rp.mono w117 h_0;refine then_n ?_;refine AM.wp_seq hp0 (AM.wp_seq hp0 (AM.wp_reg hp0 ?_));refine wpo_seg hp0 1 (fun s H' => s.length = 73 ∧ gt s 0 = v_0 ∧ gt s 5 = v118 ∧ gt s 12 = .int .i64 0 ∧ H = H') (by simp only [↓runs, isCall, ↓reduceIte, ↓gd_true, ↓gd_false, evs, AV.cells, Nat.reduceEqDiff, Nat.reduceLT, reduceCtorEq, Nat.reduceAdd, sy, g0, g5, hl]) ?_;rintro s _ ⟨hl, g0, g5, g12, rfl⟩;refine wpo_nil (then_n ?_);obtain ⟨z127, e128, hp⟩ := bn hp;refine loop_ref hp0 (fun x => P_subdirect_Decompose_l121 t x.1 x.2) (fun x s H' => ∃ (W' : AH) (w5 : AV) (q5 : Frag), s.length = 73 ∧ gt s 5 = w5 ∧ gt s 12 = .int .i64 x.2 ∧ gt s 0 = v_0 ∧  Wle W W' ∧ St (q5 :: G) W' H' ∧ OwS W' w5 q5 (x.1 : List (List Int))) (fun x s H' => ∃ (W' : AH) (w5 : AV) (q5 : Frag), s.length = 73 ∧ gt s 5 = w5 ∧  Wle W W' ∧ St (q5 :: G) W' H' ∧ OwS W' w5 q5 (x.1 : List (List Int))) e128 ?_ ?_ ?_
   ·exact ⟨W, _, _, hl, g5, g12, g0, .refl _, hst, o120⟩
   ·intro x122 y124 s H hI hy125 hx126;obtain ⟨list129, i130⟩ := x122;dsimp only at hI;change P_subdirect_Decompose_l121 t list129 i130 = some y124 at hy125;unfold P_subdirect_Decompose_l121 at hy125;obtain ⟨W, v132, fg133, hl, g5, g12, g0, w131, hst, o134⟩ := hI;replace h_0 := Rp.mono w131 h_0;refine AM.wp_seq hp0 (AM.wp_seq hp0 (AM.wp_reg hp0 ?_));have f135 := ow_ln o134;have b136 := ow_big o134;refine wpo_seg hp0 4 (fun s H' => s.length = 73 ∧ gt s 0 = v_0 ∧ gt s 5 = v132 ∧ gt s 12 = .int .i64 i130 ∧ gt s 53 = .bool (decide (i130 < (list129.length : Int))) ∧ H = H') (by simp only [↓runs, isCall, ↓reduceIte, ↓gd_true, ↓gd_false, evs, AV.cells, Nat.reduceEqDiff, Nat.reduceLT, reduceCtorEq, Nat.reduceAdd, sy, f135, g0, g5, g12, hl]) ?_;rintro s _ ⟨hl, g0, g5, g12, g53, rfl⟩;refine wpo_nil (then_n ?_);rcases Bool.eq_false_or_eq_true (decide (i130 < (list129.length : Int))) with c137 | c137
    ·replace hy125 := ifT c137 hy125;refine AM.wp_condT (by simp only [ev_t, ev_c, g53, c137]) ?_;refine AM.wp_skip ?_;refine then_n ?_;refine AM.wp_block ?_;refine AM.wp_seq hp0 (AM.wp_reg hp0 ?_);have f138 := fz_ln h_0;refine wpo_seg hp0 4 (fun s H' => s.length = 73 ∧ gt s 0 = v_0 ∧ gt s 5 = v132 ∧ gt s 12 = .int .i64 i130 ∧ gt s 55 = .int .i64 (t.length : Int) ∧ gt s 56 = v132 ∧ gt s 57 = .int .i64 i130 ∧ H = H') (by simp only [↓runs, isCall, ↓reduceIte, ↓gd_true, ↓gd_false, evs, AV.cells, Nat.reduceEqDiff, Nat.reduceLT, reduceCtorEq, Nat.reduceAdd, sy, f138, g0, g5, g12, g53, hl]) ?_;rintro s _ ⟨hl, g0, g5, g12, g55, g56, g57, rfl⟩;obtain ⟨r139, e140, hy125⟩ := bn hy125;obtain ⟨W, w141, hst, h142, k143⟩ := ow_lend hst o134;refine wpo_callK hp0 rfl (ys := [.int .i64 (t.length : Int), v132, .int .i64 i130]) (by simp only [evs, List.map_cons, List.map_nil, ev_t, ev_c, g55, g56, g57]) (R_subdirect_meet hst h142 e140) ?_;rintro rv144 H ⟨W, w145, fg146, hst, o147⟩;obtain ⟨W, w148, hst, o134⟩ := k143 _ _ _ w145 hst;replace o147 : OwS W _ _ _ := o147.flat;replace h_0 := Rp.mono w148 h_0;refine wpo_seg hp0 0 (fun s H' => s.length = 73 ∧ gt s 0 = v_0 ∧ gt s 5 = v132 ∧ gt s 12 = .int .i64 i130 ∧ gt s 58 = rv144 ∧ H = H') (by simp only [↓runs, isCall, ↓reduceIte, ↓gd_true, ↓gd_false, evs, AV.cells, Nat.reduceEqDiff, Nat.reduceLT, reduceCtorEq, Nat.reduceAdd, sy, gt_other, g0, g5, g12, g55, g56, g57, hl]) ?_;rintro s _ ⟨hl, g0, g5, g12, g58, rfl⟩;replace hst := hst.p1;obtain ⟨W, w150, hst, h149⟩ := ow_frz hst o147;replace h_0 := Rp.mono w150 h_0;replace o134 := o134.mono w150;obtain ⟨r151, e152, hy125⟩ := bn hy125;refine wpo_callK hp0 rfl (ys := [rv144]) (by simp only [evs, List.map_cons, List.map_nil, ev_t, ev_c, g58]) (R_subdirect_discrete hst h149 e152) ?_;rintro rv153 H ⟨W, w154, hst, rfl⟩;replace h_0 := Rp.mono w154 h_0;replace h149 := Rp.mono w154 h149;replace o134 := o134.mono w154;refine wpo_seg hp0 0 (fun s H' => s.length = 73 ∧ gt s 0 = v_0 ∧ gt s 5 = v132 ∧ gt s 12 = .int .i64 i130 ∧ gt s 59 = .bool r151 ∧ H = H') (by simp only [↓runs, isCall, ↓reduceIte, ↓gd_true, ↓gd_false, evs, AV.cells, Nat.reduceEqDiff, Nat.reduceLT, reduceCtorEq, Nat.reduceAdd, sy, gt_other, g0, g5, g12, g58, hl]) ?_;rintro s _ ⟨hl, g0, g5, g12, g59, rfl⟩;refine wpo_nil (then_n ?_);rcases Bool.eq_false_or_eq_true (r151) with c155 | c155
     ·replace hy125 := ifT c155 hy125;refine AM.wp_condT (by simp only [ev_t, ev_c, g59, c155]) ?_;refine AM.wp_reg hp0 ?_;obtain ⟨v156, l157, H158, fg159, W, f161, f162, f163, w160, hst, o164⟩ := ow_lit' (n := 1) (k := 0) (z := []) (ys := []) (M := ([] : List (List Int))) [] rfl rfl hst (sc_nil) ( fun _ h => (List.not_mem_nil h).elim) rfl rfl rfl (by decide);replace h_0 := Rp.mono w160 h_0;replace h149 := Rp.mono w160 h149;replace o134 := o134.mono w160;replace hst := hst.p1;obtain ⟨W, w166, hst, h165⟩ := ow_frz hst o134;replace h_0 := Rp.mono w166 h_0;replace h149 := Rp.mono w166 h149;replace o164 := o164.mono w166;obtain ⟨x167, e168, hy125⟩ := bn hy125;obtain ⟨v169, f170, h171⟩ := fz_sub (n := 1) (kl := .i64) (kh := .i64) (lo := none) (hi := (some i130)) rfl h165 e168 (by simp);simp only [Option.map_some, Option.map_none] at f170;obtain ⟨c172, sn173⟩ := fz_sn hst h171;obtain ⟨x174, e175, hy125⟩ := bn hy125;obtain ⟨v176, H177, fg178, W, f180, w179, hst, o181⟩ := ow_apps [.nils] rfl hst o164 sn173 e175;replace h_0 := Rp.mono w179 h_0;replace h149 := Rp.mono w179 h149;replace h165 := Rp.mono w179 h165;replace h171 := Rp.mono w179 h171;obtain ⟨x182, e183, hy125⟩ := bn hy125;obtain ⟨v184, f185, h186⟩ := fz_sub (n := 1) (kl := .i64) (kh := .i64) (lo := (some (w64 (i130 + 1)))) (hi := none) rfl h165 e183 (by simp);simp only [Option.map_some, Option.map_none] at f185;obtain ⟨c187, sn188⟩ := fz_sn hst h186;obtain ⟨x189, e190, hy125⟩ := bn hy125;obtain ⟨v191, H192, fg193, W, f195, w194, hst, o196⟩ := ow_apps [.nils] rfl hst o181 sn188 e190;replace h_0 := Rp.mono w194 h_0;replace h149 := Rp.mono w194 h149;replace h165 := Rp.mono w194 h165;replace h171 := Rp.mono w194 h171;replace h186 := Rp.mono w194 h186;refine wpo_seg hp0 11 (fun s H' => s.length = 73 ∧ gt s 0 = v_0 ∧ gt s 5 = v191 ∧ gt s 12 = .int .i64 i130 ∧ H192 = H') (by simp only [↓runs, isCall, ↓reduceIte, ↓gd_true, ↓gd_false, evs, AV.cells, Nat.reduceEqDiff, Nat.reduceLT, reduceCtorEq, Nat.reduceAdd, sy, f161, f162, f163, f170, f180, f185, f195, g0, g5, g12, g59, hl]) ?_;rintro s _ ⟨hl, g0, g5, g12, rfl⟩;refine wpo_nil ?_;refine blk_n ?_;refine then_n ?_;obtain rfl := Option.some.inj hy125;exact ⟨_, rfl, ⟨W, _, _, hl, g5, g12, g0, (((((((w131.trans w148).trans w150).trans w154).trans w160).trans w166).trans w179).trans w194), hst, o196⟩⟩
     ·replace hy125 := ifF c155 hy125;refine AM.wp_condF (by simp only [ev_t, ev_c, g59, c155]) ?_;refine AM.wp_reg hp0 ?_;refine wpo_seg hp0 3 (fun s H' => s.length = 73 ∧ gt s 0 = v_0 ∧ gt s 5 = v132 ∧ gt s 12 = .int .i64 (w64 (i130 + 1)) ∧ H = H') (by simp only [↓runs, isCall, ↓reduceIte, ↓gd_true, ↓gd_false, evs, AV.cells, Nat.reduceEqDiff, Nat.reduceLT, reduceCtorEq, Nat.reduceAdd, sy, g0, g5, g12, g59, hl]) ?_;rintro s _ ⟨hl, g0, g5, g12, rfl⟩;refine wpo_nil ?_;refine blk_n ?_;refine then_n ?_;obtain rfl := Option.some.inj hy125;exact ⟨_, rfl, ⟨W, _, _, hl, g5, g12, g0, (((w131.trans w148).trans w150).trans w154), hst, o134⟩⟩
    ·replace hy125 := ifF c137 hy125;refine AM.wp_condF (by simp only [ev_t, ev_c, g53, c137]) ?_;refine AM.wp_exit ?_;refine then_x ?_;refine then_x (rnd_c rfl ?_);obtain rfl := Option.some.inj hy125;exact ⟨_, rfl, ⟨W, _, _, hl, g5, w131, hst, o134⟩⟩
   ·rintro x197 s H hz hI;subst hz;dsimp only at hp hI;obtain ⟨W, v199, fg200, hl, g5, w198, hst, o201⟩ := hI;replace h_0 := Rp.mono w198 h_0;refine then_n ?_;refine AM.wp_seq hp0 (AM.wp_reg hp0 ?_);refine wpo_seg hp0 3 (fun s H' => s.length = 73 ∧ gt s 2 = v199 ∧ gt s 3 = .int .i64 0 ∧ H = H') (by simp only [↓runs, isCall, ↓reduceIte, ↓gd_true, ↓gd_false, evs, AV.cells, Nat.reduceEqDiff, Nat.reduceLT, reduceCtorEq, Nat.reduceAdd, sy, g5, hl]) ?_;rintro s _ ⟨hl, g2, g3, rfl⟩;refine wpo_nil (then_n ?_);refine AM.wp_ret ?_;obtain rfl := Option.some.inj hp;refine body_ret (vs := [v199, .int .i64 0]) (by simp only [rvs, f_subdirect_Decompose, Option.map_some, g2, g3]) ?_;exact ⟨W, ((w4.trans w117).trans w198), _, _, hst, rfl, o201⟩

end Go.Proofs.Ytmdpejgnkoneoaa.Pu
set_option maxRecDepth 10000
namespace Go.Proofs.Ytmdpejgnkoneoaa.Mt
open Go Go.AM Go.AM.Par Go.AM.Cg Go.AM.Lx Go.Proofs.Ytmdpejgnkoneoaa.Pu

theorem app_l {l : List (List Int)} {p : List Int} {j : Nat} (h : j < l.length) : (l ++ [p]).getD j [] = l.getD j [] := by
  rw [List.getD_eq_getElem?_getD, List.getElem?_append_left h, ← List.getD_eq_getElem?_getD]
theorem app_r (l : List (List Int)) (p : List Int) : (l ++ [p]).getD l.length [] = p := by simp [List.getD_eq_getElem?_getD]
theorem app_len (l : List (List Int)) (p : List Int) : (l ++ [p]).length = l.length + 1 := by simp
theorem inf_app {l : List (List Int)} {p : List Int} {x y : Nat} (h : InfTo (l ++ [p]) (-1) (l ++ [p]).length x y) : InfTo l (-1) l.length x y ∧ p.getD x 0 = p.getD y 0 := by
  rw [app_len] at h
  constructor
  · intro j hj hb
    have := h j (by omega) hb
    rwa [app_l hj] at this
  · have := h l.length (by omega) (by omega)
    rwa [app_r] at this

open Classical in
noncomputable def gap (n : Nat) (l : List (List Int)) : Nat := ((List.range (n * n)).filter fun w => decide (InfTo l (-1) l.length (w / n) (w % n))).length
theorem gap_le (n : Nat) (l : List (List Int)) : gap n l ≤ n * n := Nat.le_trans (List.length_filter_le _ _) (by simp)
open Classical in
theorem gap_app {n : Nat} {l : List (List Int)} {p : List Int} {i k : Nat} (hi : i < n) (hk : k < n) (h : InfTo l (-1) l.length i k) (hp : p.getD i 0 ≠ p.getD k 0) : gap n (l ++ [p]) < gap n l := by
  unfold gap
  have hw1 : (n * i + k) / n = i := by rw [Nat.mul_add_div (by omega), Nat.div_eq_of_lt hk]; omega
  have hw2 : (n * i + k) % n = k := by rw [Nat.mul_add_mod, Nat.mod_eq_of_lt hk]
  refine filter_lt (fun w _ hw => ?_) ⟨n * i + k, ?_, ?_, ?_⟩
  · simp only [decide_eq_true_eq] at hw ⊢
    exact (inf_app hw).1
  · rw [List.mem_range]
    have h1 : n * (i + 1) ≤ n * n := Nat.mul_le_mul_left n (by omega)
    rw [Nat.mul_add] at h1
    omega
  · simp only [decide_eq_true_eq]; rw [hw1, hw2]; exact h
  · simp only [decide_eq_false_iff_not]; rw [hw1, hw2]; exact fun hh => hp (inf_app hh).2

theorem mget_nil {κ ν : Type} [BEq κ] (k : κ) : mget ([] : List (κ × ν)) k = none := rfl

theorem dec_find {t : List (List Int)} {n : Nat} {T : Nat → Nat → Nat} (h : Sg t n T) {l : List (List Int)} (hl : l.length ≤ 160000) {r : List Int} (hr : IsP n (InfTo l (-1) l.length) r) (hd : ¬ Disc n (InfTo l (-1) l.length)) :
    ∃ p i k M, forR r.length (fun k x => P_subdirect_Decompose_l50 r t k x.1 x.2) (l, []) = some (.inl (l ++ [p], M)) ∧ i < n ∧ k < n ∧ InfTo l (-1) l.length i k ∧ p.getD i 0 ≠ p.getD k 0 ∧ Fac n T p := by
  rw [hr.len]
  obtain ⟨o, ho, p, i, k, M, rfl, hQ⟩ := forR_inv (n := n) (f := fun k x => P_subdirect_Decompose_l50 r t k x.1 x.2) (x := (l, []))
    (fun k s => s.1 = l ∧ (∀ v i, mget s.2 v = some i → ∃ j : Nat, i = (j : Int) ∧ j < k ∧ r.getD j 0 = v) ∧ (∀ v, mget s.2 v = none → ∀ j, j < k → r.getD j 0 ≠ v) ∧ ∀ i j, i < j → j < k → r.getD i 0 ≠ r.getD j 0)
    (fun o => ∃ p i k M, o = .inl (l ++ [p], M) ∧ i < n ∧ k < n ∧ InfTo l (-1) l.length i k ∧ p.getD i 0 ≠ p.getD k 0 ∧ Fac n T p)
    ⟨rfl, fun v i e => by simp [mget_nil] at e, fun v _ j hj => by omega, fun i j _ hj => by omega⟩ (by
      rintro k ⟨l2, M⟩ hk ⟨h0, h1, h2, h3⟩
      dsimp only at h0 h1 h2 h3 ⊢
      subst h0
      have hrl := hr.len
      unfold P_subdirect_Decompose_l50
      rw [gi_lt 0 (by omega)]
      simp only [Option.bind_some]
      cases e : mget M (r.getD k 0) with
      | some i' =>
        obtain ⟨i, rfl, hi, hv⟩ := h1 _ _ e
        simp only [Option.isSome_some, if_true, Option.getD_some]
        obtain ⟨p, P, e2, hA⟩ := apart h (a := i) (b := k) (by omega) hk (by omega)
        rw [e2]
        simp only [Option.bind_some]
        rw [pus_ok (by simp only [List.length_cons, List.length_nil]; omega) (by omega)]
        exact .inr (.inl ⟨_, rfl, p, i, k, M, rfl, by omega, hk, (hr.ker i k (by omega) hk).1 hv, hA.ap, hA.fac h (by omega) hk⟩)
      | none =>
        simp only [Option.isSome_none, Bool.false_eq_true, if_false]
        refine .inl ⟨_, rfl, rfl, fun v i e2 => ?_, fun v e2 j hj => ?_, fun i j hij hj => ?_⟩
        · dsimp only at e2
          rw [mget_mput] at e2
          split at e2
          · rename_i hb
            cases e2
            exact ⟨k, rfl, by omega, by simpa using hb⟩
          · obtain ⟨j, a, b, c⟩ := h1 v i e2
            exact ⟨j, a, by omega, c⟩
        · dsimp only at e2
          rw [mget_mput] at e2
          split at e2
          · cases e2
          · rename_i hb
            rcases Nat.lt_or_ge j k with h5 | h5
            · exact h2 v e2 j h5
            · have : j = k := by omega
              subst this
              intro e3
              exact hb (by rw [e3]; simp)
        · rcases Nat.lt_or_ge j k with h5 | h5
          · exact h3 i j hij h5
          · have : j = k := by omega
            subst this
            exact h2 _ e i hij)
    (by
      rintro ⟨l2, M⟩ ⟨h0, h1, h2, h3⟩
      refine absurd (fun x y hx hy e => ?_) hd
      have e2 := (hr.ker x y hx hy).2 e
      rcases Nat.lt_trichotomy x y with h5 | h5 | h5
      · exact absurd e2 (h3 x y h5 hy)
      · exact h5
      · exact absurd e2.symm (h3 y x h5 hx))
  exact ⟨p, i, k, M, ho, hQ⟩

theorem sub_take {α : Type} {L : List α} {i : Nat} (h : i ≤ L.length) : sub L none (some (i : Int)) = some (L.take i) := by
  have e : bd (some (i : Int)) L.length L.length = some i := by
    unfold bd; dsimp only; rw [if_pos ⟨by omega, by omega⟩]; simp
  unfold sub
  rw [e]
  simp [bd]
theorem sub_drop {α : Type} {L : List α} {i : Nat} (h : i ≤ L.length) : sub L (some (i : Int)) none = some (L.drop i) := by
  have e : bd none L.length L.length = some L.length := rfl
  have e2 : bd (some (i : Int)) 0 L.length = some i := by
    unfold bd; dsimp only; rw [if_pos ⟨by omega, by omega⟩]; simp
  unfold sub
  rw [e]
  simp only [Option.bind_some]
  rw [e2]
  simp
def cut (l : List (List Int)) (i : Nat) : List (List Int) := l.take i ++ l.drop (i + 1)
theorem cut_len {l : List (List Int)} {i : Nat} (h : i < l.length) : (cut l i).length = l.length - 1 := by simp [cut]; omega
theorem cut_at {l : List (List Int)} {i : Nat} (h : i < l.length) (j : Nat) : (cut l i).getD j [] = if j < i then l.getD j [] else l.getD (j + 1) [] := by
  unfold cut
  rw [List.getD_eq_getElem?_getD, List.getD_eq_getElem?_getD, List.getD_eq_getElem?_getD]
  by_cases hj : j < i
  · rw [if_pos hj, List.getElem?_append_left (by simp; omega), List.getElem?_take_of_lt hj]
  · have hm : (l.take i).length = i := by simp; omega
    rw [if_neg hj, List.getElem?_append_right (by omega), hm, List.getElem?_drop]
    congr 2; omega
theorem cut_inf {l : List (List Int)} {i x y : Nat} (h : i < l.length) (hh : InfTo (cut l i) (-1) (cut l i).length x y) : InfTo l (i : Int) l.length x y := by
  rw [cut_len h] at hh
  intro j hj hne
  rcases Nat.lt_or_ge j i with h5 | h5
  · have := hh j (by omega) (by omega)
    rwa [cut_at h, if_pos h5] at this
  · have := hh (j - 1) (by omega) (by omega)
    rw [cut_at h, if_neg (by omega)] at this
    have e : j - 1 + 1 = j := by omega
    rwa [e] at this
theorem inf_cut {l : List (List Int)} {i k x y : Nat} (h : i < l.length) (hk : k < i) (hh : InfTo l (k : Int) l.length x y) : InfTo (cut l i) (k : Int) (cut l i).length x y := by
  rw [cut_len h]
  intro j hj hne
  rw [cut_at h]
  split
  · exact hh j (by omega) hne
  · exact hh (j + 1) (by omega) (by omega)
theorem fac_cut {n : Nat} {T : Nat → Nat → Nat} {l : List (List Int)} {i : Nat} (h : i < l.length) (hF : ∀ k, k < l.length → Fac n T (l.getD k [])) : ∀ k, k < (cut l i).length → Fac n T ((cut l i).getD k []) := by
  rw [cut_len h]
  intro k hk
  rw [cut_at h]
  split
  · exact hF k (by omega)
  · exact hF (k + 1) (by omega)

open Classical in
theorem decompose {t : List (List Int)} {n : Nat} {T : Nat → Nat → Nat} (h : Sg t n T) : ∃ l, P_subdirect_Decompose t = some (l, 0) ∧ ChkP n T l ∧ l.length ≤ 160000 := by
  have h400 := h.le
  have hnn : n * n ≤ 160000 := Nat.mul_le_mul (n₂ := 400) (m₂ := 400) h400 h400
  unfold P_subdirect_Decompose
  rw [validate, h.valid]
  simp only [Option.bind_some, Option.bind_none, decide_true, decide_false, Bool.not_true, Bool.not_false, Bool.true_and, Bool.and_true, Bool.false_eq_true, if_true, if_false, not_true_eq_false, not_false_eq_true, ite_true, ite_false, Bool.not_eq_true, decide_eq_true_eq, decide_eq_false_iff_not, Bool.not_eq_true', Bool.not_eq_false', Option.getD_some, Option.getD_none, Option.isSome_some, Option.isSome_none, Option.isNone_some, Option.isNone_none, eq_self, forall_const, true_implies, false_implies, implies_true]
  obtain ⟨o, ho, l, rfl, hF, hD, hlen⟩ := loop_inv (f := fun x => P_subdirect_Decompose_l7 t x) (x := [])
    (fun l => (∀ k, k < l.length → Fac n T (l.getD k [])) ∧ l.length + gap n l ≤ n * n) (fun l => gap n l)
    (fun o => ∃ l, o = .inl l ∧ (∀ k, k < l.length → Fac n T (l.getD k [])) ∧ Disc n (InfTo l (-1) l.length) ∧ l.length ≤ 160000)
    ⟨fun k hk => by simp at hk, by have := gap_le n []; simpa using this⟩ (by
      rintro l ⟨hF, hg⟩
      have hl : ∀ k, k < l.length → (l.getD k []).length = n ∧ validP (l.getD k []) = true := fun k hk => ⟨(hF k hk).1.1, (hF k hk).1.2.1⟩
      obtain ⟨r, e, hr⟩ := smeet (n := n) (by omega) hl (-1)
      unfold P_subdirect_Decompose_l7
      rw [h.len, e]
      simp only [Option.bind_some]
      rw [discrete hr (by omega)]
      simp only [Option.bind_some]
      by_cases hd : Disc n (InfTo l (-1) l.length)
      · rw [decide_eq_true hd]
        exact .inr (.inl ⟨l, rfl, l, rfl, hF, hd, by omega⟩)
      · rw [decide_eq_false hd]
        simp only [Bool.false_eq_true, if_false]
        obtain ⟨p, i, k, M, e2, hi, hk, hik, hp, hFp⟩ := dec_find h (by omega) hr hd
        rw [e2]
        have hlt := gap_app hi hk hik hp
        refine .inl ⟨l ++ [p], rfl, ⟨fun k hk => ?_, by rw [app_len]; omega⟩, hlt⟩
        rw [app_len] at hk
        rcases Nat.lt_or_ge k l.length with h5 | h5
        · rw [app_l h5]; exact hF k h5
        · have : k = l.length := by omega
          subst this
          rw [app_r]; exact hFp)
  rw [ho]
  simp only [Option.bind_some]
  obtain ⟨o, ho, l', i', rfl, hC, hlen'⟩ := loop_inv (f := fun x => P_subdirect_Decompose_l121 t x.1 x.2) (x := (l, (0 : Int)))
    (fun s : List (List Int) × Int => ∃ i : Nat, s.2 = (i : Int) ∧ i ≤ s.1.length ∧ s.1.length ≤ 160000 ∧ (∀ k, k < s.1.length → Fac n T (s.1.getD k [])) ∧ Disc n (InfTo s.1 (-1) s.1.length) ∧ ∀ k : Nat, k < i → ¬ Disc n (InfTo s.1 (k : Int) s.1.length))
    (fun s => s.1.length - s.2.toNat) (fun o => ∃ l i, o = .inl (l, i) ∧ ChkP n T l ∧ l.length ≤ 160000)
    ⟨0, rfl, Nat.zero_le _, hlen, hF, hD, fun k hk => by omega⟩ (by
      rintro ⟨l, _⟩ ⟨i, rfl, hil, hlen, hF, hD, hS⟩
      dsimp only at hil hlen hF hD hS ⊢
      have hl : ∀ k, k < l.length → (l.getD k []).length = n ∧ validP (l.getD k []) = true := fun k hk => ⟨(hF k hk).1.1, (hF k hk).1.2.1⟩
      have hw : w64 ((i : Int) + 1) = ((i + 1 : Nat) : Int) := by rw [w64_id (by omega) (by omega)]; simp
      unfold P_subdirect_Decompose_l121
      by_cases hi : i < l.length
      · rw [if_pos (by simp only [decide_eq_true_eq]; omega)]
        obtain ⟨r, e, hr⟩ := smeet (n := n) (by omega) hl (i : Int)
        rw [h.len, e]
        simp only [Option.bind_some]
        rw [discrete hr (by omega)]
        simp only [Option.bind_some]
        by_cases hd : Disc n (InfTo l (i : Int) l.length)
        · rw [decide_eq_true hd]
          simp only [if_true]
          rw [sub_take (by omega)]
          simp only [Option.bind_some]
          rw [pus_ok (by simp only [List.length_nil, List.length_take]; omega) (by omega), hw]
          simp only [Option.bind_some, List.nil_append]
          rw [sub_drop (by omega)]
          simp only [Option.bind_some]
          rw [pus_ok (by simp only [List.length_drop, List.length_take]; omega) (by omega)]
          simp only [Option.bind_some]
          have hcl := cut_len hi
          refine .inl ⟨(cut l i, (i : Int)), rfl, ⟨i, rfl, by dsimp only; omega, by dsimp only; omega, fac_cut hi hF, fun x y hx hy hxy => hd x y hx hy (cut_inf hi hxy), fun k hk hdk => hS k hk fun x y hx hy hxy => hdk x y hx hy (inf_cut hi hk hxy)⟩, by dsimp only; rw [hcl, Int.toNat_natCast]; omega⟩
        · rw [decide_eq_false hd]
          simp only [Bool.false_eq_true, if_false]
          refine .inl ⟨_, rfl, ⟨i + 1, hw, by dsimp only; omega, hlen, hF, hD, fun k hk => ?_⟩, by dsimp only; rw [hw, Int.toNat_natCast, Int.toNat_natCast]; omega⟩
          by_cases hki : k = i
          · subst hki; exact hd
          · exact hS k (by omega)
      · rw [if_neg (by simp only [decide_eq_true_eq]; omega)]
        exact .inr (.inl ⟨_, rfl, l, _, rfl, ⟨hF, hD, fun k hk => hS k (by omega)⟩, hlen⟩))
  rw [ho]
  exact ⟨l', rfl, hC, hlen'⟩
end Go.Proofs.Ytmdpejgnkoneoaa.Mt
set_option maxRecDepth 100000
set_option maxHeartbeats 4000000
namespace Go.Proofs.Ytmdpejgnkoneoaa.Pu
open Go Go.AM Go.Proofs.Ytmdpejgnkoneoaa.Code

end Go.Proofs.Ytmdpejgnkoneoaa.Pu
set_option maxRecDepth 100000
set_option maxHeartbeats 4000000
namespace Go.Proofs.Ytmdpejgnkoneoaa.Pu
open Go Go.AM Go.Proofs.Ytmdpejgnkoneoaa.Code

noncomputable def P_semigrouplaw22_small (t : List (List Int)) (most : Int) : Option (Bool) :=
 Option.bind (
  if decide ((t.length : Int) ≤ most) then
   Option.bind (P_semigroupref14_Valid t) fun r5 =>
   some r5
  else
   some false) fun z1 =>
 some z1
theorem R_semigrouplaw22_small {G : List Frag} {W H : AH} {v_0 : AV} {t : List (List Int)} {most : Int} (hst : St G W H) (h_0 : Rp.rv W v_0 t) {r : Bool} (hp : P_semigrouplaw22_small t most = some r) :
  wpc E0 N_semigrouplaw22_small [v_0, .int .i64 most] H fun rv H' => ∃ W', Wle W W' ∧ St G W' H' ∧ rv = .bool r := by
 refine enterN (F := f_semigrouplaw22_small) rfl (Nat.le_of_ble_eq_true rfl) fun s hl hg => ?_;replace hl : s.length = 13 := hl;have g0 : gt s 0 = v_0 := hg 0 (Nat.le_of_ble_eq_true rfl);have g1 : gt s 1 = .int .i64 most := hg 1 (Nat.le_of_ble_eq_true rfl);clear hg;unfold P_semigrouplaw22_small at hp;show wp E0 c_semigrouplaw22_small s H _;unfold c_semigrouplaw22_small;refine AM.wp_seq hp0 (AM.wp_reg hp0 ?_);refine wpo_seg hp0 1 (fun s H' => s.length = 13 ∧ gt s 0 = v_0 ∧ gt s 1 = .int .i64 most ∧ H = H') (by simp only [↓runs, isCall, ↓reduceIte, ↓gd_true, ↓gd_false, evs, AV.cells, Nat.reduceEqDiff, Nat.reduceLT, reduceCtorEq, Nat.reduceAdd, sy, g0, g1, hl]) ?_;rintro s _ ⟨hl, g0, g1, rfl⟩;refine wpo_nil (then_n ?_);refine AM.wp_seq hp0 ?_;obtain ⟨z1, hj2, hp⟩ := bn hp;refine AM.wp_regK hp0 (fun s H' => ∃ (W' : AH), s.length = 13 ∧ gt s 4 = .bool z1 ∧  Wle W W' ∧ St G W' H') ?_ ?_
 ·have f3 := fz_ln h_0;rcases Bool.eq_false_or_eq_true (decide ((t.length : Int) ≤ most)) with c4 | c4
  ·replace hj2 := ifT c4 hj2;refine wpo_seg hp0 6 (fun s H' => s.length = 13 ∧ gt s 9 = .bool true ∧ gt s 10 = v_0 ∧ H = H') (by simp only [↓runs, isCall, ↓reduceIte, ↓gd_true, ↓gd_false, evs, AV.cells, Nat.reduceEqDiff, Nat.reduceLT, reduceCtorEq, Nat.reduceAdd, sy, f3, c4, g0, g1, hl]) ?_;rintro s _ ⟨hl, g9, g10, rfl⟩;obtain ⟨r5, e6, hj2⟩ := bn hj2;refine wpo_callK hp0 (by simp only [wanted, g9, beq_self_eq_true]) (ys := [v_0]) (by simp only [evs, List.map_cons, List.map_nil, ev_t, ev_c, g10]) (R_semigroupref14_Valid hst h_0 e6) ?_;rintro rv7 H ⟨W, w9, hst, rfl⟩;replace h_0 := Rp.mono w9 h_0;refine wpo_seg hp0 2 (fun s H' => s.length = 13 ∧ gt s 4 = .bool r5 ∧ H = H') (by simp only [↓runs, isCall, ↓reduceIte, ↓gd_true, ↓gd_false, evs, AV.cells, Nat.reduceEqDiff, Nat.reduceLT, reduceCtorEq, Nat.reduceAdd, sy, gt_other, g9, g10, hl]) ?_;rintro s _ ⟨hl, g4, rfl⟩;refine wpo_nil ?_;obtain rfl := Option.some.inj hj2;exact ⟨W, hl, g4, w9, hst⟩
  ·replace hj2 := ifF c4 hj2;refine wpo_seg hp0 9 (fun s H' => s.length = 13 ∧ gt s 4 = .bool false ∧ H = H') (by simp only [↓runs, isCall, ↓reduceIte, ↓gd_true, ↓gd_false, evs, AV.cells, Nat.reduceEqDiff, Nat.reduceLT, reduceCtorEq, Nat.reduceAdd, sy, f3, c4, g0, g1, hl]) ?_;rintro s _ ⟨hl, g4, rfl⟩;refine wpo_nil ?_;obtain rfl := Option.some.inj hj2;exact ⟨W, hl, g4, .refl _, hst⟩
 ·rintro s H ⟨W, hl, g4, w10, hst⟩;refine then_n ?_;refine AM.wp_ret ?_;obtain rfl := Option.some.inj hp;refine body_ret (vs := [.bool z1]) (by simp only [rvs, f_semigrouplaw22_small, Option.map_some, g4]) ?_;exact ⟨W, w10, hst, rfl⟩

end Go.Proofs.Ytmdpejgnkoneoaa.Pu
set_option maxRecDepth 100000
set_option maxHeartbeats 4000000
namespace Go.Proofs.Ytmdpejgnkoneoaa.Pu
open Go Go.AM Go.Proofs.Ytmdpejgnkoneoaa.Code

end Go.Proofs.Ytmdpejgnkoneoaa.Pu
set_option maxRecDepth 10000
namespace Go.Proofs.Ytmdpejgnkoneoaa.Mt
open Go Go.AM Go.AM.Par Go.AM.Cg Go.AM.Lx Go.Proofs.Ytmdpejgnkoneoaa.Pu

end Go.Proofs.Ytmdpejgnkoneoaa.Mt
set_option maxRecDepth 100000
set_option maxHeartbeats 4000000
namespace Go.Proofs.Ytmdpejgnkoneoaa.Pu
open Go Go.AM Go.Proofs.Ytmdpejgnkoneoaa.Code

end Go.Proofs.Ytmdpejgnkoneoaa.Pu
