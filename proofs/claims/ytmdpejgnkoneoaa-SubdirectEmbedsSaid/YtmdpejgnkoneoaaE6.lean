/- Part 6 of the proof that the law SubdirectEmbeds holds: words and lemmas it rests on. No condition. -/
import Derived.Test.YtmdpejgnkoneoaaE5
import Derived.Test.YtmdpejgnkoneoaaE3
set_option linter.unusedSimpArgs false
set_option linter.unusedVariables false
set_option linter.unnecessarySimpa false
set_option linter.unusedSectionVars false
namespace Go.Proofs.Ytmdpejgnkoneoaa.Mt
open Go Go.AM Go.AM.Par Go.Proofs.Ytmdpejgnkoneoaa.Pu

def Num (L : List Int) (k : Nat) (M : List (Int × Int)) : Prop := M.length = (nub (L.take k)).length ∧ ∀ v, mget M v = if v ∈ nub (L.take k) then some ((nub (L.take k)).idxOf v : Int) else none
theorem Num.zero (L : List Int) : Num L 0 [] := ⟨by simp [nub], fun v => by simp [nub, mget]⟩
theorem Num.old {L : List Int} {k : Nat} {M : List (Int × Int)} (h : Num L k M) (hk : k < L.length) (hn : ¬ isNew L k) : Num L (k + 1) M := by
  unfold Num; rw [nub_old hk hn]; exact h
theorem Num.new {L : List Int} {k : Nat} {M : List (Int × Int)} (h : Num L k M) (hk : k < L.length) (hn : isNew L k) : Num L (k + 1) (mput M (L.getD k 0) (M.length : Int)) := by
  have hnot := (new_iff hk).2 hn
  unfold Num
  rw [nub_new hk hn]
  refine ⟨by rw [mput_len_new (by rw [h.2, if_neg hnot]), h.1]; simp, fun v => ?_⟩
  rw [mget_mput, h.2, h.1]
  by_cases e : L.getD k 0 = v
  · subst e
    simp only [beq_self_eq_true, if_true]
    rw [if_pos (by simp), List.idxOf_append, if_neg hnot]
    simp
  · have e1 : (L.getD k 0 == v) = false := by simpa using e
    rw [e1]
    simp only [Bool.false_eq_true, if_false, List.mem_append, List.mem_singleton]
    by_cases hv : v ∈ nub (L.take k)
    · rw [if_pos hv, if_pos (.inl hv), List.idxOf_append, if_pos hv]
    · rw [if_neg hv, if_neg]
      rintro (h1 | h1)
      · exact hv h1
      · exact e h1.symm

theorem canonical (L : List Int) (h : L.length ≤ 4096) : P_partition_Canonical L = some (canonI L) := by
  unfold P_partition_Canonical
  rw [if_neg (by simp; omega), mkz_ok (by omega) (by omega)]
  simp only [Option.bind_some]
  obtain ⟨y, hy, h1, h2, h3⟩ := forS_inv (n := L.length) (f := fun k x => P_partition_Canonical_l21 L k x.1 x.2) (x := (List.replicate L.length 0, []))
    (fun k x => x.1.length = L.length ∧ (∀ i, i < k → x.1.getD i 0 = (canonI L).getD i 0) ∧ Num L k x.2) ⟨by simp, fun i hi => by omega, .zero L⟩ (by
      rintro k ⟨X, M⟩ hk ⟨h1, h2, h3⟩
      dsimp only at h1 h2 h3 ⊢
      unfold P_partition_Canonical_l21
      rw [gi_lt 0 hk]
      simp only [Option.bind_some, h3.2]
      have ext : ∀ v : Int, v = (canonI L).getD k 0 → ∀ i, i < k + 1 → (X.set k v).getD i 0 = (canonI L).getD i 0 := fun v hv i hi => by
        rw [getD_set']
        split
        · rename_i e; rw [hv, e.1]
        · rename_i e
          exact h2 i (by
            rcases Nat.lt_or_ge i k with h | h
            · exact h
            · exact absurd ⟨by omega, by omega⟩ e)
      by_cases hn : isNew L k
      · have hnot := (new_iff hk).2 hn
        rw [if_neg hnot]
        simp only [Option.isSome_none, Bool.not_false, if_true]
        rw [si_lt (by omega)]
        refine ⟨_, rfl, by simpa using h1, ext _ ?_, h3.new hk hn⟩
        rw [canonI_new hk hn, h3.1]
      · have hin : L.getD k 0 ∈ nub (L.take k) := Classical.not_not.1 fun h => hn ((new_iff hk).1 h)
        rw [if_pos hin]
        simp only [Option.isSome_some, Bool.not_true, Bool.false_eq_true, if_false, Option.getD_some]
        rw [si_lt (by omega)]
        refine ⟨_, rfl, by simpa using h1, ext _ ?_, h3.old hk hn⟩
        rw [canonI_at hk, ← idx_stay L.length k (by omega) (Nat.le_refl _) hin, List.take_length])
  rw [hy]
  simp only [Option.bind_some, Option.some.injEq]
  exact list_ext 0 (by simp [h1]) fun i hi => h2 i (by omega)

theorem ref_canonical (L : List Int) (h : L.length ≤ 4096) : P_semigroupref03_Canonical L = some (canonI L) := by
  unfold P_semigroupref03_Canonical
  rw [if_neg (by simp; omega), mkz_ok (by omega) (by omega)]
  simp only [Option.bind_some]
  obtain ⟨y, hy, h1, h2, h3, h4⟩ := forS_inv (n := L.length) (f := fun k x => P_semigroupref03_Canonical_l22 L k x.1 x.2.1 x.2.2) (x := (0, [], List.replicate L.length 0))
    (fun k x => x.2.2.length = L.length ∧ (∀ i, i < k → x.2.2.getD i 0 = (canonI L).getD i 0) ∧ Num L k x.2.1 ∧ x.1 = (x.2.1.length : Int)) ⟨by simp, fun i hi => by omega, .zero L, rfl⟩ (by
      rintro k ⟨q, M, X⟩ hk ⟨h1, h2, h3, h4⟩
      dsimp only at h1 h2 h3 h4 ⊢
      unfold P_semigroupref03_Canonical_l22
      rw [gi_lt 0 hk]
      simp only [Option.bind_some, h3.2]
      have ext : ∀ v : Int, v = (canonI L).getD k 0 → ∀ i, i < k + 1 → (X.set k v).getD i 0 = (canonI L).getD i 0 := fun v hv i hi => by
        rw [getD_set']
        split
        · rename_i e; rw [hv, e.1]
        · rename_i e
          exact h2 i (by
            rcases Nat.lt_or_ge i k with h | h
            · exact h
            · exact absurd ⟨by omega, by omega⟩ e)
      have hle := nub_le L k (by omega)
      by_cases hn : isNew L k
      · have hnot := (new_iff hk).2 hn
        rw [if_neg hnot]
        simp only [Option.isSome_none, Bool.not_false, if_true]
        rw [si_lt (by omega)]
        refine ⟨_, rfl, by simpa using h1, ext _ ?_, ?_, ?_⟩
        · rw [canonI_new hk hn, h4, h3.1]
        · rw [h4]; exact h3.new hk hn
        · dsimp only
          rw [mput_len_new (by rw [h3.2, if_neg hnot]), h4, w64_id (by rw [h3.1]; omega) (by rw [h3.1]; omega)]
          simp
      · have hin : L.getD k 0 ∈ nub (L.take k) := Classical.not_not.1 fun h => hn ((new_iff hk).1 h)
        rw [if_pos hin]
        simp only [Option.isSome_some, Bool.not_true, Bool.false_eq_true, if_false, Option.getD_some]
        rw [si_lt (by omega)]
        refine ⟨_, rfl, by simpa using h1, ext _ ?_, h3.old hk hn, h4⟩
        rw [canonI_at hk, ← idx_stay L.length k (by omega) (Nat.le_refl _) hin, List.take_length])
  rw [hy]
  simp only [Option.bind_some, Option.some.injEq]
  exact list_ext 0 (by simp [h1]) fun i hi => h2 i (by omega)

theorem valid (L : List Int) : P_partition_Valid L = some (validP L) := by
  unfold P_partition_Valid
  by_cases h : 4096 < L.length
  · have : validP L = false := by unfold validP; simp; omega
    rw [if_pos (by simp; omega), this]
  · rw [if_neg (by simp; omega)]
    have hv : validP L = rgGo L 0 := by unfold validP; simp; omega
    rw [hv]
    obtain ⟨y, hy, hQ⟩ := forR_inv (n := L.length) (f := fun k x => P_partition_Valid_l4 L k x) (x := 0) (fun k x => ∃ m : Nat, x = m ∧ m ≤ k ∧ rgGo L 0 = rgGo (L.drop k) m)
      (fun y => match y with | .inl _ => rgGo L 0 = true | .inr b => rgGo L 0 = b) ⟨0, rfl, Nat.le_refl _, rfl⟩ (by
        rintro k x hk ⟨m, rfl, hm, hr⟩
        rw [drop_getD hk] at hr
        simp only [rgGo] at hr
        unfold P_partition_Valid_l4
        rw [gi_lt 0 hk]
        simp only [Option.bind_some]
        by_cases h0 : L.getD k 0 < 0
        · rw [if_pos h0] at hr
          exact .inr (.inr ⟨false, by simp only [h0, Option.bind_some, Option.bind_none, decide_true, decide_false, Bool.not_true, Bool.not_false, Bool.true_and, Bool.and_true, Bool.false_eq_true, if_true, if_false, not_true_eq_false, not_false_eq_true, ite_true, ite_false, Bool.not_eq_true, decide_eq_true_eq, decide_eq_false_iff_not, Bool.not_eq_true', Bool.not_eq_false', Option.getD_some, Option.getD_none, Option.isSome_some, Option.isSome_none, Option.isNone_some, Option.isNone_none, eq_self, forall_const, true_implies, false_implies, implies_true], hr⟩)
        · rw [if_neg h0] at hr
          by_cases h1 : (m : Int) < L.getD k 0
          · rw [if_pos h1] at hr
            exact .inr (.inr ⟨false, by simp only [h0, h1, Option.bind_some, Option.bind_none, decide_true, decide_false, Bool.not_true, Bool.not_false, Bool.true_and, Bool.and_true, Bool.false_eq_true, if_true, if_false, not_true_eq_false, not_false_eq_true, ite_true, ite_false, Bool.not_eq_true, decide_eq_true_eq, decide_eq_false_iff_not, Bool.not_eq_true', Bool.not_eq_false', Option.getD_some, Option.getD_none, Option.isSome_some, Option.isSome_none, Option.isNone_some, Option.isNone_none, eq_self, forall_const, true_implies, false_implies, implies_true], hr⟩)
          · rw [if_neg h1] at hr
            left
            by_cases h2 : L.getD k 0 = (m : Int)
            · rw [if_pos h2] at hr
              refine ⟨((m + 1 : Nat) : Int), ?_, m + 1, rfl, by omega, hr⟩
              have : w64 ((m : Int) + 1) = ((m + 1 : Nat) : Int) := by rw [w64_id (by omega) (by omega)]; simp
              have a1 : ¬ (m : Int) < 0 := by omega
              simp only [h2, this, a1, Int.lt_irrefl, Option.bind_some, Option.bind_none, decide_true, decide_false, Bool.not_true, Bool.not_false, Bool.true_and, Bool.and_true, Bool.false_eq_true, if_true, if_false, not_true_eq_false, not_false_eq_true, ite_true, ite_false, Bool.not_eq_true, decide_eq_true_eq, decide_eq_false_iff_not, Bool.not_eq_true', Bool.not_eq_false', Option.getD_some, Option.getD_none, Option.isSome_some, Option.isSome_none, Option.isNone_some, Option.isNone_none, eq_self, forall_const, true_implies, false_implies, implies_true]
            · rw [if_neg h2] at hr
              exact ⟨(m : Int), by simp only [h0, h1, h2, Option.bind_some, Option.bind_none, decide_true, decide_false, Bool.not_true, Bool.not_false, Bool.true_and, Bool.and_true, Bool.false_eq_true, if_true, if_false, not_true_eq_false, not_false_eq_true, ite_true, ite_false, Bool.not_eq_true, decide_eq_true_eq, decide_eq_false_iff_not, Bool.not_eq_true', Bool.not_eq_false', Option.getD_some, Option.getD_none, Option.isSome_some, Option.isSome_none, Option.isNone_some, Option.isNone_none, eq_self, forall_const, true_implies, false_implies, implies_true], m, rfl, by omega, hr⟩)
      (by
        rintro x ⟨m, -, -, hr⟩
        rw [List.drop_length] at hr
        exact hr)
    rw [hy]
    cases y with
    | inl x => simp only [Option.bind_some]; rw [show rgGo L 0 = true from hQ]
    | inr b => simp only [Option.bind_some]; rw [show rgGo L 0 = b from hQ]

theorem same (A B : List Int) : P_semigroupref03_Same A B = some (decide (A = B)) := by
  unfold P_semigroupref03_Same
  by_cases h : A.length = B.length
  · rw [if_neg (by simp [h])]
    rw [look_const (ok := fun k => A.getD k 0 = B.getD k 0) (b := false) fun k hk => by
      unfold P_semigroupref03_Same_l5
      rw [gi_lt 0 hk, gi_lt 0 (by omega)]
      simp only [Option.bind_some]
      by_cases e : A.getD k 0 = B.getD k 0 <;> simp only [e, Option.bind_some, Option.bind_none, decide_true, decide_false, Bool.not_true, Bool.not_false, Bool.true_and, Bool.and_true, Bool.false_eq_true, if_true, if_false, not_true_eq_false, not_false_eq_true, ite_true, ite_false, Bool.not_eq_true, decide_eq_true_eq, decide_eq_false_iff_not, Bool.not_eq_true', Bool.not_eq_false', Option.getD_some, Option.getD_none, Option.isSome_some, Option.isSome_none, Option.isNone_some, Option.isNone_none, eq_self, forall_const, true_implies, false_implies, implies_true]]
    by_cases e : A = B
    · subst e; simp
    · have : ¬ ∀ k, k < A.length → A.getD k 0 = B.getD k 0 := fun h1 => e (list_ext 0 h h1)
      simp only [this, if_false, Option.bind_some, e, decide_false]
  · rw [if_pos (by simp; omega)]
    have : A ≠ B := fun e => h (by rw [e])
    simp [this]

theorem ref_valid (L : List Int) : P_semigroupref03_Valid L = some (validP L) := by
  unfold P_semigroupref03_Valid
  by_cases h : L.length ≤ 4096
  · have h1 : decide ((L.length : Int) ≤ 4096) = true := by simp; omega
    rw [if_pos h1, ref_canonical L h]
    simp only [Option.bind_some, same]
    congr 1
    rw [Bool.eq_iff_iff, validP_iff]
    simp only [decide_eq_true_eq]
    exact ⟨fun e => ⟨h, e.symm⟩, fun e => e.2.symm⟩
  · have h1 : decide ((L.length : Int) ≤ 4096) = false := by simp; omega
    rw [h1]
    have : validP L = false := by unfold validP; simp [h]
    simp [this]

theorem count_step {p : List Int} (hc : canonI p = p) {k : Nat} (hk : k < p.length) : (if p.getD k 0 + 1 > ((nub (p.take k)).length : Int) then p.getD k 0 + 1 else ((nub (p.take k)).length : Int)) = ((nub (p.take (k + 1))).length : Int) := by
  by_cases hn : isNew p k
  · have h1 := canonI_new hk hn
    rw [hc] at h1
    rw [nub_new hk hn, h1, if_pos (by omega)]
    simp
  · have : ∃ i, i < k ∧ p.getD i 0 = p.getD k 0 := by
      refine Classical.byContradiction fun hc => hn fun i hi e => hc ⟨i, hi, e⟩
    obtain ⟨i, hi, e⟩ := this
    have h1 := canonI_lt (L := p) (k := i) (by omega) hi (by omega)
    rw [hc, e] at h1
    rw [nub_old hk hn, if_neg (by omega)]
theorem count (p : List Int) : P_partition_Count p = some (if validP p then ((nub p).length : Int) else 0) := by
  unfold P_partition_Count
  rw [valid]
  simp only [Option.bind_some]
  cases hv : validP p with
  | false => simp
  | true =>
    obtain ⟨hl, hc⟩ := validP_iff.1 hv
    simp only [Bool.not_true, Bool.false_eq_true, if_false, if_true]
    obtain ⟨y, hy, hQ⟩ := forS_inv (n := p.length) (f := fun k x => P_partition_Count_l7 p k x) (x := 0) (fun k x => x = ((nub (p.take k)).length : Int)) (by simp [nub]) (by
      rintro k x hk rfl
      unfold P_partition_Count_l7
      rw [gi_lt 0 hk]
      have hb := (IsP.self hv).bound hk
      simp only [Option.bind_some]
      rw [w64_id (by omega) (by omega), count_step hc hk]
      exact ⟨_, rfl, rfl⟩)
    rw [hy, hQ, List.take_length]; rfl
def Disc (n : Nat) (θ : Nat → Nat → Prop) : Prop := ∀ x y, x < n → y < n → θ x y → x = y
theorem isP_full {n : Nat} {θ : Nat → Nat → Prop} {p : List Int} (hp : IsP n θ p) : (nub p).length = n ↔ Disc n θ := by
  rw [← hp.len, Par.nub_full, hp.len]
  unfold Disc
  constructor
  · intro h x y hx hy e; exact h x y hx hy ((hp.ker x y hx hy).2 e)
  · intro h x y hx hy e; exact h x y hx hy ((hp.ker x y hx hy).1 e)
open Classical in
theorem discrete {n : Nat} {θ : Nat → Nat → Prop} {p : List Int} (hp : IsP n θ p) (hn : n ≤ 4096) : P_subdirect_discrete p = some (decide (Disc n θ)) := by
  unfold P_subdirect_discrete
  rw [count, if_pos (hp.valid hn)]
  simp only [Option.bind_some, Option.some.injEq]
  rw [Bool.eq_iff_iff]
  simp only [decide_eq_true_eq]
  rw [← isP_full hp, ← hp.len]
  omega

theorem both {n : Nat} {θ φ : Nat → Nat → Prop} {p q : List Int} (hp : IsP n θ p) (hq : IsP n φ q) (hn : n ≤ 4096) : P_partition_both p q = some true := by
  unfold P_partition_both
  have h1 : decide ((p.length : Int) = (q.length : Int)) = true := by rw [hp.len, hq.len]; simp
  rw [if_pos h1, valid, valid, hp.valid hn, hq.valid hn]
  rfl
theorem pack {a b : Int} (ha : 0 ≤ a ∧ a < 4096) (hb : 0 ≤ b ∧ b < 4096) : w64 (w64 (a * 4096) + b) = a * 4096 + b := by
  rw [w64_id (x := a * 4096) (by omega) (by omega), w64_id (by omega) (by omega)]
theorem meet_isP {n : Nat} {θ φ : Nat → Nat → Prop} {p q : List Int} (hp : IsP n θ p) (hq : IsP n φ q) (hn : n ≤ 4096) : IsP n (fun x y => θ x y ∧ φ x y) (canonI (tab n fun k => p.getD k 0 * 4096 + q.getD k 0)) := by
  refine IsP.of (by simp) fun x y hx hy => ?_
  rw [tab_getD hx, tab_getD hy, ← hp.ker x y hx hy, ← hq.ker x y hx hy]
  have a := hp.bound hx; have b := hp.bound hy; have c := hq.bound hx; have d := hq.bound hy
  omega
theorem meet {n : Nat} {θ φ : Nat → Nat → Prop} {p q : List Int} (hp : IsP n θ p) (hq : IsP n φ q) (hn : n ≤ 4096) : ∃ r, P_partition_Meet p q = some r ∧ IsP n (fun x y => θ x y ∧ φ x y) r := by
  refine ⟨_, ?_, meet_isP hp hq hn⟩
  unfold P_partition_Meet
  rw [both hp hq hn]
  simp only [Option.bind_some, Bool.not_true, Bool.false_eq_true, if_false]
  rw [mkz_ok (by have := hp.len; omega) (by omega)]
  simp only [Option.bind_some]
  rw [fill_loop (v := fun k => p.getD k 0 * 4096 + q.getD k 0) 0 (by simp) fun k X hk hX => by
    have hk' : k < n := by rw [← hp.len]; exact hk
    unfold P_partition_Meet_l17
    rw [gi_lt 0 hk, gi_lt 0 (by rw [hq.len]; exact hk')]
    have a := hp.bound hk'; have b := hq.bound hk'
    simp only [Option.bind_some]
    rw [pack ⟨by omega, by omega⟩ ⟨by omega, by omega⟩, si_lt (by omega)]
    rfl]
  simp only [Option.bind_some]
  rw [hp.len, canonical _ (by simpa using hn)]
  rfl
theorem rep_isP (n : Nat) : IsP n (fun _ _ => True) (List.replicate n 0) := by
  have h : IsP n (fun _ _ => True) (canonI (List.replicate n 0)) := IsP.of (by simp) fun x y hx hy => by simp [List.getD_eq_getElem?_getD, hx, hy]
  have e : canonI (List.replicate n 0) = List.replicate n 0 := by
    refine list_ext 0 (by simp) fun i hi => ?_
    simp only [canonI_length, List.length_replicate] at hi
    have h0 := (h.ker i 0 hi (by omega)).2 trivial
    have h1 := h.bound (k := 0) (by omega)
    rw [h0, show (List.replicate n (0 : Int)).getD i 0 = 0 by simp [List.getD_eq_getElem?_getD, hi]]
    omega
  rwa [e] at h
theorem trivial' {n : Nat} (hn : n ≤ 4096) : P_partition_Trivial (n : Int) = some (List.replicate n 0) := by
  unfold P_partition_Trivial
  have h1 : decide ((n : Int) < 0) = false := by simp
  have h2 : decide ((4096 : Int) < n) = false := by simp; omega
  rw [h1, h2, mkz_ok (by omega) (by omega)]
  rfl
def iota (n : Nat) : List Int := tab n fun k => (k : Int)
theorem iota_isP (n : Nat) : IsP n (fun x y => x = y) (iota n) := by
  have h : IsP n (fun x y => x = y) (canonI (iota n)) := IsP.of (by simp [iota]) fun x y hx hy => by unfold iota; rw [tab_getD hx, tab_getD hy]; omega
  have e : canonI (iota n) = iota n := by
    have hnew : ∀ k, k < n → isNew (iota n) k := fun k hk i hi => by unfold iota; rw [tab_getD hk, tab_getD (by omega)]; omega
    have hl : ∀ k, k ≤ n → (nub ((iota n).take k)).length = k := by
      intro k
      induction k with
      | zero => intro _; simp [nub]
      | succ k ih => intro hk; rw [nub_new (by simp [iota]; omega) (hnew k (by omega))]; simp [ih (by omega)]
    refine list_ext 0 (by simp) fun i hi => ?_
    simp only [canonI_length] at hi
    have hi' : i < n := by simpa [iota] using hi
    rw [canonI_new hi (hnew i hi'), hl i (by omega)]
    unfold iota; rw [tab_getD hi']
  rwa [e] at h
theorem discrete' {n : Nat} (hn : n ≤ 4096) : P_partition_Discrete (n : Int) = some (iota n) := by
  unfold P_partition_Discrete
  have h1 : decide ((n : Int) < 0) = false := by simp
  have h2 : decide ((4096 : Int) < n) = false := by simp; omega
  rw [h1, h2, mkz_ok (by omega) (by omega)]
  simp only [Bool.false_eq_true, if_false, Option.bind_some, List.length_replicate]
  rw [fill_loop (v := fun k => (k : Int)) 0 (by simp) fun k X hk hX => by
    unfold P_partition_Discrete_l17
    rw [si_lt (by omega)]; rfl]
  rfl
end Go.Proofs.Ytmdpejgnkoneoaa.Mt
set_option maxRecDepth 100000
set_option maxHeartbeats 4000000
namespace Go.Proofs.Ytmdpejgnkoneoaa.Pu
open Go Go.AM Go.Proofs.Ytmdpejgnkoneoaa.Code

noncomputable def P_semigroupref14_Shape_l26 (t : List (List Int)) (x15 : List Int) (k28 : Nat) : Option (Lp (Unit) (Int)) :=
 Option.bind (gi x15 (k28 : Int)) fun x35 =>
 Option.bind (
  if decide (x35 < 0) then
   some true
  else
   some (decide ((t.length : Int) ≤ x35))) fun z42 =>
 if z42 then
  some (.ex 4)
 else
  some (.go ())
noncomputable def P_semigroupref14_Shape_l6 (t : List (List Int)) (k8 : Nat) : Option (Lp (Unit) (Int)) :=
 Option.bind (gi t (k8 : Int)) fun x15 =>
 if !decide ((x15.length : Int) = (t.length : Int)) then
  some (.ex 4)
 else
  Option.bind (forR x15.length (fun k x => P_semigroupref14_Shape_l26 t x15 k) ()) fun z32 =>
  match z32 with
  | .inl x48 =>
   some (.go ())
  | .inr b => some (.ex b)
noncomputable def P_semigroupref14_Shape (t : List (List Int)) : Option (Int) :=
 if decide (400 < (t.length : Int)) then
  some 3
 else
  if decide ((t.length : Int) = 0) then
   some 4
  else
   Option.bind (forR t.length (fun k x => P_semigroupref14_Shape_l6 t k) ()) fun z12 =>
   match z12 with
   | .inl x50 =>
    some 0
   | .inr b => some b
theorem R_semigroupref14_Shape {G : List Frag} {W H : AH} {v_0 : AV} {t : List (List Int)} (hst : St G W H) (h_0 : Rp.rv W v_0 t) {r : Int} (hp : P_semigroupref14_Shape t = some r) :
  wpc E0 N_semigroupref14_Shape [v_0] H fun rv H' => ∃ W', Wle W W' ∧ St G W' H' ∧ rv = .int .i64 r := by
 refine enterN (F := f_semigroupref14_Shape) rfl (Nat.le_of_ble_eq_true rfl) fun s hl hg => ?_;replace hl : s.length = 40 := hl;have g0 : gt s 0 = v_0 := hg 0 (Nat.le_of_ble_eq_true rfl);clear hg;unfold P_semigroupref14_Shape at hp;show wp E0 c_semigroupref14_Shape s H _;unfold c_semigroupref14_Shape;refine AM.wp_seq hp0 (AM.wp_reg hp0 ?_);refine wpo_seg hp0 1 (fun s H' => s.length = 40 ∧ gt s 0 = v_0 ∧ H = H') (by simp only [↓runs, isCall, ↓reduceIte, ↓gd_true, ↓gd_false, evs, AV.cells, Nat.reduceEqDiff, Nat.reduceLT, reduceCtorEq, Nat.reduceAdd, sy, g0, hl]) ?_;rintro s _ ⟨hl, g0, rfl⟩;refine wpo_nil (then_n ?_);refine AM.wp_seq hp0 (AM.wp_seq hp0 (AM.wp_reg hp0 ?_));have f1 := fz_ln h_0;refine wpo_seg hp0 3 (fun s H' => s.length = 40 ∧ gt s 0 = v_0 ∧ gt s 9 = .bool (decide (400 < (t.length : Int))) ∧ H = H') (by simp only [↓runs, isCall, ↓reduceIte, ↓gd_true, ↓gd_false, evs, AV.cells, Nat.reduceEqDiff, Nat.reduceLT, reduceCtorEq, Nat.reduceAdd, sy, f1, g0, hl]) ?_;rintro s _ ⟨hl, g0, g9, rfl⟩;refine wpo_nil (then_n ?_);rcases Bool.eq_false_or_eq_true (decide (400 < (t.length : Int))) with c2 | c2
 ·replace hp := ifT c2 hp;refine AM.wp_condT (by simp only [ev_t, ev_c, g9, c2]) ?_;refine AM.wp_seq hp0 (AM.wp_reg hp0 ?_);refine wpo_seg hp0 1 (fun s H' => s.length = 40 ∧ gt s 2 = .int .i64 3 ∧ H = H') (by simp only [↓runs, isCall, ↓reduceIte, ↓gd_true, ↓gd_false, evs, AV.cells, Nat.reduceEqDiff, Nat.reduceLT, reduceCtorEq, Nat.reduceAdd, sy, g0, g9, hl]) ?_;rintro s _ ⟨hl, g2, rfl⟩;refine wpo_nil (then_n ?_);refine AM.wp_ret ?_;refine then_r ?_;obtain rfl := Option.some.inj hp;refine body_ret (vs := [.int .i64 3]) (by simp only [rvs, f_semigroupref14_Shape, Option.map_some, g2]) ?_;exact ⟨W, .refl _, hst, rfl⟩
 ·replace hp := ifF c2 hp;refine AM.wp_condF (by simp only [ev_t, ev_c, g9, c2]) ?_;refine AM.wp_skip ?_;refine then_n ?_;refine AM.wp_seq hp0 (AM.wp_seq hp0 (AM.wp_reg hp0 ?_));have f3 := fz_ln h_0;refine wpo_seg hp0 3 (fun s H' => s.length = 40 ∧ gt s 0 = v_0 ∧ gt s 12 = .bool (decide ((t.length : Int) = 0)) ∧ H = H') (by simp only [↓runs, isCall, ↓reduceIte, ↓gd_true, ↓gd_false, evs, AV.cells, Nat.reduceEqDiff, Nat.reduceLT, reduceCtorEq, Nat.reduceAdd, sy, f3, g0, g9, hl]) ?_;rintro s _ ⟨hl, g0, g12, rfl⟩;refine wpo_nil (then_n ?_);rcases Bool.eq_false_or_eq_true (decide ((t.length : Int) = 0)) with c4 | c4
  ·replace hp := ifT c4 hp;refine AM.wp_condT (by simp only [ev_t, ev_c, g12, c4]) ?_;refine AM.wp_seq hp0 (AM.wp_reg hp0 ?_);refine wpo_seg hp0 1 (fun s H' => s.length = 40 ∧ gt s 2 = .int .i64 4 ∧ H = H') (by simp only [↓runs, isCall, ↓reduceIte, ↓gd_true, ↓gd_false, evs, AV.cells, Nat.reduceEqDiff, Nat.reduceLT, reduceCtorEq, Nat.reduceAdd, sy, g0, g12, hl]) ?_;rintro s _ ⟨hl, g2, rfl⟩;refine wpo_nil (then_n ?_);refine AM.wp_ret ?_;refine then_r ?_;obtain rfl := Option.some.inj hp;refine body_ret (vs := [.int .i64 4]) (by simp only [rvs, f_semigroupref14_Shape, Option.map_some, g2]) ?_;exact ⟨W, .refl _, hst, rfl⟩
  ·replace hp := ifF c4 hp;refine AM.wp_condF (by simp only [ev_t, ev_c, g12, c4]) ?_;refine AM.wp_skip ?_;refine then_n ?_;refine AM.wp_seq hp0 (AM.wp_seq hp0 (AM.wp_reg hp0 ?_));have f5 := fz_ln h_0;refine wpo_seg hp0 3 (fun s H' => s.length = 40 ∧ gt s 0 = v_0 ∧ gt s 13 = v_0 ∧ gt s 14 = .int .i64 (t.length : Int) ∧ gt s 15 = .int .i64 0 ∧ H = H') (by simp only [↓runs, isCall, ↓reduceIte, ↓gd_true, ↓gd_false, evs, AV.cells, Nat.reduceEqDiff, Nat.reduceLT, reduceCtorEq, Nat.reduceAdd, sy, f5, g0, g12, hl]) ?_;rintro s _ ⟨hl, g0, g13, g14, g15, rfl⟩;refine wpo_nil (then_n ?_);obtain ⟨z12, e13, hp⟩ := bn hp;refine range_ref hp0 40 t.length (fun k x => P_semigroupref14_Shape_l6 t k) (fun _ x s H' => s.length = 40 ∧ gt s 0 = v_0 ∧ gt s 13 = v_0 ∧ H = H') (fun _ x s H' => s.length = 40 ∧ H = H') e13 (fz_big h_0) rfl ?_ ?_ hl g15 g14 ?_ ?_
   ·intro k x s H d v hd h; rcases hd with rfl | rfl | rfl <;> simpa only [gt_other, pt_length, Nat.reduceEqDiff, not_false_eq_true] using h
   ·exact ⟨hl, g0, g13, rfl⟩
   ·intro k8 x7 y9 s H hk hI hl g15 g14 hy10 hx11;change P_semigroupref14_Shape_l6 t k8 = some y9 at hy10;unfold P_semigroupref14_Shape_l6 at hy10;obtain ⟨hl, g0, g13, rfl⟩ := hI;refine AM.wp_seq hp0 (AM.wp_reg hp0 ?_);obtain ⟨x15, e16, hy10⟩ := bn hy10;obtain ⟨p17, y18, f19, f20, h21⟩ := fz_at (k := .i64) hst h_0 e16 rfl;refine wpo_seg hp0 3 (fun s H' => s.length = 40 ∧ gt s 0 = v_0 ∧ gt s 4 = y18 ∧ gt s 13 = v_0 ∧ gt s 14 = .int .i64 (t.length : Int) ∧ gt s 15 = .int .i64 (k8 : Int) ∧ H = H') (by simp only [↓runs, isCall, ↓reduceIte, ↓gd_true, ↓gd_false, evs, AV.cells, Nat.reduceEqDiff, Nat.reduceLT, reduceCtorEq, Nat.reduceAdd, sy, f19, f20, g0, g13, g14, g15, hl]) ?_;rintro s _ ⟨hl, g0, g4, g13, g14, g15, rfl⟩;refine wpo_nil (then_n ?_);refine AM.wp_seq hp0 (AM.wp_seq hp0 (AM.wp_reg hp0 ?_));have f22 := fz_ln h21;have f23 := fz_ln h_0;refine wpo_seg hp0 5 (fun s H' => s.length = 40 ∧ gt s 0 = v_0 ∧ gt s 4 = y18 ∧ gt s 13 = v_0 ∧ gt s 14 = .int .i64 (t.length : Int) ∧ gt s 15 = .int .i64 (k8 : Int) ∧ gt s 23 = .bool (!decide ((x15.length : Int) = (t.length : Int))) ∧ H = H') (by simp only [↓runs, isCall, ↓reduceIte, ↓gd_true, ↓gd_false, evs, AV.cells, Nat.reduceEqDiff, Nat.reduceLT, reduceCtorEq, Nat.reduceAdd, sy, f22, f23, g0, g4, g13, g14, g15, hl]) ?_;rintro s _ ⟨hl, g0, g4, g13, g14, g15, g23, rfl⟩;refine wpo_nil (then_n ?_);rcases Bool.eq_false_or_eq_true (!decide ((x15.length : Int) = (t.length : Int))) with c24 | c24
    ·replace hy10 := ifT c24 hy10;refine AM.wp_condT (by simp only [ev_t, ev_c, g23, c24]) ?_;refine AM.wp_seq hp0 (AM.wp_reg hp0 ?_);refine wpo_seg hp0 1 (fun s H' => s.length = 40 ∧ gt s 2 = .int .i64 4 ∧ H = H') (by simp only [↓runs, isCall, ↓reduceIte, ↓gd_true, ↓gd_false, evs, AV.cells, Nat.reduceEqDiff, Nat.reduceLT, reduceCtorEq, Nat.reduceAdd, sy, g0, g4, g13, g14, g15, g23, hl]) ?_;rintro s _ ⟨hl, g2, rfl⟩;refine wpo_nil (then_n ?_);refine AM.wp_ret ?_;refine then_r ?_;refine rnd_r ?_;refine then_r ?_;obtain rfl := Option.some.inj hy10;have hx := hx11 _ rfl;subst hx;dsimp only at hp;obtain rfl := Option.some.inj hp;refine body_ret (vs := [.int .i64 4]) (by simp only [rvs, f_semigroupref14_Shape, Option.map_some, g2]) ?_;exact ⟨W, .refl _, hst, rfl⟩
    ·replace hy10 := ifF c24 hy10;refine AM.wp_condF (by simp only [ev_t, ev_c, g23, c24]) ?_;refine AM.wp_skip ?_;refine then_n ?_;refine AM.wp_seq hp0 (AM.wp_reg hp0 ?_);have f25 := fz_ln h21;refine wpo_seg hp0 3 (fun s H' => s.length = 40 ∧ gt s 0 = v_0 ∧ gt s 13 = v_0 ∧ gt s 14 = .int .i64 (t.length : Int) ∧ gt s 15 = .int .i64 (k8 : Int) ∧ gt s 24 = y18 ∧ gt s 25 = .int .i64 (x15.length : Int) ∧ gt s 26 = .int .i64 0 ∧ H = H') (by simp only [↓runs, isCall, ↓reduceIte, ↓gd_true, ↓gd_false, evs, AV.cells, Nat.reduceEqDiff, Nat.reduceLT, reduceCtorEq, Nat.reduceAdd, sy, f25, g0, g4, g13, g14, g15, g23, hl]) ?_;rintro s _ ⟨hl, g0, g13, g14, g15, g24, g25, g26, rfl⟩;refine wpo_nil (then_n ?_);obtain ⟨z32, e33, hy10⟩ := bn hy10;refine range_ref hp0 40 x15.length (fun k x => P_semigroupref14_Shape_l26 t x15 k) (fun _ x s H' => s.length = 40 ∧ gt s 0 = v_0 ∧ gt s 13 = v_0 ∧ gt s 14 = .int .i64 (t.length : Int) ∧ gt s 15 = .int .i64 (k8 : Int) ∧ gt s 24 = y18 ∧ H = H') (fun _ x s H' => s.length = 40 ∧ gt s 0 = v_0 ∧ gt s 13 = v_0 ∧ gt s 14 = .int .i64 (t.length : Int) ∧ gt s 15 = .int .i64 (k8 : Int) ∧ H = H') e33 (fz_big h21) rfl ?_ ?_ hl g26 g25 ?_ ?_
     ·intro k x s H d v hd h; rcases hd with rfl | rfl | rfl <;> simpa only [gt_other, pt_length, Nat.reduceEqDiff, not_false_eq_true] using h
     ·exact ⟨hl, g0, g13, g14, g15, g24, rfl⟩
     ·intro k28 x27 y29 s H hk hI hl g26 g25 hy30 hx31;change P_semigroupref14_Shape_l26 t x15 k28 = some y29 at hy30;unfold P_semigroupref14_Shape_l26 at hy30;obtain ⟨hl, g0, g13, g14, g15, g24, rfl⟩ := hI;refine AM.wp_seq hp0 (AM.wp_reg hp0 ?_);obtain ⟨x35, e36, hy30⟩ := bn hy30;obtain ⟨p37, _, f39, f40, rfl⟩ := fz_at (k := .i64) hst h21 e36 rfl;refine wpo_seg hp0 3 (fun s H' => s.length = 40 ∧ gt s 0 = v_0 ∧ gt s 6 = .int .i64 x35 ∧ gt s 13 = v_0 ∧ gt s 14 = .int .i64 (t.length : Int) ∧ gt s 15 = .int .i64 (k8 : Int) ∧ gt s 24 = y18 ∧ gt s 25 = .int .i64 (x15.length : Int) ∧ gt s 26 = .int .i64 (k28 : Int) ∧ H = H') (by simp only [↓runs, isCall, ↓reduceIte, ↓gd_true, ↓gd_false, evs, AV.cells, Nat.reduceEqDiff, Nat.reduceLT, reduceCtorEq, Nat.reduceAdd, sy, f39, f40, g0, g13, g14, g15, g24, g25, g26, hl]) ?_;rintro s _ ⟨hl, g0, g6, g13, g14, g15, g24, g25, g26, rfl⟩;refine wpo_nil (then_n ?_);refine AM.wp_seq hp0 ?_;obtain ⟨z42, hj43, hy30⟩ := bn hy30;refine AM.wp_regK hp0 (fun s H' => s.length = 40 ∧ gt s 37 = .bool z42 ∧ gt s 0 = v_0 ∧ gt s 13 = v_0 ∧ gt s 14 = .int .i64 (t.length : Int) ∧ gt s 15 = .int .i64 (k8 : Int) ∧ gt s 24 = y18 ∧ gt s 25 = .int .i64 (x15.length : Int) ∧ gt s 26 = .int .i64 (k28 : Int) ∧ H = H') ?_ ?_
      ·rcases Bool.eq_false_or_eq_true (decide (x35 < 0)) with c44 | c44
       ·replace hj43 := ifT c44 hj43;refine wpo_seg hp0 8 (fun s H' => s.length = 40 ∧ gt s 0 = v_0 ∧ gt s 13 = v_0 ∧ gt s 14 = .int .i64 (t.length : Int) ∧ gt s 15 = .int .i64 (k8 : Int) ∧ gt s 24 = y18 ∧ gt s 25 = .int .i64 (x15.length : Int) ∧ gt s 26 = .int .i64 (k28 : Int) ∧ gt s 37 = .bool true ∧ H = H') (by simp only [↓runs, isCall, ↓reduceIte, ↓gd_true, ↓gd_false, evs, AV.cells, Nat.reduceEqDiff, Nat.reduceLT, reduceCtorEq, Nat.reduceAdd, sy, c44, g0, g6, g13, g14, g15, g24, g25, g26, hl]) ?_;rintro s _ ⟨hl, g0, g13, g14, g15, g24, g25, g26, g37, rfl⟩;refine wpo_nil ?_;obtain rfl := Option.some.inj hj43;exact ⟨hl, g37, g0, g13, g14, g15, g24, g25, g26, rfl⟩
       ·replace hj43 := ifF c44 hj43;have f45 := fz_ln h_0;refine wpo_seg hp0 8 (fun s H' => s.length = 40 ∧ gt s 0 = v_0 ∧ gt s 13 = v_0 ∧ gt s 14 = .int .i64 (t.length : Int) ∧ gt s 15 = .int .i64 (k8 : Int) ∧ gt s 24 = y18 ∧ gt s 25 = .int .i64 (x15.length : Int) ∧ gt s 26 = .int .i64 (k28 : Int) ∧ gt s 37 = .bool (decide ((t.length : Int) ≤ x35)) ∧ H = H') (by simp only [↓runs, isCall, ↓reduceIte, ↓gd_true, ↓gd_false, evs, AV.cells, Nat.reduceEqDiff, Nat.reduceLT, reduceCtorEq, Nat.reduceAdd, sy, c44, f45, g0, g6, g13, g14, g15, g24, g25, g26, hl]) ?_;rintro s _ ⟨hl, g0, g13, g14, g15, g24, g25, g26, g37, rfl⟩;refine wpo_nil ?_;obtain rfl := Option.some.inj hj43;exact ⟨hl, g37, g0, g13, g14, g15, g24, g25, g26, rfl⟩
      ·rintro s _ ⟨hl, g37, g0, g13, g14, g15, g24, g25, g26, rfl⟩;refine then_n ?_;rcases Bool.eq_false_or_eq_true (z42) with c47 | c47
       ·replace hy30 := ifT c47 hy30;refine AM.wp_condT (by simp only [ev_t, ev_c, g37, c47]) ?_;refine AM.wp_seq hp0 (AM.wp_reg hp0 ?_);refine wpo_seg hp0 1 (fun s H' => s.length = 40 ∧ gt s 2 = .int .i64 4 ∧ H = H') (by simp only [↓runs, isCall, ↓reduceIte, ↓gd_true, ↓gd_false, evs, AV.cells, Nat.reduceEqDiff, Nat.reduceLT, reduceCtorEq, Nat.reduceAdd, sy, g0, g13, g14, g15, g24, g25, g26, g37, hl]) ?_;rintro s _ ⟨hl, g2, rfl⟩;refine wpo_nil (then_n ?_);refine AM.wp_ret ?_;refine rnd_r ?_;refine rnd_r ?_;refine then_r ?_;obtain rfl := Option.some.inj hy30;have hx := hx31 _ rfl;subst hx;dsimp only at hy10;obtain rfl := Option.some.inj hy10;have hx := hx11 _ rfl;subst hx;dsimp only at hp;obtain rfl := Option.some.inj hp;refine body_ret (vs := [.int .i64 4]) (by simp only [rvs, f_semigroupref14_Shape, Option.map_some, g2]) ?_;exact ⟨W, .refl _, hst, rfl⟩
       ·replace hy30 := ifF c47 hy30;refine AM.wp_condF (by simp only [ev_t, ev_c, g37, c47]) ?_;refine AM.wp_skip ?_;refine rnd_n ?_;obtain rfl := Option.some.inj hy30;exact ⟨_, rfl, hl, g26, g25, ⟨hl, g0, g13, g14, g15, g24, rfl⟩⟩
     ·rintro x48 s Hn hz hI;replace hI : (fun s H' => s.length = 40 ∧ gt s 0 = v_0 ∧ gt s 13 = v_0 ∧ gt s 14 = .int .i64 (t.length : Int) ∧ gt s 15 = .int .i64 (k8 : Int) ∧ H = H') s Hn := by
       rcases hI with ⟨hI, -⟩ | ⟨_, hI⟩
       ·obtain ⟨hl, g0, g13, g14, g15, g24, e2⟩ := hI;exact ⟨hl, g0, g13, g14, g15, e2⟩
       ·exact hI
      subst hz;dsimp only at hy10 hI;obtain ⟨hl, g0, g13, g14, g15, rfl⟩ := hI;refine rnd_n ?_;obtain rfl := Option.some.inj hy10;exact ⟨_, rfl, hl, g15, g14, ⟨hl, g0, g13, rfl⟩⟩
   ·rintro x50 s Hn hz hI;replace hI : (fun s H' => s.length = 40 ∧ H = H') s Hn := by
     rcases hI with ⟨hI, -⟩ | ⟨_, hI⟩
     ·obtain ⟨hl, g0, g13, e2⟩ := hI;exact ⟨hl, e2⟩
     ·exact hI
    subst hz;dsimp only at hp hI;obtain ⟨hl, rfl⟩ := hI;refine then_n ?_;refine AM.wp_seq hp0 (AM.wp_reg hp0 ?_);refine wpo_seg hp0 1 (fun s H' => s.length = 40 ∧ gt s 2 = .int .i64 0 ∧ H = H') (by simp only [↓runs, isCall, ↓reduceIte, ↓gd_true, ↓gd_false, evs, AV.cells, Nat.reduceEqDiff, Nat.reduceLT, reduceCtorEq, Nat.reduceAdd, sy, hl]) ?_;rintro s _ ⟨hl, g2, rfl⟩;refine wpo_nil (then_n ?_);refine AM.wp_ret ?_;obtain rfl := Option.some.inj hp;refine body_ret (vs := [.int .i64 0]) (by simp only [rvs, f_semigroupref14_Shape, Option.map_some, g2]) ?_;exact ⟨W, .refl _, hst, rfl⟩

end Go.Proofs.Ytmdpejgnkoneoaa.Pu
set_option maxRecDepth 100000
set_option maxHeartbeats 4000000
namespace Go.Proofs.Ytmdpejgnkoneoaa.Pu
open Go Go.AM Go.Proofs.Ytmdpejgnkoneoaa.Code

noncomputable def P_semigroupref14_Associative_l27 (k9 : Nat) (k19 : Nat) (t : List (List Int)) (k29 : Nat) : Option (Lp (Unit) (Int × Int × Int × Int)) :=
 Option.bind (gi t (k9 : Int)) fun x36 =>
 Option.bind (gi x36 (k19 : Int)) fun x43 =>
 Option.bind (gi t x43) fun x50 =>
 Option.bind (gi x50 (k29 : Int)) fun x57 =>
 Option.bind (gi t (k19 : Int)) fun x64 =>
 Option.bind (gi x64 (k29 : Int)) fun x71 =>
 Option.bind (gi x36 x71) fun x78 =>
 if !decide (x57 = x78) then
  some (.ex ((k9 : Int), (k19 : Int), (k29 : Int), 5))
 else
  some (.go ())
noncomputable def P_semigroupref14_Associative_l17 (k9 : Nat) (t : List (List Int)) (k19 : Nat) : Option (Lp (Unit) (Int × Int × Int × Int)) :=
 Option.bind (forR t.length (fun k x => P_semigroupref14_Associative_l27 k9 k19 t k) ()) fun z33 =>
 match z33 with
 | .inl x86 =>
  some (.go ())
 | .inr b => some (.ex b)
noncomputable def P_semigroupref14_Associative_l7 (t : List (List Int)) (k9 : Nat) : Option (Lp (Unit) (Int × Int × Int × Int)) :=
 Option.bind (forR t.length (fun k x => P_semigroupref14_Associative_l17 k9 t k) ()) fun z23 =>
 match z23 with
 | .inl x88 =>
  some (.go ())
 | .inr b => some (.ex b)
noncomputable def P_semigroupref14_Associative (t : List (List Int)) : Option (Int × Int × Int × Int) :=
 Option.bind (P_semigroupref14_Shape t) fun r1 =>
 if !decide (r1 = 0) then
  some (0, 0, 0, r1)
 else
  Option.bind (forR t.length (fun k x => P_semigroupref14_Associative_l7 t k) ()) fun z13 =>
  match z13 with
  | .inl x90 =>
   some (0, 0, 0, 0)
  | .inr b => some b
theorem R_semigroupref14_Associative {G : List Frag} {W H : AH} {v_0 : AV} {t : List (List Int)} (hst : St G W H) (h_0 : Rp.rv W v_0 t) {r : Int × Int × Int × Int} (hp : P_semigroupref14_Associative t = some r) :
  wpc E0 N_semigroupref14_Associative [v_0] H fun rv H' => ∃ W', Wle W W' ∧ St G W' H' ∧ rv = .tup [.int .i64 r.1, .int .i64 r.2.1, .int .i64 r.2.2.1, .int .i64 r.2.2.2] := by
 refine enterN (F := f_semigroupref14_Associative) rfl (Nat.le_of_ble_eq_true rfl) fun s hl hg => ?_;replace hl : s.length = 63 := hl;have g0 : gt s 0 = v_0 := hg 0 (Nat.le_of_ble_eq_true rfl);clear hg;unfold P_semigroupref14_Associative at hp;show wp E0 c_semigroupref14_Associative s H _;unfold c_semigroupref14_Associative;refine AM.wp_seq hp0 (AM.wp_reg hp0 ?_);refine wpo_seg hp0 4 (fun s H' => s.length = 63 ∧ gt s 0 = v_0 ∧ H = H') (by simp only [↓runs, isCall, ↓reduceIte, ↓gd_true, ↓gd_false, evs, AV.cells, Nat.reduceEqDiff, Nat.reduceLT, reduceCtorEq, Nat.reduceAdd, sy, g0, hl]) ?_;rintro s _ ⟨hl, g0, rfl⟩;refine wpo_nil (then_n ?_);refine AM.wp_seq hp0 (AM.wp_seq hp0 (AM.wp_reg hp0 ?_));refine wpo_seg hp0 1 (fun s H' => s.length = 63 ∧ gt s 0 = v_0 ∧ gt s 10 = v_0 ∧ H = H') (by simp only [↓runs, isCall, ↓reduceIte, ↓gd_true, ↓gd_false, evs, AV.cells, Nat.reduceEqDiff, Nat.reduceLT, reduceCtorEq, Nat.reduceAdd, sy, g0, hl]) ?_;rintro s _ ⟨hl, g0, g10, rfl⟩;obtain ⟨r1, e2, hp⟩ := bn hp;refine wpo_callK hp0 rfl (ys := [v_0]) (by simp only [evs, List.map_cons, List.map_nil, ev_t, ev_c, g10]) (R_semigroupref14_Shape hst h_0 e2) ?_;rintro rv3 H ⟨W, w4, hst, rfl⟩;replace h_0 := Rp.mono w4 h_0;refine wpo_seg hp0 1 (fun s H' => s.length = 63 ∧ gt s 0 = v_0 ∧ gt s 6 = .int .i64 r1 ∧ H = H') (by simp only [↓runs, isCall, ↓reduceIte, ↓gd_true, ↓gd_false, evs, AV.cells, Nat.reduceEqDiff, Nat.reduceLT, reduceCtorEq, Nat.reduceAdd, sy, gt_other, g0, g10, hl]) ?_;rintro s _ ⟨hl, g0, g6, rfl⟩;refine wpo_nil (then_n ?_);refine AM.wp_seq hp0 (AM.wp_reg hp0 ?_);refine wpo_seg hp0 2 (fun s H' => s.length = 63 ∧ gt s 0 = v_0 ∧ gt s 6 = .int .i64 r1 ∧ gt s 13 = .bool (!decide (r1 = 0)) ∧ H = H') (by simp only [↓runs, isCall, ↓reduceIte, ↓gd_true, ↓gd_false, evs, AV.cells, Nat.reduceEqDiff, Nat.reduceLT, reduceCtorEq, Nat.reduceAdd, sy, g0, g6, hl]) ?_;rintro s _ ⟨hl, g0, g6, g13, rfl⟩;refine wpo_nil (then_n ?_);rcases Bool.eq_false_or_eq_true (!decide (r1 = 0)) with c5 | c5
 ·replace hp := ifT c5 hp;refine AM.wp_condT (by simp only [ev_t, ev_c, g13, c5]) ?_;refine AM.wp_seq hp0 (AM.wp_reg hp0 ?_);refine wpo_seg hp0 5 (fun s H' => s.length = 63 ∧ gt s 2 = .int .i64 0 ∧ gt s 3 = .int .i64 0 ∧ gt s 4 = .int .i64 0 ∧ gt s 5 = .int .i64 r1 ∧ H = H') (by simp only [↓runs, isCall, ↓reduceIte, ↓gd_true, ↓gd_false, evs, AV.cells, Nat.reduceEqDiff, Nat.reduceLT, reduceCtorEq, Nat.reduceAdd, sy, g0, g6, g13, hl]) ?_;rintro s _ ⟨hl, g2, g3, g4, g5, rfl⟩;refine wpo_nil (then_n ?_);refine AM.wp_ret ?_;refine then_r ?_;obtain rfl := Option.some.inj hp;refine body_ret (vs := [.int .i64 0, .int .i64 0, .int .i64 0, .int .i64 r1]) (by simp only [rvs, f_semigroupref14_Associative, Option.map_some, g2, g3, g4, g5]) ?_;exact ⟨W, w4, hst, rfl⟩
 ·replace hp := ifF c5 hp;refine AM.wp_condF (by simp only [ev_t, ev_c, g13, c5]) ?_;refine AM.wp_skip ?_;refine then_n ?_;refine AM.wp_seq hp0 (AM.wp_seq hp0 (AM.wp_reg hp0 ?_));have f6 := fz_ln h_0;refine wpo_seg hp0 3 (fun s H' => s.length = 63 ∧ gt s 0 = v_0 ∧ gt s 16 = .int .i64 (t.length : Int) ∧ gt s 17 = .int .i64 0 ∧ H = H') (by simp only [↓runs, isCall, ↓reduceIte, ↓gd_true, ↓gd_false, evs, AV.cells, Nat.reduceEqDiff, Nat.reduceLT, reduceCtorEq, Nat.reduceAdd, sy, f6, g0, g6, g13, hl]) ?_;rintro s _ ⟨hl, g0, g16, g17, rfl⟩;refine wpo_nil (then_n ?_);obtain ⟨z13, e14, hp⟩ := bn hp;refine range_ref hp0 63 t.length (fun k x => P_semigroupref14_Associative_l7 t k) (fun _ x s H' => s.length = 63 ∧ gt s 0 = v_0 ∧ H = H') (fun _ x s H' => s.length = 63 ∧ H = H') e14 (fz_big h_0) rfl ?_ ?_ hl g17 g16 ?_ ?_
  ·intro k x s H d v hd h; rcases hd with rfl | rfl | rfl <;> simpa only [gt_other, pt_length, Nat.reduceEqDiff, not_false_eq_true] using h
  ·exact ⟨hl, g0, rfl⟩
  ·intro k9 x8 y10 s H hk hI hl g17 g16 hy11 hx12;change P_semigroupref14_Associative_l7 t k9 = some y10 at hy11;unfold P_semigroupref14_Associative_l7 at hy11;obtain ⟨hl, g0, rfl⟩ := hI;refine AM.wp_seq hp0 (AM.wp_reg hp0 ?_);refine wpo_seg hp0 2 (fun s H' => s.length = 63 ∧ gt s 0 = v_0 ∧ gt s 7 = .int .i64 (k9 : Int) ∧ gt s 16 = .int .i64 (t.length : Int) ∧ gt s 17 = .int .i64 (k9 : Int) ∧ H = H') (by simp only [↓runs, isCall, ↓reduceIte, ↓gd_true, ↓gd_false, evs, AV.cells, Nat.reduceEqDiff, Nat.reduceLT, reduceCtorEq, Nat.reduceAdd, sy, g0, g16, g17, hl]) ?_;rintro s _ ⟨hl, g0, g7, g16, g17, rfl⟩;refine wpo_nil (then_n ?_);refine AM.wp_seq hp0 (AM.wp_reg hp0 ?_);have f16 := fz_ln h_0;refine wpo_seg hp0 3 (fun s H' => s.length = 63 ∧ gt s 0 = v_0 ∧ gt s 7 = .int .i64 (k9 : Int) ∧ gt s 16 = .int .i64 (t.length : Int) ∧ gt s 17 = .int .i64 (k9 : Int) ∧ gt s 21 = .int .i64 (t.length : Int) ∧ gt s 22 = .int .i64 0 ∧ H = H') (by simp only [↓runs, isCall, ↓reduceIte, ↓gd_true, ↓gd_false, evs, AV.cells, Nat.reduceEqDiff, Nat.reduceLT, reduceCtorEq, Nat.reduceAdd, sy, f16, g0, g7, g16, g17, hl]) ?_;rintro s _ ⟨hl, g0, g7, g16, g17, g21, g22, rfl⟩;refine wpo_nil (then_n ?_);obtain ⟨z23, e24, hy11⟩ := bn hy11;refine range_ref hp0 63 t.length (fun k x => P_semigroupref14_Associative_l17 k9 t k) (fun _ x s H' => s.length = 63 ∧ gt s 0 = v_0 ∧ gt s 7 = .int .i64 (k9 : Int) ∧ gt s 16 = .int .i64 (t.length : Int) ∧ gt s 17 = .int .i64 (k9 : Int) ∧ H = H') (fun _ x s H' => s.length = 63 ∧ gt s 0 = v_0 ∧ gt s 16 = .int .i64 (t.length : Int) ∧ gt s 17 = .int .i64 (k9 : Int) ∧ H = H') e24 (fz_big h_0) rfl ?_ ?_ hl g22 g21 ?_ ?_
   ·intro k x s H d v hd h; rcases hd with rfl | rfl | rfl <;> simpa only [gt_other, pt_length, Nat.reduceEqDiff, not_false_eq_true] using h
   ·exact ⟨hl, g0, g7, g16, g17, rfl⟩
   ·intro k19 x18 y20 s H hk hI hl g22 g21 hy21 hx22;change P_semigroupref14_Associative_l17 k9 t k19 = some y20 at hy21;unfold P_semigroupref14_Associative_l17 at hy21;obtain ⟨hl, g0, g7, g16, g17, rfl⟩ := hI;refine AM.wp_seq hp0 (AM.wp_reg hp0 ?_);refine wpo_seg hp0 2 (fun s H' => s.length = 63 ∧ gt s 0 = v_0 ∧ gt s 7 = .int .i64 (k9 : Int) ∧ gt s 8 = .int .i64 (k19 : Int) ∧ gt s 16 = .int .i64 (t.length : Int) ∧ gt s 17 = .int .i64 (k9 : Int) ∧ gt s 21 = .int .i64 (t.length : Int) ∧ gt s 22 = .int .i64 (k19 : Int) ∧ H = H') (by simp only [↓runs, isCall, ↓reduceIte, ↓gd_true, ↓gd_false, evs, AV.cells, Nat.reduceEqDiff, Nat.reduceLT, reduceCtorEq, Nat.reduceAdd, sy, g0, g7, g16, g17, g21, g22, hl]) ?_;rintro s _ ⟨hl, g0, g7, g8, g16, g17, g21, g22, rfl⟩;refine wpo_nil (then_n ?_);refine AM.wp_seq hp0 (AM.wp_reg hp0 ?_);have f26 := fz_ln h_0;refine wpo_seg hp0 3 (fun s H' => s.length = 63 ∧ gt s 0 = v_0 ∧ gt s 7 = .int .i64 (k9 : Int) ∧ gt s 8 = .int .i64 (k19 : Int) ∧ gt s 16 = .int .i64 (t.length : Int) ∧ gt s 17 = .int .i64 (k9 : Int) ∧ gt s 21 = .int .i64 (t.length : Int) ∧ gt s 22 = .int .i64 (k19 : Int) ∧ gt s 26 = .int .i64 (t.length : Int) ∧ gt s 27 = .int .i64 0 ∧ H = H') (by simp only [↓runs, isCall, ↓reduceIte, ↓gd_true, ↓gd_false, evs, AV.cells, Nat.reduceEqDiff, Nat.reduceLT, reduceCtorEq, Nat.reduceAdd, sy, f26, g0, g7, g8, g16, g17, g21, g22, hl]) ?_;rintro s _ ⟨hl, g0, g7, g8, g16, g17, g21, g22, g26, g27, rfl⟩;refine wpo_nil (then_n ?_);obtain ⟨z33, e34, hy21⟩ := bn hy21;refine range_ref hp0 63 t.length (fun k x => P_semigroupref14_Associative_l27 k9 k19 t k) (fun _ x s H' => s.length = 63 ∧ gt s 0 = v_0 ∧ gt s 7 = .int .i64 (k9 : Int) ∧ gt s 8 = .int .i64 (k19 : Int) ∧ gt s 16 = .int .i64 (t.length : Int) ∧ gt s 17 = .int .i64 (k9 : Int) ∧ gt s 21 = .int .i64 (t.length : Int) ∧ gt s 22 = .int .i64 (k19 : Int) ∧ H = H') (fun _ x s H' => s.length = 63 ∧ gt s 0 = v_0 ∧ gt s 7 = .int .i64 (k9 : Int) ∧ gt s 16 = .int .i64 (t.length : Int) ∧ gt s 17 = .int .i64 (k9 : Int) ∧ gt s 21 = .int .i64 (t.length : Int) ∧ gt s 22 = .int .i64 (k19 : Int) ∧ H = H') e34 (fz_big h_0) rfl ?_ ?_ hl g27 g26 ?_ ?_
    ·intro k x s H d v hd h; rcases hd with rfl | rfl | rfl <;> simpa only [gt_other, pt_length, Nat.reduceEqDiff, not_false_eq_true] using h
    ·exact ⟨hl, g0, g7, g8, g16, g17, g21, g22, rfl⟩
    ·intro k29 x28 y30 s H hk hI hl g27 g26 hy31 hx32;change P_semigroupref14_Associative_l27 k9 k19 t k29 = some y30 at hy31;unfold P_semigroupref14_Associative_l27 at hy31;obtain ⟨hl, g0, g7, g8, g16, g17, g21, g22, rfl⟩ := hI;refine AM.wp_seq hp0 (AM.wp_reg hp0 ?_);refine wpo_seg hp0 2 (fun s H' => s.length = 63 ∧ gt s 0 = v_0 ∧ gt s 7 = .int .i64 (k9 : Int) ∧ gt s 8 = .int .i64 (k19 : Int) ∧ gt s 9 = .int .i64 (k29 : Int) ∧ gt s 16 = .int .i64 (t.length : Int) ∧ gt s 17 = .int .i64 (k9 : Int) ∧ gt s 21 = .int .i64 (t.length : Int) ∧ gt s 22 = .int .i64 (k19 : Int) ∧ gt s 26 = .int .i64 (t.length : Int) ∧ gt s 27 = .int .i64 (k29 : Int) ∧ H = H') (by simp only [↓runs, isCall, ↓reduceIte, ↓gd_true, ↓gd_false, evs, AV.cells, Nat.reduceEqDiff, Nat.reduceLT, reduceCtorEq, Nat.reduceAdd, sy, g0, g7, g8, g16, g17, g21, g22, g26, g27, hl]) ?_;rintro s _ ⟨hl, g0, g7, g8, g9, g16, g17, g21, g22, g26, g27, rfl⟩;refine wpo_nil (then_n ?_);refine AM.wp_seq hp0 (AM.wp_reg hp0 ?_);obtain ⟨x36, e37, hy31⟩ := bn hy31;obtain ⟨p38, y39, f40, f41, h42⟩ := fz_at (k := .i64) hst h_0 e37 rfl;obtain ⟨x43, e44, hy31⟩ := bn hy31;obtain ⟨p45, _, f47, f48, rfl⟩ := fz_at (k := .i64) hst h42 e44 rfl;obtain ⟨x50, e51, hy31⟩ := bn hy31;obtain ⟨p52, y53, f54, f55, h56⟩ := fz_at (k := .i64) hst h_0 e51 rfl;obtain ⟨x57, e58, hy31⟩ := bn hy31;obtain ⟨p59, _, f61, f62, rfl⟩ := fz_at (k := .i64) hst h56 e58 rfl;obtain ⟨x64, e65, hy31⟩ := bn hy31;obtain ⟨p66, y67, f68, f69, h70⟩ := fz_at (k := .i64) hst h_0 e65 rfl;obtain ⟨x71, e72, hy31⟩ := bn hy31;obtain ⟨p73, _, f75, f76, rfl⟩ := fz_at (k := .i64) hst h70 e72 rfl;obtain ⟨x78, e79, hy31⟩ := bn hy31;obtain ⟨p80, _, f82, f83, rfl⟩ := fz_at (k := .i64) hst h42 e79 rfl;refine wpo_seg hp0 27 (fun s H' => s.length = 63 ∧ gt s 0 = v_0 ∧ gt s 7 = .int .i64 (k9 : Int) ∧ gt s 8 = .int .i64 (k19 : Int) ∧ gt s 9 = .int .i64 (k29 : Int) ∧ gt s 16 = .int .i64 (t.length : Int) ∧ gt s 17 = .int .i64 (k9 : Int) ∧ gt s 21 = .int .i64 (t.length : Int) ∧ gt s 22 = .int .i64 (k19 : Int) ∧ gt s 26 = .int .i64 (t.length : Int) ∧ gt s 27 = .int .i64 (k29 : Int) ∧ gt s 56 = .bool (!decide (x57 = x78)) ∧ H = H') (by simp (maxSteps := 1000000) only [↓runs, isCall, ↓reduceIte, ↓gd_true, ↓gd_false, evs, AV.cells, Nat.reduceEqDiff, Nat.reduceLT, reduceCtorEq, Nat.reduceAdd, sy, f40, f41, f47, f48, f54, f55, f61, f62, f68, f69, f75, f76, f82, f83, g0, g7, g8, g9, g16, g17, g21, g22, g26, g27, hl]) ?_;rintro s _ ⟨hl, g0, g7, g8, g9, g16, g17, g21, g22, g26, g27, g56, rfl⟩;refine wpo_nil (then_n ?_);rcases Bool.eq_false_or_eq_true (!decide (x57 = x78)) with c85 | c85
     ·replace hy31 := ifT c85 hy31;refine AM.wp_condT (by simp only [ev_t, ev_c, g56, c85]) ?_;refine AM.wp_seq hp0 (AM.wp_reg hp0 ?_);refine wpo_seg hp0 7 (fun s H' => s.length = 63 ∧ gt s 2 = .int .i64 (k9 : Int) ∧ gt s 3 = .int .i64 (k19 : Int) ∧ gt s 4 = .int .i64 (k29 : Int) ∧ gt s 5 = .int .i64 5 ∧ H = H') (by simp only [↓runs, isCall, ↓reduceIte, ↓gd_true, ↓gd_false, evs, AV.cells, Nat.reduceEqDiff, Nat.reduceLT, reduceCtorEq, Nat.reduceAdd, sy, g0, g7, g8, g9, g16, g17, g21, g22, g26, g27, g56, hl]) ?_;rintro s _ ⟨hl, g2, g3, g4, g5, rfl⟩;refine wpo_nil (then_n ?_);refine AM.wp_ret ?_;refine rnd_r ?_;refine rnd_r ?_;refine rnd_r ?_;refine then_r ?_;obtain rfl := Option.some.inj hy31;have hx := hx32 _ rfl;subst hx;dsimp only at hy21;obtain rfl := Option.some.inj hy21;have hx := hx22 _ rfl;subst hx;dsimp only at hy11;obtain rfl := Option.some.inj hy11;have hx := hx12 _ rfl;subst hx;dsimp only at hp;obtain rfl := Option.some.inj hp;refine body_ret (vs := [.int .i64 (k9 : Int), .int .i64 (k19 : Int), .int .i64 (k29 : Int), .int .i64 5]) (by simp only [rvs, f_semigroupref14_Associative, Option.map_some, g2, g3, g4, g5]) ?_;exact ⟨W, w4, hst, rfl⟩
     ·replace hy31 := ifF c85 hy31;refine AM.wp_condF (by simp only [ev_t, ev_c, g56, c85]) ?_;refine AM.wp_skip ?_;refine rnd_n ?_;obtain rfl := Option.some.inj hy31;exact ⟨_, rfl, hl, g27, g26, ⟨hl, g0, g7, g8, g16, g17, g21, g22, rfl⟩⟩
    ·rintro x86 s Hn hz hI;replace hI : (fun s H' => s.length = 63 ∧ gt s 0 = v_0 ∧ gt s 7 = .int .i64 (k9 : Int) ∧ gt s 16 = .int .i64 (t.length : Int) ∧ gt s 17 = .int .i64 (k9 : Int) ∧ gt s 21 = .int .i64 (t.length : Int) ∧ gt s 22 = .int .i64 (k19 : Int) ∧ H = H') s Hn := by
      rcases hI with ⟨hI, -⟩ | ⟨_, hI⟩
      ·obtain ⟨hl, g0, g7, g8, g16, g17, g21, g22, e2⟩ := hI;exact ⟨hl, g0, g7, g16, g17, g21, g22, e2⟩
      ·exact hI
     subst hz;dsimp only at hy21 hI;obtain ⟨hl, g0, g7, g16, g17, g21, g22, rfl⟩ := hI;refine rnd_n ?_;obtain rfl := Option.some.inj hy21;exact ⟨_, rfl, hl, g22, g21, ⟨hl, g0, g7, g16, g17, rfl⟩⟩
   ·rintro x88 s Hn hz hI;replace hI : (fun s H' => s.length = 63 ∧ gt s 0 = v_0 ∧ gt s 16 = .int .i64 (t.length : Int) ∧ gt s 17 = .int .i64 (k9 : Int) ∧ H = H') s Hn := by
     rcases hI with ⟨hI, -⟩ | ⟨_, hI⟩
     ·obtain ⟨hl, g0, g7, g16, g17, e2⟩ := hI;exact ⟨hl, g0, g16, g17, e2⟩
     ·exact hI
    subst hz;dsimp only at hy11 hI;obtain ⟨hl, g0, g16, g17, rfl⟩ := hI;refine rnd_n ?_;obtain rfl := Option.some.inj hy11;exact ⟨_, rfl, hl, g17, g16, ⟨hl, g0, rfl⟩⟩
  ·rintro x90 s Hn hz hI;replace hI : (fun s H' => s.length = 63 ∧ H = H') s Hn := by
    rcases hI with ⟨hI, -⟩ | ⟨_, hI⟩
    ·obtain ⟨hl, g0, e2⟩ := hI;exact ⟨hl, e2⟩
    ·exact hI
   subst hz;dsimp only at hp hI;obtain ⟨hl, rfl⟩ := hI;refine then_n ?_;refine AM.wp_seq hp0 (AM.wp_reg hp0 ?_);refine wpo_seg hp0 4 (fun s H' => s.length = 63 ∧ gt s 2 = .int .i64 0 ∧ gt s 3 = .int .i64 0 ∧ gt s 4 = .int .i64 0 ∧ gt s 5 = .int .i64 0 ∧ H = H') (by simp only [↓runs, isCall, ↓reduceIte, ↓gd_true, ↓gd_false, evs, AV.cells, Nat.reduceEqDiff, Nat.reduceLT, reduceCtorEq, Nat.reduceAdd, sy, hl]) ?_;rintro s _ ⟨hl, g2, g3, g4, g5, rfl⟩;refine wpo_nil (then_n ?_);refine AM.wp_ret ?_;obtain rfl := Option.some.inj hp;refine body_ret (vs := [.int .i64 0, .int .i64 0, .int .i64 0, .int .i64 0]) (by simp only [rvs, f_semigroupref14_Associative, Option.map_some, g2, g3, g4, g5]) ?_;exact ⟨W, w4, hst, rfl⟩

end Go.Proofs.Ytmdpejgnkoneoaa.Pu
set_option maxRecDepth 100000
set_option maxHeartbeats 4000000
namespace Go.Proofs.Ytmdpejgnkoneoaa.Pu
open Go Go.AM Go.Proofs.Ytmdpejgnkoneoaa.Code

noncomputable def P_semigroupref14_Validate (t : List (List Int)) : Option (Int) :=
 Option.bind (P_semigroupref14_Associative t) fun r1 =>
 some r1.2.2.2
theorem R_semigroupref14_Validate {G : List Frag} {W H : AH} {v_0 : AV} {t : List (List Int)} (hst : St G W H) (h_0 : Rp.rv W v_0 t) {r : Int} (hp : P_semigroupref14_Validate t = some r) :
  wpc E0 N_semigroupref14_Validate [v_0] H fun rv H' => ∃ W', Wle W W' ∧ St G W' H' ∧ rv = .int .i64 r := by
 refine enterN (F := f_semigroupref14_Validate) rfl (Nat.le_of_ble_eq_true rfl) fun s hl hg => ?_;replace hl : s.length = 15 := hl;have g0 : gt s 0 = v_0 := hg 0 (Nat.le_of_ble_eq_true rfl);clear hg;unfold P_semigroupref14_Validate at hp;show wp E0 c_semigroupref14_Validate s H _;unfold c_semigroupref14_Validate;refine AM.wp_seq hp0 (AM.wp_reg hp0 ?_);refine wpo_seg hp0 1 (fun s H' => s.length = 15 ∧ gt s 0 = v_0 ∧ H = H') (by simp only [↓runs, isCall, ↓reduceIte, ↓gd_true, ↓gd_false, evs, AV.cells, Nat.reduceEqDiff, Nat.reduceLT, reduceCtorEq, Nat.reduceAdd, sy, g0, hl]) ?_;rintro s _ ⟨hl, g0, rfl⟩;refine wpo_nil (then_n ?_);refine AM.wp_seq hp0 (AM.wp_reg hp0 ?_);refine wpo_seg hp0 1 (fun s H' => s.length = 15 ∧ gt s 8 = v_0 ∧ H = H') (by simp only [↓runs, isCall, ↓reduceIte, ↓gd_true, ↓gd_false, evs, AV.cells, Nat.reduceEqDiff, Nat.reduceLT, reduceCtorEq, Nat.reduceAdd, sy, g0, hl]) ?_;rintro s _ ⟨hl, g8, rfl⟩;obtain ⟨r1, e2, hp⟩ := bn hp;refine wpo_callK hp0 rfl (ys := [v_0]) (by simp only [evs, List.map_cons, List.map_nil, ev_t, ev_c, g8]) (R_semigroupref14_Associative hst h_0 e2) ?_;rintro rv3 H ⟨W, w4, hst, rfl⟩;replace h_0 := Rp.mono w4 h_0;refine wpo_seg hp0 9 (fun s H' => s.length = 15 ∧ gt s 6 = .int .i64 r1.2.2.2 ∧ H = H') (by simp only [↓runs, isCall, ↓reduceIte, ↓gd_true, ↓gd_false, evs, AV.cells, Nat.reduceEqDiff, Nat.reduceLT, reduceCtorEq, Nat.reduceAdd, sy, gt_other, g8, hl]) ?_;rintro s _ ⟨hl, g6, rfl⟩;refine wpo_nil (then_n ?_);refine AM.wp_seq hp0 (AM.wp_reg hp0 ?_);refine wpo_seg hp0 2 (fun s H' => s.length = 15 ∧ gt s 2 = .int .i64 r1.2.2.2 ∧ H = H') (by simp only [↓runs, isCall, ↓reduceIte, ↓gd_true, ↓gd_false, evs, AV.cells, Nat.reduceEqDiff, Nat.reduceLT, reduceCtorEq, Nat.reduceAdd, sy, g6, hl]) ?_;rintro s _ ⟨hl, g2, rfl⟩;refine wpo_nil (then_n ?_);refine AM.wp_ret ?_;obtain rfl := Option.some.inj hp;refine body_ret (vs := [.int .i64 r1.2.2.2]) (by simp only [rvs, f_semigroupref14_Validate, Option.map_some, g2]) ?_;exact ⟨W, w4, hst, rfl⟩

end Go.Proofs.Ytmdpejgnkoneoaa.Pu
set_option maxRecDepth 100000
set_option maxHeartbeats 4000000
namespace Go.Proofs.Ytmdpejgnkoneoaa.Pu
open Go Go.AM Go.Proofs.Ytmdpejgnkoneoaa.Code

noncomputable def P_semigroupref14_Valid (t : List (List Int)) : Option (Bool) :=
 Option.bind (P_semigroupref14_Validate t) fun r1 =>
 some (decide (r1 = 0))
theorem R_semigroupref14_Valid {G : List Frag} {W H : AH} {v_0 : AV} {t : List (List Int)} (hst : St G W H) (h_0 : Rp.rv W v_0 t) {r : Bool} (hp : P_semigroupref14_Valid t = some r) :
  wpc E0 N_semigroupref14_Valid [v_0] H fun rv H' => ∃ W', Wle W W' ∧ St G W' H' ∧ rv = .bool r := by
 refine enterN (F := f_semigroupref14_Valid) rfl (Nat.le_of_ble_eq_true rfl) fun s hl hg => ?_;replace hl : s.length = 6 := hl;have g0 : gt s 0 = v_0 := hg 0 (Nat.le_of_ble_eq_true rfl);clear hg;unfold P_semigroupref14_Valid at hp;show wp E0 c_semigroupref14_Valid s H _;unfold c_semigroupref14_Valid;refine AM.wp_seq hp0 (AM.wp_reg hp0 ?_);refine wpo_seg hp0 1 (fun s H' => s.length = 6 ∧ gt s 0 = v_0 ∧ H = H') (by simp only [↓runs, isCall, ↓reduceIte, ↓gd_true, ↓gd_false, evs, AV.cells, Nat.reduceEqDiff, Nat.reduceLT, reduceCtorEq, Nat.reduceAdd, sy, g0, hl]) ?_;rintro s _ ⟨hl, g0, rfl⟩;refine wpo_nil (then_n ?_);refine AM.wp_seq hp0 (AM.wp_reg hp0 ?_);refine wpo_seg hp0 1 (fun s H' => s.length = 6 ∧ gt s 3 = v_0 ∧ H = H') (by simp only [↓runs, isCall, ↓reduceIte, ↓gd_true, ↓gd_false, evs, AV.cells, Nat.reduceEqDiff, Nat.reduceLT, reduceCtorEq, Nat.reduceAdd, sy, g0, hl]) ?_;rintro s _ ⟨hl, g3, rfl⟩;obtain ⟨r1, e2, hp⟩ := bn hp;refine wpo_callK hp0 rfl (ys := [v_0]) (by simp only [evs, List.map_cons, List.map_nil, ev_t, ev_c, g3]) (R_semigroupref14_Validate hst h_0 e2) ?_;rintro rv3 H ⟨W, w4, hst, rfl⟩;replace h_0 := Rp.mono w4 h_0;refine wpo_seg hp0 2 (fun s H' => s.length = 6 ∧ gt s 2 = .bool (decide (r1 = 0)) ∧ H = H') (by simp only [↓runs, isCall, ↓reduceIte, ↓gd_true, ↓gd_false, evs, AV.cells, Nat.reduceEqDiff, Nat.reduceLT, reduceCtorEq, Nat.reduceAdd, sy, gt_other, g3, hl]) ?_;rintro s _ ⟨hl, g2, rfl⟩;refine wpo_nil (then_n ?_);refine AM.wp_ret ?_;obtain rfl := Option.some.inj hp;refine body_ret (vs := [.bool (decide (r1 = 0))]) (by simp only [rvs, f_semigroupref14_Valid, Option.map_some, g2]) ?_;exact ⟨W, w4, hst, rfl⟩

end Go.Proofs.Ytmdpejgnkoneoaa.Pu
set_option maxRecDepth 100000
set_option maxHeartbeats 4000000
namespace Go.Proofs.Ytmdpejgnkoneoaa.Pu
open Go Go.AM Go.Proofs.Ytmdpejgnkoneoaa.Code

noncomputable def P_mult_failing_l22 (k4 : Nat) (k14 : Nat) (t : List (List Int)) (k24 : Nat) : Option (Lp (Unit) (Int × Int × Int × Bool)) :=
 Option.bind (gi t (k4 : Int)) fun x31 =>
 Option.bind (gi x31 (k14 : Int)) fun x38 =>
 Option.bind (gi t x38) fun x45 =>
 Option.bind (gi x45 (k24 : Int)) fun x52 =>
 Option.bind (gi t (k14 : Int)) fun x59 =>
 Option.bind (gi x59 (k24 : Int)) fun x66 =>
 Option.bind (gi x31 x66) fun x73 =>
 if !decide (x52 = x73) then
  some (.ex ((k4 : Int), (k14 : Int), (k24 : Int), true))
 else
  some (.go ())
noncomputable def P_mult_failing_l12 (k4 : Nat) (t : List (List Int)) (k14 : Nat) : Option (Lp (Unit) (Int × Int × Int × Bool)) :=
 Option.bind (forR t.length (fun k x => P_mult_failing_l22 k4 k14 t k) ()) fun z28 =>
 match z28 with
 | .inl x81 =>
  some (.go ())
 | .inr b => some (.ex b)
noncomputable def P_mult_failing_l2 (t : List (List Int)) (k4 : Nat) : Option (Lp (Unit) (Int × Int × Int × Bool)) :=
 Option.bind (forR t.length (fun k x => P_mult_failing_l12 k4 t k) ()) fun z18 =>
 match z18 with
 | .inl x83 =>
  some (.go ())
 | .inr b => some (.ex b)
noncomputable def P_mult_failing (t : List (List Int)) : Option (Int × Int × Int × Bool) :=
 Option.bind (forR t.length (fun k x => P_mult_failing_l2 t k) ()) fun z8 =>
 match z8 with
 | .inl x85 =>
  some (0, 0, 0, false)
 | .inr b => some b
theorem R_mult_failing {G : List Frag} {W H : AH} {v_0 : AV} {t : List (List Int)} (hst : St G W H) (h_0 : Rp.rv W v_0 t) {r : Int × Int × Int × Bool} (hp : P_mult_failing t = some r) :
  wpc E0 N_mult_failing [v_0] H fun rv H' => ∃ W', Wle W W' ∧ St G W' H' ∧ rv = .tup [.int .i64 r.1, .int .i64 r.2.1, .int .i64 r.2.2.1, .bool r.2.2.2] := by
 refine enterN (F := f_mult_failing) rfl (Nat.le_of_ble_eq_true rfl) fun s hl hg => ?_;replace hl : s.length = 57 := hl;have g0 : gt s 0 = v_0 := hg 0 (Nat.le_of_ble_eq_true rfl);clear hg;unfold P_mult_failing at hp;show wp E0 c_mult_failing s H _;unfold c_mult_failing;refine AM.wp_seq hp0 (AM.wp_reg hp0 ?_);refine wpo_seg hp0 4 (fun s H' => s.length = 57 ∧ gt s 0 = v_0 ∧ H = H') (by simp only [↓runs, isCall, ↓reduceIte, ↓gd_true, ↓gd_false, evs, AV.cells, Nat.reduceEqDiff, Nat.reduceLT, reduceCtorEq, Nat.reduceAdd, sy, g0, hl]) ?_;rintro s _ ⟨hl, g0, rfl⟩;refine wpo_nil (then_n ?_);refine AM.wp_seq hp0 (AM.wp_seq hp0 (AM.wp_reg hp0 ?_));have f1 := fz_ln h_0;refine wpo_seg hp0 3 (fun s H' => s.length = 57 ∧ gt s 0 = v_0 ∧ gt s 10 = .int .i64 (t.length : Int) ∧ gt s 11 = .int .i64 0 ∧ H = H') (by simp only [↓runs, isCall, ↓reduceIte, ↓gd_true, ↓gd_false, evs, AV.cells, Nat.reduceEqDiff, Nat.reduceLT, reduceCtorEq, Nat.reduceAdd, sy, f1, g0, hl]) ?_;rintro s _ ⟨hl, g0, g10, g11, rfl⟩;refine wpo_nil (then_n ?_);obtain ⟨z8, e9, hp⟩ := bn hp;refine range_ref hp0 57 t.length (fun k x => P_mult_failing_l2 t k) (fun _ x s H' => s.length = 57 ∧ gt s 0 = v_0 ∧ H = H') (fun _ x s H' => s.length = 57 ∧ H = H') e9 (fz_big h_0) rfl ?_ ?_ hl g11 g10 ?_ ?_
 ·intro k x s H d v hd h; rcases hd with rfl | rfl | rfl <;> simpa only [gt_other, pt_length, Nat.reduceEqDiff, not_false_eq_true] using h
 ·exact ⟨hl, g0, rfl⟩
 ·intro k4 x3 y5 s H hk hI hl g11 g10 hy6 hx7;change P_mult_failing_l2 t k4 = some y5 at hy6;unfold P_mult_failing_l2 at hy6;obtain ⟨hl, g0, rfl⟩ := hI;refine AM.wp_seq hp0 (AM.wp_reg hp0 ?_);refine wpo_seg hp0 2 (fun s H' => s.length = 57 ∧ gt s 0 = v_0 ∧ gt s 6 = .int .i64 (k4 : Int) ∧ gt s 10 = .int .i64 (t.length : Int) ∧ gt s 11 = .int .i64 (k4 : Int) ∧ H = H') (by simp only [↓runs, isCall, ↓reduceIte, ↓gd_true, ↓gd_false, evs, AV.cells, Nat.reduceEqDiff, Nat.reduceLT, reduceCtorEq, Nat.reduceAdd, sy, g0, g10, g11, hl]) ?_;rintro s _ ⟨hl, g0, g6, g10, g11, rfl⟩;refine wpo_nil (then_n ?_);refine AM.wp_seq hp0 (AM.wp_reg hp0 ?_);have f11 := fz_ln h_0;refine wpo_seg hp0 3 (fun s H' => s.length = 57 ∧ gt s 0 = v_0 ∧ gt s 6 = .int .i64 (k4 : Int) ∧ gt s 10 = .int .i64 (t.length : Int) ∧ gt s 11 = .int .i64 (k4 : Int) ∧ gt s 15 = .int .i64 (t.length : Int) ∧ gt s 16 = .int .i64 0 ∧ H = H') (by simp only [↓runs, isCall, ↓reduceIte, ↓gd_true, ↓gd_false, evs, AV.cells, Nat.reduceEqDiff, Nat.reduceLT, reduceCtorEq, Nat.reduceAdd, sy, f11, g0, g6, g10, g11, hl]) ?_;rintro s _ ⟨hl, g0, g6, g10, g11, g15, g16, rfl⟩;refine wpo_nil (then_n ?_);obtain ⟨z18, e19, hy6⟩ := bn hy6;refine range_ref hp0 57 t.length (fun k x => P_mult_failing_l12 k4 t k) (fun _ x s H' => s.length = 57 ∧ gt s 0 = v_0 ∧ gt s 6 = .int .i64 (k4 : Int) ∧ gt s 10 = .int .i64 (t.length : Int) ∧ gt s 11 = .int .i64 (k4 : Int) ∧ H = H') (fun _ x s H' => s.length = 57 ∧ gt s 0 = v_0 ∧ gt s 10 = .int .i64 (t.length : Int) ∧ gt s 11 = .int .i64 (k4 : Int) ∧ H = H') e19 (fz_big h_0) rfl ?_ ?_ hl g16 g15 ?_ ?_
  ·intro k x s H d v hd h; rcases hd with rfl | rfl | rfl <;> simpa only [gt_other, pt_length, Nat.reduceEqDiff, not_false_eq_true] using h
  ·exact ⟨hl, g0, g6, g10, g11, rfl⟩
  ·intro k14 x13 y15 s H hk hI hl g16 g15 hy16 hx17;change P_mult_failing_l12 k4 t k14 = some y15 at hy16;unfold P_mult_failing_l12 at hy16;obtain ⟨hl, g0, g6, g10, g11, rfl⟩ := hI;refine AM.wp_seq hp0 (AM.wp_reg hp0 ?_);refine wpo_seg hp0 2 (fun s H' => s.length = 57 ∧ gt s 0 = v_0 ∧ gt s 6 = .int .i64 (k4 : Int) ∧ gt s 7 = .int .i64 (k14 : Int) ∧ gt s 10 = .int .i64 (t.length : Int) ∧ gt s 11 = .int .i64 (k4 : Int) ∧ gt s 15 = .int .i64 (t.length : Int) ∧ gt s 16 = .int .i64 (k14 : Int) ∧ H = H') (by simp only [↓runs, isCall, ↓reduceIte, ↓gd_true, ↓gd_false, evs, AV.cells, Nat.reduceEqDiff, Nat.reduceLT, reduceCtorEq, Nat.reduceAdd, sy, g0, g6, g10, g11, g15, g16, hl]) ?_;rintro s _ ⟨hl, g0, g6, g7, g10, g11, g15, g16, rfl⟩;refine wpo_nil (then_n ?_);refine AM.wp_seq hp0 (AM.wp_reg hp0 ?_);have f21 := fz_ln h_0;refine wpo_seg hp0 3 (fun s H' => s.length = 57 ∧ gt s 0 = v_0 ∧ gt s 6 = .int .i64 (k4 : Int) ∧ gt s 7 = .int .i64 (k14 : Int) ∧ gt s 10 = .int .i64 (t.length : Int) ∧ gt s 11 = .int .i64 (k4 : Int) ∧ gt s 15 = .int .i64 (t.length : Int) ∧ gt s 16 = .int .i64 (k14 : Int) ∧ gt s 20 = .int .i64 (t.length : Int) ∧ gt s 21 = .int .i64 0 ∧ H = H') (by simp only [↓runs, isCall, ↓reduceIte, ↓gd_true, ↓gd_false, evs, AV.cells, Nat.reduceEqDiff, Nat.reduceLT, reduceCtorEq, Nat.reduceAdd, sy, f21, g0, g6, g7, g10, g11, g15, g16, hl]) ?_;rintro s _ ⟨hl, g0, g6, g7, g10, g11, g15, g16, g20, g21, rfl⟩;refine wpo_nil (then_n ?_);obtain ⟨z28, e29, hy16⟩ := bn hy16;refine range_ref hp0 57 t.length (fun k x => P_mult_failing_l22 k4 k14 t k) (fun _ x s H' => s.length = 57 ∧ gt s 0 = v_0 ∧ gt s 6 = .int .i64 (k4 : Int) ∧ gt s 7 = .int .i64 (k14 : Int) ∧ gt s 10 = .int .i64 (t.length : Int) ∧ gt s 11 = .int .i64 (k4 : Int) ∧ gt s 15 = .int .i64 (t.length : Int) ∧ gt s 16 = .int .i64 (k14 : Int) ∧ H = H') (fun _ x s H' => s.length = 57 ∧ gt s 0 = v_0 ∧ gt s 6 = .int .i64 (k4 : Int) ∧ gt s 10 = .int .i64 (t.length : Int) ∧ gt s 11 = .int .i64 (k4 : Int) ∧ gt s 15 = .int .i64 (t.length : Int) ∧ gt s 16 = .int .i64 (k14 : Int) ∧ H = H') e29 (fz_big h_0) rfl ?_ ?_ hl g21 g20 ?_ ?_
   ·intro k x s H d v hd h; rcases hd with rfl | rfl | rfl <;> simpa only [gt_other, pt_length, Nat.reduceEqDiff, not_false_eq_true] using h
   ·exact ⟨hl, g0, g6, g7, g10, g11, g15, g16, rfl⟩
   ·intro k24 x23 y25 s H hk hI hl g21 g20 hy26 hx27;change P_mult_failing_l22 k4 k14 t k24 = some y25 at hy26;unfold P_mult_failing_l22 at hy26;obtain ⟨hl, g0, g6, g7, g10, g11, g15, g16, rfl⟩ := hI;refine AM.wp_seq hp0 (AM.wp_reg hp0 ?_);refine wpo_seg hp0 2 (fun s H' => s.length = 57 ∧ gt s 0 = v_0 ∧ gt s 6 = .int .i64 (k4 : Int) ∧ gt s 7 = .int .i64 (k14 : Int) ∧ gt s 8 = .int .i64 (k24 : Int) ∧ gt s 10 = .int .i64 (t.length : Int) ∧ gt s 11 = .int .i64 (k4 : Int) ∧ gt s 15 = .int .i64 (t.length : Int) ∧ gt s 16 = .int .i64 (k14 : Int) ∧ gt s 20 = .int .i64 (t.length : Int) ∧ gt s 21 = .int .i64 (k24 : Int) ∧ H = H') (by simp only [↓runs, isCall, ↓reduceIte, ↓gd_true, ↓gd_false, evs, AV.cells, Nat.reduceEqDiff, Nat.reduceLT, reduceCtorEq, Nat.reduceAdd, sy, g0, g6, g7, g10, g11, g15, g16, g20, g21, hl]) ?_;rintro s _ ⟨hl, g0, g6, g7, g8, g10, g11, g15, g16, g20, g21, rfl⟩;refine wpo_nil (then_n ?_);refine AM.wp_seq hp0 (AM.wp_reg hp0 ?_);obtain ⟨x31, e32, hy26⟩ := bn hy26;obtain ⟨p33, y34, f35, f36, h37⟩ := fz_at (k := .i64) hst h_0 e32 rfl;obtain ⟨x38, e39, hy26⟩ := bn hy26;obtain ⟨p40, _, f42, f43, rfl⟩ := fz_at (k := .i64) hst h37 e39 rfl;obtain ⟨x45, e46, hy26⟩ := bn hy26;obtain ⟨p47, y48, f49, f50, h51⟩ := fz_at (k := .i64) hst h_0 e46 rfl;obtain ⟨x52, e53, hy26⟩ := bn hy26;obtain ⟨p54, _, f56, f57, rfl⟩ := fz_at (k := .i64) hst h51 e53 rfl;obtain ⟨x59, e60, hy26⟩ := bn hy26;obtain ⟨p61, y62, f63, f64, h65⟩ := fz_at (k := .i64) hst h_0 e60 rfl;obtain ⟨x66, e67, hy26⟩ := bn hy26;obtain ⟨p68, _, f70, f71, rfl⟩ := fz_at (k := .i64) hst h65 e67 rfl;obtain ⟨x73, e74, hy26⟩ := bn hy26;obtain ⟨p75, _, f77, f78, rfl⟩ := fz_at (k := .i64) hst h37 e74 rfl;refine wpo_seg hp0 27 (fun s H' => s.length = 57 ∧ gt s 0 = v_0 ∧ gt s 6 = .int .i64 (k4 : Int) ∧ gt s 7 = .int .i64 (k14 : Int) ∧ gt s 8 = .int .i64 (k24 : Int) ∧ gt s 10 = .int .i64 (t.length : Int) ∧ gt s 11 = .int .i64 (k4 : Int) ∧ gt s 15 = .int .i64 (t.length : Int) ∧ gt s 16 = .int .i64 (k14 : Int) ∧ gt s 20 = .int .i64 (t.length : Int) ∧ gt s 21 = .int .i64 (k24 : Int) ∧ gt s 50 = .bool (!decide (x52 = x73)) ∧ H = H') (by simp (maxSteps := 1000000) only [↓runs, isCall, ↓reduceIte, ↓gd_true, ↓gd_false, evs, AV.cells, Nat.reduceEqDiff, Nat.reduceLT, reduceCtorEq, Nat.reduceAdd, sy, f35, f36, f42, f43, f49, f50, f56, f57, f63, f64, f70, f71, f77, f78, g0, g6, g7, g8, g10, g11, g15, g16, g20, g21, hl]) ?_;rintro s _ ⟨hl, g0, g6, g7, g8, g10, g11, g15, g16, g20, g21, g50, rfl⟩;refine wpo_nil (then_n ?_);rcases Bool.eq_false_or_eq_true (!decide (x52 = x73)) with c80 | c80
    ·replace hy26 := ifT c80 hy26;refine AM.wp_condT (by simp only [ev_t, ev_c, g50, c80]) ?_;refine AM.wp_seq hp0 (AM.wp_reg hp0 ?_);refine wpo_seg hp0 7 (fun s H' => s.length = 57 ∧ gt s 2 = .int .i64 (k4 : Int) ∧ gt s 3 = .int .i64 (k14 : Int) ∧ gt s 4 = .int .i64 (k24 : Int) ∧ gt s 5 = .bool true ∧ H = H') (by simp only [↓runs, isCall, ↓reduceIte, ↓gd_true, ↓gd_false, evs, AV.cells, Nat.reduceEqDiff, Nat.reduceLT, reduceCtorEq, Nat.reduceAdd, sy, g0, g6, g7, g8, g10, g11, g15, g16, g20, g21, g50, hl]) ?_;rintro s _ ⟨hl, g2, g3, g4, g5, rfl⟩;refine wpo_nil (then_n ?_);refine AM.wp_ret ?_;refine rnd_r ?_;refine rnd_r ?_;refine rnd_r ?_;refine then_r ?_;obtain rfl := Option.some.inj hy26;have hx := hx27 _ rfl;subst hx;dsimp only at hy16;obtain rfl := Option.some.inj hy16;have hx := hx17 _ rfl;subst hx;dsimp only at hy6;obtain rfl := Option.some.inj hy6;have hx := hx7 _ rfl;subst hx;dsimp only at hp;obtain rfl := Option.some.inj hp;refine body_ret (vs := [.int .i64 (k4 : Int), .int .i64 (k14 : Int), .int .i64 (k24 : Int), .bool true]) (by simp only [rvs, f_mult_failing, Option.map_some, g2, g3, g4, g5]) ?_;exact ⟨W, .refl _, hst, rfl⟩
    ·replace hy26 := ifF c80 hy26;refine AM.wp_condF (by simp only [ev_t, ev_c, g50, c80]) ?_;refine AM.wp_skip ?_;refine rnd_n ?_;obtain rfl := Option.some.inj hy26;exact ⟨_, rfl, hl, g21, g20, ⟨hl, g0, g6, g7, g10, g11, g15, g16, rfl⟩⟩
   ·rintro x81 s Hn hz hI;replace hI : (fun s H' => s.length = 57 ∧ gt s 0 = v_0 ∧ gt s 6 = .int .i64 (k4 : Int) ∧ gt s 10 = .int .i64 (t.length : Int) ∧ gt s 11 = .int .i64 (k4 : Int) ∧ gt s 15 = .int .i64 (t.length : Int) ∧ gt s 16 = .int .i64 (k14 : Int) ∧ H = H') s Hn := by
     rcases hI with ⟨hI, -⟩ | ⟨_, hI⟩
     ·obtain ⟨hl, g0, g6, g7, g10, g11, g15, g16, e2⟩ := hI;exact ⟨hl, g0, g6, g10, g11, g15, g16, e2⟩
     ·exact hI
    subst hz;dsimp only at hy16 hI;obtain ⟨hl, g0, g6, g10, g11, g15, g16, rfl⟩ := hI;refine rnd_n ?_;obtain rfl := Option.some.inj hy16;exact ⟨_, rfl, hl, g16, g15, ⟨hl, g0, g6, g10, g11, rfl⟩⟩
  ·rintro x83 s Hn hz hI;replace hI : (fun s H' => s.length = 57 ∧ gt s 0 = v_0 ∧ gt s 10 = .int .i64 (t.length : Int) ∧ gt s 11 = .int .i64 (k4 : Int) ∧ H = H') s Hn := by
    rcases hI with ⟨hI, -⟩ | ⟨_, hI⟩
    ·obtain ⟨hl, g0, g6, g10, g11, e2⟩ := hI;exact ⟨hl, g0, g10, g11, e2⟩
    ·exact hI
   subst hz;dsimp only at hy6 hI;obtain ⟨hl, g0, g10, g11, rfl⟩ := hI;refine rnd_n ?_;obtain rfl := Option.some.inj hy6;exact ⟨_, rfl, hl, g11, g10, ⟨hl, g0, rfl⟩⟩
 ·rintro x85 s Hn hz hI;replace hI : (fun s H' => s.length = 57 ∧ H = H') s Hn := by
   rcases hI with ⟨hI, -⟩ | ⟨_, hI⟩
   ·obtain ⟨hl, g0, e2⟩ := hI;exact ⟨hl, e2⟩
   ·exact hI
  subst hz;dsimp only at hp hI;obtain ⟨hl, rfl⟩ := hI;refine then_n ?_;refine AM.wp_seq hp0 (AM.wp_reg hp0 ?_);refine wpo_seg hp0 4 (fun s H' => s.length = 57 ∧ gt s 2 = .int .i64 0 ∧ gt s 3 = .int .i64 0 ∧ gt s 4 = .int .i64 0 ∧ gt s 5 = .bool false ∧ H = H') (by simp only [↓runs, isCall, ↓reduceIte, ↓gd_true, ↓gd_false, evs, AV.cells, Nat.reduceEqDiff, Nat.reduceLT, reduceCtorEq, Nat.reduceAdd, sy, hl]) ?_;rintro s _ ⟨hl, g2, g3, g4, g5, rfl⟩;refine wpo_nil (then_n ?_);refine AM.wp_ret ?_;obtain rfl := Option.some.inj hp;refine body_ret (vs := [.int .i64 0, .int .i64 0, .int .i64 0, .bool false]) (by simp only [rvs, f_mult_failing, Option.map_some, g2, g3, g4, g5]) ?_;exact ⟨W, .refl _, hst, rfl⟩

end Go.Proofs.Ytmdpejgnkoneoaa.Pu
set_option maxRecDepth 100000
set_option maxHeartbeats 4000000
namespace Go.Proofs.Ytmdpejgnkoneoaa.Pu
open Go Go.AM Go.Proofs.Ytmdpejgnkoneoaa.Code

noncomputable def P_mult_shape_l26 (t : List (List Int)) (x15 : List Int) (k28 : Nat) : Option (Lp (Unit) (Int)) :=
 Option.bind (gi x15 (k28 : Int)) fun x35 =>
 Option.bind (
  if decide (x35 < 0) then
   some true
  else
   some (decide ((t.length : Int) ≤ x35))) fun z42 =>
 if z42 then
  some (.ex 4)
 else
  some (.go ())
noncomputable def P_mult_shape_l6 (t : List (List Int)) (k8 : Nat) : Option (Lp (Unit) (Int)) :=
 Option.bind (gi t (k8 : Int)) fun x15 =>
 if !decide ((x15.length : Int) = (t.length : Int)) then
  some (.ex 4)
 else
  Option.bind (forR x15.length (fun k x => P_mult_shape_l26 t x15 k) ()) fun z32 =>
  match z32 with
  | .inl x48 =>
   some (.go ())
  | .inr b => some (.ex b)
noncomputable def P_mult_shape (t : List (List Int)) : Option (Int) :=
 if decide (400 < (t.length : Int)) then
  some 3
 else
  if decide ((t.length : Int) = 0) then
   some 4
  else
   Option.bind (forR t.length (fun k x => P_mult_shape_l6 t k) ()) fun z12 =>
   match z12 with
   | .inl x50 =>
    some 0
   | .inr b => some b
theorem R_mult_shape {G : List Frag} {W H : AH} {v_0 : AV} {t : List (List Int)} (hst : St G W H) (h_0 : Rp.rv W v_0 t) {r : Int} (hp : P_mult_shape t = some r) :
  wpc E0 N_mult_shape [v_0] H fun rv H' => ∃ W', Wle W W' ∧ St G W' H' ∧ rv = .int .i64 r := by
 refine enterN (F := f_mult_shape) rfl (Nat.le_of_ble_eq_true rfl) fun s hl hg => ?_;replace hl : s.length = 42 := hl;have g0 : gt s 0 = v_0 := hg 0 (Nat.le_of_ble_eq_true rfl);clear hg;unfold P_mult_shape at hp;show wp E0 c_mult_shape s H _;unfold c_mult_shape;refine AM.wp_seq hp0 (AM.wp_reg hp0 ?_);refine wpo_seg hp0 1 (fun s H' => s.length = 42 ∧ gt s 0 = v_0 ∧ H = H') (by simp only [↓runs, isCall, ↓reduceIte, ↓gd_true, ↓gd_false, evs, AV.cells, Nat.reduceEqDiff, Nat.reduceLT, reduceCtorEq, Nat.reduceAdd, sy, g0, hl]) ?_;rintro s _ ⟨hl, g0, rfl⟩;refine wpo_nil (then_n ?_);refine AM.wp_seq hp0 ?_;refine AM.wp_block ?_;refine AM.wp_seq hp0 (AM.wp_reg hp0 ?_);have f1 := fz_ln h_0;refine wpo_seg hp0 4 (fun s H' => s.length = 42 ∧ gt s 0 = v_0 ∧ gt s 7 = .bool (decide (400 < (t.length : Int))) ∧ H = H') (by simp only [↓runs, isCall, ↓reduceIte, ↓gd_true, ↓gd_false, evs, AV.cells, Nat.reduceEqDiff, Nat.reduceLT, reduceCtorEq, Nat.reduceAdd, sy, f1, g0, hl]) ?_;rintro s _ ⟨hl, g0, g7, rfl⟩;refine wpo_nil (then_n ?_);rcases Bool.eq_false_or_eq_true (decide (400 < (t.length : Int))) with c2 | c2
 ·replace hp := ifT c2 hp;refine AM.wp_condT (by simp only [ev_t, ev_c, g7, c2]) ?_;refine AM.wp_seq hp0 (AM.wp_reg hp0 ?_);refine wpo_seg hp0 1 (fun s H' => s.length = 42 ∧ gt s 2 = .int .i64 3 ∧ H = H') (by simp only [↓runs, isCall, ↓reduceIte, ↓gd_true, ↓gd_false, evs, AV.cells, Nat.reduceEqDiff, Nat.reduceLT, reduceCtorEq, Nat.reduceAdd, sy, g0, g7, hl]) ?_;rintro s _ ⟨hl, g2, rfl⟩;refine wpo_nil (then_n ?_);refine AM.wp_ret ?_;refine blk_r ?_;refine then_r ?_;obtain rfl := Option.some.inj hp;refine body_ret (vs := [.int .i64 3]) (by simp only [rvs, f_mult_shape, Option.map_some, g2]) ?_;exact ⟨W, .refl _, hst, rfl⟩
 ·replace hp := ifF c2 hp;refine AM.wp_condF (by simp only [ev_t, ev_c, g7, c2]) ?_;refine AM.wp_seq hp0 (AM.wp_reg hp0 ?_);have f3 := fz_ln h_0;refine wpo_seg hp0 4 (fun s H' => s.length = 42 ∧ gt s 0 = v_0 ∧ gt s 11 = .bool (decide ((t.length : Int) = 0)) ∧ H = H') (by simp only [↓runs, isCall, ↓reduceIte, ↓gd_true, ↓gd_false, evs, AV.cells, Nat.reduceEqDiff, Nat.reduceLT, reduceCtorEq, Nat.reduceAdd, sy, f3, g0, g7, hl]) ?_;rintro s _ ⟨hl, g0, g11, rfl⟩;refine wpo_nil (then_n ?_);rcases Bool.eq_false_or_eq_true (decide ((t.length : Int) = 0)) with c4 | c4
  ·replace hp := ifT c4 hp;refine AM.wp_condT (by simp only [ev_t, ev_c, g11, c4]) ?_;refine AM.wp_seq hp0 (AM.wp_reg hp0 ?_);refine wpo_seg hp0 1 (fun s H' => s.length = 42 ∧ gt s 2 = .int .i64 4 ∧ H = H') (by simp only [↓runs, isCall, ↓reduceIte, ↓gd_true, ↓gd_false, evs, AV.cells, Nat.reduceEqDiff, Nat.reduceLT, reduceCtorEq, Nat.reduceAdd, sy, g0, g11, hl]) ?_;rintro s _ ⟨hl, g2, rfl⟩;refine wpo_nil (then_n ?_);refine AM.wp_ret ?_;refine blk_r ?_;refine then_r ?_;obtain rfl := Option.some.inj hp;refine body_ret (vs := [.int .i64 4]) (by simp only [rvs, f_mult_shape, Option.map_some, g2]) ?_;exact ⟨W, .refl _, hst, rfl⟩
  ·replace hp := ifF c4 hp;refine AM.wp_condF (by simp only [ev_t, ev_c, g11, c4]) ?_;refine AM.wp_skip ?_;refine blk_n ?_;refine then_n ?_;refine AM.wp_seq hp0 (AM.wp_seq hp0 (AM.wp_reg hp0 ?_));have f5 := fz_ln h_0;refine wpo_seg hp0 3 (fun s H' => s.length = 42 ∧ gt s 0 = v_0 ∧ gt s 15 = v_0 ∧ gt s 16 = .int .i64 (t.length : Int) ∧ gt s 17 = .int .i64 0 ∧ H = H') (by simp only [↓runs, isCall, ↓reduceIte, ↓gd_true, ↓gd_false, evs, AV.cells, Nat.reduceEqDiff, Nat.reduceLT, reduceCtorEq, Nat.reduceAdd, sy, f5, g0, g11, hl]) ?_;rintro s _ ⟨hl, g0, g15, g16, g17, rfl⟩;refine wpo_nil (then_n ?_);obtain ⟨z12, e13, hp⟩ := bn hp;refine range_ref hp0 42 t.length (fun k x => P_mult_shape_l6 t k) (fun _ x s H' => s.length = 42 ∧ gt s 0 = v_0 ∧ gt s 15 = v_0 ∧ H = H') (fun _ x s H' => s.length = 42 ∧ H = H') e13 (fz_big h_0) rfl ?_ ?_ hl g17 g16 ?_ ?_
   ·intro k x s H d v hd h; rcases hd with rfl | rfl | rfl <;> simpa only [gt_other, pt_length, Nat.reduceEqDiff, not_false_eq_true] using h
   ·exact ⟨hl, g0, g15, rfl⟩
   ·intro k8 x7 y9 s H hk hI hl g17 g16 hy10 hx11;change P_mult_shape_l6 t k8 = some y9 at hy10;unfold P_mult_shape_l6 at hy10;obtain ⟨hl, g0, g15, rfl⟩ := hI;refine AM.wp_seq hp0 (AM.wp_reg hp0 ?_);obtain ⟨x15, e16, hy10⟩ := bn hy10;obtain ⟨p17, y18, f19, f20, h21⟩ := fz_at (k := .i64) hst h_0 e16 rfl;refine wpo_seg hp0 3 (fun s H' => s.length = 42 ∧ gt s 0 = v_0 ∧ gt s 4 = y18 ∧ gt s 15 = v_0 ∧ gt s 16 = .int .i64 (t.length : Int) ∧ gt s 17 = .int .i64 (k8 : Int) ∧ H = H') (by simp only [↓runs, isCall, ↓reduceIte, ↓gd_true, ↓gd_false, evs, AV.cells, Nat.reduceEqDiff, Nat.reduceLT, reduceCtorEq, Nat.reduceAdd, sy, f19, f20, g0, g15, g16, g17, hl]) ?_;rintro s _ ⟨hl, g0, g4, g15, g16, g17, rfl⟩;refine wpo_nil (then_n ?_);refine AM.wp_seq hp0 (AM.wp_seq hp0 (AM.wp_reg hp0 ?_));have f22 := fz_ln h21;have f23 := fz_ln h_0;refine wpo_seg hp0 5 (fun s H' => s.length = 42 ∧ gt s 0 = v_0 ∧ gt s 4 = y18 ∧ gt s 15 = v_0 ∧ gt s 16 = .int .i64 (t.length : Int) ∧ gt s 17 = .int .i64 (k8 : Int) ∧ gt s 25 = .bool (!decide ((x15.length : Int) = (t.length : Int))) ∧ H = H') (by simp only [↓runs, isCall, ↓reduceIte, ↓gd_true, ↓gd_false, evs, AV.cells, Nat.reduceEqDiff, Nat.reduceLT, reduceCtorEq, Nat.reduceAdd, sy, f22, f23, g0, g4, g15, g16, g17, hl]) ?_;rintro s _ ⟨hl, g0, g4, g15, g16, g17, g25, rfl⟩;refine wpo_nil (then_n ?_);rcases Bool.eq_false_or_eq_true (!decide ((x15.length : Int) = (t.length : Int))) with c24 | c24
    ·replace hy10 := ifT c24 hy10;refine AM.wp_condT (by simp only [ev_t, ev_c, g25, c24]) ?_;refine AM.wp_seq hp0 (AM.wp_reg hp0 ?_);refine wpo_seg hp0 1 (fun s H' => s.length = 42 ∧ gt s 2 = .int .i64 4 ∧ H = H') (by simp only [↓runs, isCall, ↓reduceIte, ↓gd_true, ↓gd_false, evs, AV.cells, Nat.reduceEqDiff, Nat.reduceLT, reduceCtorEq, Nat.reduceAdd, sy, g0, g4, g15, g16, g17, g25, hl]) ?_;rintro s _ ⟨hl, g2, rfl⟩;refine wpo_nil (then_n ?_);refine AM.wp_ret ?_;refine then_r ?_;refine rnd_r ?_;refine then_r ?_;obtain rfl := Option.some.inj hy10;have hx := hx11 _ rfl;subst hx;dsimp only at hp;obtain rfl := Option.some.inj hp;refine body_ret (vs := [.int .i64 4]) (by simp only [rvs, f_mult_shape, Option.map_some, g2]) ?_;exact ⟨W, .refl _, hst, rfl⟩
    ·replace hy10 := ifF c24 hy10;refine AM.wp_condF (by simp only [ev_t, ev_c, g25, c24]) ?_;refine AM.wp_skip ?_;refine then_n ?_;refine AM.wp_seq hp0 (AM.wp_reg hp0 ?_);have f25 := fz_ln h21;refine wpo_seg hp0 3 (fun s H' => s.length = 42 ∧ gt s 0 = v_0 ∧ gt s 15 = v_0 ∧ gt s 16 = .int .i64 (t.length : Int) ∧ gt s 17 = .int .i64 (k8 : Int) ∧ gt s 26 = y18 ∧ gt s 27 = .int .i64 (x15.length : Int) ∧ gt s 28 = .int .i64 0 ∧ H = H') (by simp only [↓runs, isCall, ↓reduceIte, ↓gd_true, ↓gd_false, evs, AV.cells, Nat.reduceEqDiff, Nat.reduceLT, reduceCtorEq, Nat.reduceAdd, sy, f25, g0, g4, g15, g16, g17, g25, hl]) ?_;rintro s _ ⟨hl, g0, g15, g16, g17, g26, g27, g28, rfl⟩;refine wpo_nil (then_n ?_);obtain ⟨z32, e33, hy10⟩ := bn hy10;refine range_ref hp0 42 x15.length (fun k x => P_mult_shape_l26 t x15 k) (fun _ x s H' => s.length = 42 ∧ gt s 0 = v_0 ∧ gt s 15 = v_0 ∧ gt s 16 = .int .i64 (t.length : Int) ∧ gt s 17 = .int .i64 (k8 : Int) ∧ gt s 26 = y18 ∧ H = H') (fun _ x s H' => s.length = 42 ∧ gt s 0 = v_0 ∧ gt s 15 = v_0 ∧ gt s 16 = .int .i64 (t.length : Int) ∧ gt s 17 = .int .i64 (k8 : Int) ∧ H = H') e33 (fz_big h21) rfl ?_ ?_ hl g28 g27 ?_ ?_
     ·intro k x s H d v hd h; rcases hd with rfl | rfl | rfl <;> simpa only [gt_other, pt_length, Nat.reduceEqDiff, not_false_eq_true] using h
     ·exact ⟨hl, g0, g15, g16, g17, g26, rfl⟩
     ·intro k28 x27 y29 s H hk hI hl g28 g27 hy30 hx31;change P_mult_shape_l26 t x15 k28 = some y29 at hy30;unfold P_mult_shape_l26 at hy30;obtain ⟨hl, g0, g15, g16, g17, g26, rfl⟩ := hI;refine AM.wp_seq hp0 (AM.wp_reg hp0 ?_);obtain ⟨x35, e36, hy30⟩ := bn hy30;obtain ⟨p37, _, f39, f40, rfl⟩ := fz_at (k := .i64) hst h21 e36 rfl;refine wpo_seg hp0 3 (fun s H' => s.length = 42 ∧ gt s 0 = v_0 ∧ gt s 6 = .int .i64 x35 ∧ gt s 15 = v_0 ∧ gt s 16 = .int .i64 (t.length : Int) ∧ gt s 17 = .int .i64 (k8 : Int) ∧ gt s 26 = y18 ∧ gt s 27 = .int .i64 (x15.length : Int) ∧ gt s 28 = .int .i64 (k28 : Int) ∧ H = H') (by simp only [↓runs, isCall, ↓reduceIte, ↓gd_true, ↓gd_false, evs, AV.cells, Nat.reduceEqDiff, Nat.reduceLT, reduceCtorEq, Nat.reduceAdd, sy, f39, f40, g0, g15, g16, g17, g26, g27, g28, hl]) ?_;rintro s _ ⟨hl, g0, g6, g15, g16, g17, g26, g27, g28, rfl⟩;refine wpo_nil (then_n ?_);refine AM.wp_seq hp0 ?_;obtain ⟨z42, hj43, hy30⟩ := bn hy30;refine AM.wp_regK hp0 (fun s H' => s.length = 42 ∧ gt s 39 = .bool z42 ∧ gt s 0 = v_0 ∧ gt s 15 = v_0 ∧ gt s 16 = .int .i64 (t.length : Int) ∧ gt s 17 = .int .i64 (k8 : Int) ∧ gt s 26 = y18 ∧ gt s 27 = .int .i64 (x15.length : Int) ∧ gt s 28 = .int .i64 (k28 : Int) ∧ H = H') ?_ ?_
      ·rcases Bool.eq_false_or_eq_true (decide (x35 < 0)) with c44 | c44
       ·replace hj43 := ifT c44 hj43;refine wpo_seg hp0 8 (fun s H' => s.length = 42 ∧ gt s 0 = v_0 ∧ gt s 15 = v_0 ∧ gt s 16 = .int .i64 (t.length : Int) ∧ gt s 17 = .int .i64 (k8 : Int) ∧ gt s 26 = y18 ∧ gt s 27 = .int .i64 (x15.length : Int) ∧ gt s 28 = .int .i64 (k28 : Int) ∧ gt s 39 = .bool true ∧ H = H') (by simp only [↓runs, isCall, ↓reduceIte, ↓gd_true, ↓gd_false, evs, AV.cells, Nat.reduceEqDiff, Nat.reduceLT, reduceCtorEq, Nat.reduceAdd, sy, c44, g0, g6, g15, g16, g17, g26, g27, g28, hl]) ?_;rintro s _ ⟨hl, g0, g15, g16, g17, g26, g27, g28, g39, rfl⟩;refine wpo_nil ?_;obtain rfl := Option.some.inj hj43;exact ⟨hl, g39, g0, g15, g16, g17, g26, g27, g28, rfl⟩
       ·replace hj43 := ifF c44 hj43;have f45 := fz_ln h_0;refine wpo_seg hp0 8 (fun s H' => s.length = 42 ∧ gt s 0 = v_0 ∧ gt s 15 = v_0 ∧ gt s 16 = .int .i64 (t.length : Int) ∧ gt s 17 = .int .i64 (k8 : Int) ∧ gt s 26 = y18 ∧ gt s 27 = .int .i64 (x15.length : Int) ∧ gt s 28 = .int .i64 (k28 : Int) ∧ gt s 39 = .bool (decide ((t.length : Int) ≤ x35)) ∧ H = H') (by simp only [↓runs, isCall, ↓reduceIte, ↓gd_true, ↓gd_false, evs, AV.cells, Nat.reduceEqDiff, Nat.reduceLT, reduceCtorEq, Nat.reduceAdd, sy, c44, f45, g0, g6, g15, g16, g17, g26, g27, g28, hl]) ?_;rintro s _ ⟨hl, g0, g15, g16, g17, g26, g27, g28, g39, rfl⟩;refine wpo_nil ?_;obtain rfl := Option.some.inj hj43;exact ⟨hl, g39, g0, g15, g16, g17, g26, g27, g28, rfl⟩
      ·rintro s _ ⟨hl, g39, g0, g15, g16, g17, g26, g27, g28, rfl⟩;refine then_n ?_;rcases Bool.eq_false_or_eq_true (z42) with c47 | c47
       ·replace hy30 := ifT c47 hy30;refine AM.wp_condT (by simp only [ev_t, ev_c, g39, c47]) ?_;refine AM.wp_seq hp0 (AM.wp_reg hp0 ?_);refine wpo_seg hp0 1 (fun s H' => s.length = 42 ∧ gt s 2 = .int .i64 4 ∧ H = H') (by simp only [↓runs, isCall, ↓reduceIte, ↓gd_true, ↓gd_false, evs, AV.cells, Nat.reduceEqDiff, Nat.reduceLT, reduceCtorEq, Nat.reduceAdd, sy, g0, g15, g16, g17, g26, g27, g28, g39, hl]) ?_;rintro s _ ⟨hl, g2, rfl⟩;refine wpo_nil (then_n ?_);refine AM.wp_ret ?_;refine rnd_r ?_;refine rnd_r ?_;refine then_r ?_;obtain rfl := Option.some.inj hy30;have hx := hx31 _ rfl;subst hx;dsimp only at hy10;obtain rfl := Option.some.inj hy10;have hx := hx11 _ rfl;subst hx;dsimp only at hp;obtain rfl := Option.some.inj hp;refine body_ret (vs := [.int .i64 4]) (by simp only [rvs, f_mult_shape, Option.map_some, g2]) ?_;exact ⟨W, .refl _, hst, rfl⟩
       ·replace hy30 := ifF c47 hy30;refine AM.wp_condF (by simp only [ev_t, ev_c, g39, c47]) ?_;refine AM.wp_skip ?_;refine rnd_n ?_;obtain rfl := Option.some.inj hy30;exact ⟨_, rfl, hl, g28, g27, ⟨hl, g0, g15, g16, g17, g26, rfl⟩⟩
     ·rintro x48 s Hn hz hI;replace hI : (fun s H' => s.length = 42 ∧ gt s 0 = v_0 ∧ gt s 15 = v_0 ∧ gt s 16 = .int .i64 (t.length : Int) ∧ gt s 17 = .int .i64 (k8 : Int) ∧ H = H') s Hn := by
       rcases hI with ⟨hI, -⟩ | ⟨_, hI⟩
       ·obtain ⟨hl, g0, g15, g16, g17, g26, e2⟩ := hI;exact ⟨hl, g0, g15, g16, g17, e2⟩
       ·exact hI
      subst hz;dsimp only at hy10 hI;obtain ⟨hl, g0, g15, g16, g17, rfl⟩ := hI;refine rnd_n ?_;obtain rfl := Option.some.inj hy10;exact ⟨_, rfl, hl, g17, g16, ⟨hl, g0, g15, rfl⟩⟩
   ·rintro x50 s Hn hz hI;replace hI : (fun s H' => s.length = 42 ∧ H = H') s Hn := by
     rcases hI with ⟨hI, -⟩ | ⟨_, hI⟩
     ·obtain ⟨hl, g0, g15, e2⟩ := hI;exact ⟨hl, e2⟩
     ·exact hI
    subst hz;dsimp only at hp hI;obtain ⟨hl, rfl⟩ := hI;refine then_n ?_;refine AM.wp_seq hp0 (AM.wp_reg hp0 ?_);refine wpo_seg hp0 1 (fun s H' => s.length = 42 ∧ gt s 2 = .int .i64 0 ∧ H = H') (by simp only [↓runs, isCall, ↓reduceIte, ↓gd_true, ↓gd_false, evs, AV.cells, Nat.reduceEqDiff, Nat.reduceLT, reduceCtorEq, Nat.reduceAdd, sy, hl]) ?_;rintro s _ ⟨hl, g2, rfl⟩;refine wpo_nil (then_n ?_);refine AM.wp_ret ?_;obtain rfl := Option.some.inj hp;refine body_ret (vs := [.int .i64 0]) (by simp only [rvs, f_mult_shape, Option.map_some, g2]) ?_;exact ⟨W, .refl _, hst, rfl⟩

end Go.Proofs.Ytmdpejgnkoneoaa.Pu
set_option maxRecDepth 100000
set_option maxHeartbeats 4000000
namespace Go.Proofs.Ytmdpejgnkoneoaa.Pu
open Go Go.AM Go.Proofs.Ytmdpejgnkoneoaa.Code

noncomputable def P_mult_Validate (t : List (List Int)) : Option (Int) :=
 Option.bind (P_mult_shape t) fun r1 =>
 if !decide (r1 = 0) then
  some r1
 else
  Option.bind (P_mult_failing t) fun r6 =>
  if r6.2.2.2 then
   some 5
  else
   some 0
theorem R_mult_Validate {G : List Frag} {W H : AH} {v_0 : AV} {t : List (List Int)} (hst : St G W H) (h_0 : Rp.rv W v_0 t) {r : Int} (hp : P_mult_Validate t = some r) :
  wpc E0 N_mult_Validate [v_0] H fun rv H' => ∃ W', Wle W W' ∧ St G W' H' ∧ rv = .int .i64 r := by
 refine enterN (F := f_mult_Validate) rfl (Nat.le_of_ble_eq_true rfl) fun s hl hg => ?_;replace hl : s.length = 21 := hl;have g0 : gt s 0 = v_0 := hg 0 (Nat.le_of_ble_eq_true rfl);clear hg;unfold P_mult_Validate at hp;show wp E0 c_mult_Validate s H _;unfold c_mult_Validate;refine AM.wp_seq hp0 (AM.wp_reg hp0 ?_);refine wpo_seg hp0 1 (fun s H' => s.length = 21 ∧ gt s 0 = v_0 ∧ H = H') (by simp only [↓runs, isCall, ↓reduceIte, ↓gd_true, ↓gd_false, evs, AV.cells, Nat.reduceEqDiff, Nat.reduceLT, reduceCtorEq, Nat.reduceAdd, sy, g0, hl]) ?_;rintro s _ ⟨hl, g0, rfl⟩;refine wpo_nil (then_n ?_);refine AM.wp_seq hp0 (AM.wp_seq hp0 (AM.wp_reg hp0 ?_));refine wpo_seg hp0 1 (fun s H' => s.length = 21 ∧ gt s 0 = v_0 ∧ gt s 8 = v_0 ∧ H = H') (by simp only [↓runs, isCall, ↓reduceIte, ↓gd_true, ↓gd_false, evs, AV.cells, Nat.reduceEqDiff, Nat.reduceLT, reduceCtorEq, Nat.reduceAdd, sy, g0, hl]) ?_;rintro s _ ⟨hl, g0, g8, rfl⟩;obtain ⟨r1, e2, hp⟩ := bn hp;refine wpo_callK hp0 rfl (ys := [v_0]) (by simp only [evs, List.map_cons, List.map_nil, ev_t, ev_c, g8]) (R_mult_shape hst h_0 e2) ?_;rintro rv3 H ⟨W, w4, hst, rfl⟩;replace h_0 := Rp.mono w4 h_0;refine wpo_seg hp0 1 (fun s H' => s.length = 21 ∧ gt s 0 = v_0 ∧ gt s 3 = .int .i64 r1 ∧ H = H') (by simp only [↓runs, isCall, ↓reduceIte, ↓gd_true, ↓gd_false, evs, AV.cells, Nat.reduceEqDiff, Nat.reduceLT, reduceCtorEq, Nat.reduceAdd, sy, gt_other, g0, g8, hl]) ?_;rintro s _ ⟨hl, g0, g3, rfl⟩;refine wpo_nil (then_n ?_);refine AM.wp_seq hp0 (AM.wp_reg hp0 ?_);refine wpo_seg hp0 2 (fun s H' => s.length = 21 ∧ gt s 0 = v_0 ∧ gt s 3 = .int .i64 r1 ∧ gt s 11 = .bool (!decide (r1 = 0)) ∧ H = H') (by simp only [↓runs, isCall, ↓reduceIte, ↓gd_true, ↓gd_false, evs, AV.cells, Nat.reduceEqDiff, Nat.reduceLT, reduceCtorEq, Nat.reduceAdd, sy, g0, g3, hl]) ?_;rintro s _ ⟨hl, g0, g3, g11, rfl⟩;refine wpo_nil (then_n ?_);rcases Bool.eq_false_or_eq_true (!decide (r1 = 0)) with c5 | c5
 ·replace hp := ifT c5 hp;refine AM.wp_condT (by simp only [ev_t, ev_c, g11, c5]) ?_;refine AM.wp_seq hp0 (AM.wp_reg hp0 ?_);refine wpo_seg hp0 2 (fun s H' => s.length = 21 ∧ gt s 2 = .int .i64 r1 ∧ H = H') (by simp only [↓runs, isCall, ↓reduceIte, ↓gd_true, ↓gd_false, evs, AV.cells, Nat.reduceEqDiff, Nat.reduceLT, reduceCtorEq, Nat.reduceAdd, sy, g0, g3, g11, hl]) ?_;rintro s _ ⟨hl, g2, rfl⟩;refine wpo_nil (then_n ?_);refine AM.wp_ret ?_;refine then_r ?_;obtain rfl := Option.some.inj hp;refine body_ret (vs := [.int .i64 r1]) (by simp only [rvs, f_mult_Validate, Option.map_some, g2]) ?_;exact ⟨W, w4, hst, rfl⟩
 ·replace hp := ifF c5 hp;refine AM.wp_condF (by simp only [ev_t, ev_c, g11, c5]) ?_;refine AM.wp_skip ?_;refine then_n ?_;refine AM.wp_seq hp0 (AM.wp_seq hp0 (AM.wp_reg hp0 ?_));refine wpo_seg hp0 1 (fun s H' => s.length = 21 ∧ gt s 14 = v_0 ∧ H = H') (by simp only [↓runs, isCall, ↓reduceIte, ↓gd_true, ↓gd_false, evs, AV.cells, Nat.reduceEqDiff, Nat.reduceLT, reduceCtorEq, Nat.reduceAdd, sy, g0, g3, g11, hl]) ?_;rintro s _ ⟨hl, g14, rfl⟩;obtain ⟨r6, e7, hp⟩ := bn hp;refine wpo_callK hp0 rfl (ys := [v_0]) (by simp only [evs, List.map_cons, List.map_nil, ev_t, ev_c, g14]) (R_mult_failing hst h_0 e7) ?_;rintro rv8 H ⟨W, w9, hst, rfl⟩;replace h_0 := Rp.mono w9 h_0;refine wpo_seg hp0 9 (fun s H' => s.length = 21 ∧ gt s 7 = .bool r6.2.2.2 ∧ H = H') (by simp only [↓runs, isCall, ↓reduceIte, ↓gd_true, ↓gd_false, evs, AV.cells, Nat.reduceEqDiff, Nat.reduceLT, reduceCtorEq, Nat.reduceAdd, sy, gt_other, g14, hl]) ?_;rintro s _ ⟨hl, g7, rfl⟩;refine wpo_nil (then_n ?_);refine AM.wp_seq hp0 (AM.wp_reg hp0 ?_);refine wpo_seg hp0 1 (fun s H' => s.length = 21 ∧ gt s 20 = .bool r6.2.2.2 ∧ H = H') (by simp only [↓runs, isCall, ↓reduceIte, ↓gd_true, ↓gd_false, evs, AV.cells, Nat.reduceEqDiff, Nat.reduceLT, reduceCtorEq, Nat.reduceAdd, sy, g7, hl]) ?_;rintro s _ ⟨hl, g20, rfl⟩;refine wpo_nil (then_n ?_);rcases Bool.eq_false_or_eq_true (r6.2.2.2) with c10 | c10
  ·replace hp := ifT c10 hp;refine AM.wp_condT (by simp only [ev_t, ev_c, g20, c10]) ?_;refine AM.wp_seq hp0 (AM.wp_reg hp0 ?_);refine wpo_seg hp0 1 (fun s H' => s.length = 21 ∧ gt s 2 = .int .i64 5 ∧ H = H') (by simp only [↓runs, isCall, ↓reduceIte, ↓gd_true, ↓gd_false, evs, AV.cells, Nat.reduceEqDiff, Nat.reduceLT, reduceCtorEq, Nat.reduceAdd, sy, g20, hl]) ?_;rintro s _ ⟨hl, g2, rfl⟩;refine wpo_nil (then_n ?_);refine AM.wp_ret ?_;refine then_r ?_;obtain rfl := Option.some.inj hp;refine body_ret (vs := [.int .i64 5]) (by simp only [rvs, f_mult_Validate, Option.map_some, g2]) ?_;exact ⟨W, (w4.trans w9), hst, rfl⟩
  ·replace hp := ifF c10 hp;refine AM.wp_condF (by simp only [ev_t, ev_c, g20, c10]) ?_;refine AM.wp_skip ?_;refine then_n ?_;refine AM.wp_seq hp0 (AM.wp_reg hp0 ?_);refine wpo_seg hp0 1 (fun s H' => s.length = 21 ∧ gt s 2 = .int .i64 0 ∧ H = H') (by simp only [↓runs, isCall, ↓reduceIte, ↓gd_true, ↓gd_false, evs, AV.cells, Nat.reduceEqDiff, Nat.reduceLT, reduceCtorEq, Nat.reduceAdd, sy, g20, hl]) ?_;rintro s _ ⟨hl, g2, rfl⟩;refine wpo_nil (then_n ?_);refine AM.wp_ret ?_;obtain rfl := Option.some.inj hp;refine body_ret (vs := [.int .i64 0]) (by simp only [rvs, f_mult_Validate, Option.map_some, g2]) ?_;exact ⟨W, (w4.trans w9), hst, rfl⟩

end Go.Proofs.Ytmdpejgnkoneoaa.Pu
namespace Go.Proofs.Ytmdpejgnkoneoaa.Mt
open Go Go.AM Go.AM.Par Go.Proofs.Ytmdpejgnkoneoaa.Pu

def natT (t : List (List Int)) (i j : Nat) : Nat := ((t.getD i []).getD j 0).toNat
def RowOk (n : Nat) (r : List Int) : Prop := r.length = n ∧ ∀ j, j < n → 0 ≤ r.getD j 0 ∧ r.getD j 0 < n
def Sq (t : List (List Int)) : Prop := ∀ i, i < t.length → RowOk t.length (t.getD i [])
open Classical in
noncomputable def shapeM (t : List (List Int)) : Int := if 400 < t.length then 3 else if t.length = 0 then 4 else if Sq t then 0 else 4

open Classical in
theorem row_look (n : Nat) (r : List Int) (f : Nat → Unit → Option (Lp Unit Int)) (hl : r.length = n)
    (hf : ∀ k, k < n → f k () = Option.bind (if decide (r.getD k 0 < 0) then some true else some (decide ((n : Int) ≤ r.getD k 0))) fun z => if z then some (.ex 4) else some (.go ())) :
    forR r.length f () = some (if RowOk n r then .inl () else .inr 4) := by
  rw [look_const (ok := fun k => 0 ≤ r.getD k 0 ∧ r.getD k 0 < n) (b := 4) fun k hk => by
    rw [hf k (by omega)]
    by_cases h1 : r.getD k 0 < 0
    · have : ¬ (0 ≤ r.getD k 0 ∧ r.getD k 0 < n) := by omega
      simp only [h1, this, Option.bind_some, Option.bind_none, decide_true, decide_false, Bool.not_true, Bool.not_false, Bool.true_and, Bool.and_true, Bool.false_eq_true, if_true, if_false, not_true_eq_false, not_false_eq_true, ite_true, ite_false, Bool.not_eq_true, decide_eq_true_eq, decide_eq_false_iff_not, Bool.not_eq_true', Bool.not_eq_false', Option.getD_some, Option.getD_none, Option.isSome_some, Option.isSome_none, Option.isNone_some, Option.isNone_none, eq_self, forall_const, true_implies, false_implies, implies_true]
    · by_cases h2 : (n : Int) ≤ r.getD k 0
      · have : ¬ (0 ≤ r.getD k 0 ∧ r.getD k 0 < n) := by omega
        simp only [h1, h2, this, Option.bind_some, Option.bind_none, decide_true, decide_false, Bool.not_true, Bool.not_false, Bool.true_and, Bool.and_true, Bool.false_eq_true, if_true, if_false, not_true_eq_false, not_false_eq_true, ite_true, ite_false, Bool.not_eq_true, decide_eq_true_eq, decide_eq_false_iff_not, Bool.not_eq_true', Bool.not_eq_false', Option.getD_some, Option.getD_none, Option.isSome_some, Option.isSome_none, Option.isNone_some, Option.isNone_none, eq_self, forall_const, true_implies, false_implies, implies_true]
      · have : (0 ≤ r.getD k 0 ∧ r.getD k 0 < n) := by omega
        simp only [h1, h2, Option.bind_some, Option.bind_none, decide_true, decide_false, Bool.not_true, Bool.not_false, Bool.true_and, Bool.and_true, Bool.false_eq_true, if_true, if_false, not_true_eq_false, not_false_eq_true, ite_true, ite_false, Bool.not_eq_true, decide_eq_true_eq, decide_eq_false_iff_not, Bool.not_eq_true', Bool.not_eq_false', Option.getD_some, Option.getD_none, Option.isSome_some, Option.isSome_none, Option.isNone_some, Option.isNone_none, eq_self, forall_const, true_implies, false_implies, implies_true]
        rw [if_pos this]]
  rw [hl]
  by_cases h : RowOk n r
  · rw [if_pos h, if_pos h.2]
  · rw [if_neg h, if_neg fun h2 => h ⟨hl, h2⟩]

open Classical in
theorem ref_shape (t : List (List Int)) : P_semigroupref14_Shape t = some (shapeM t) := by
  unfold P_semigroupref14_Shape shapeM
  by_cases h1 : 400 < t.length
  · rw [if_pos (by simp only [decide_eq_true_eq]; omega), if_pos h1]
  · rw [if_neg (by simp only [decide_eq_true_eq]; omega), if_neg h1]
    by_cases h2 : t.length = 0
    · rw [if_pos (by simp only [decide_eq_true_eq]; omega), if_pos h2]
    · rw [if_neg (by simp only [decide_eq_true_eq]; omega), if_neg h2]
      rw [look_const (ok := fun i => RowOk t.length (t.getD i [])) (b := 4) fun k hk => by
        unfold P_semigroupref14_Shape_l6
        rw [gi_lt [] hk]
        simp only [Option.bind_some]
        by_cases h3 : (t.getD k []).length = t.length
        · rw [if_neg (by simp only [h3]; simp), row_look t.length _ _ h3 fun j hj => by
            unfold P_semigroupref14_Shape_l26
            rw [gi_lt (k := j) 0 (by rw [h3]; exact hj)]; rfl]
          by_cases h4 : RowOk t.length (t.getD k [])
          · rw [if_pos h4, if_pos h4]; rfl
          · rw [if_neg h4, if_neg h4]; rfl
        · rw [if_pos (by simp only [Bool.not_eq_true', decide_eq_false_iff_not]; omega), if_neg fun h => h3 h.1]]
      by_cases h : Sq t
      · have h' : ∀ k, k < t.length → RowOk t.length (t.getD k []) := h
        rw [if_pos h', if_pos h]; rfl
      · have h' : ¬ ∀ k, k < t.length → RowOk t.length (t.getD k []) := h
        rw [if_neg h', if_neg h]; rfl
open Classical in
theorem shape (t : List (List Int)) : P_mult_shape t = some (shapeM t) := by
  unfold P_mult_shape shapeM
  by_cases h1 : 400 < t.length
  · rw [if_pos (by simp only [decide_eq_true_eq]; omega), if_pos h1]
  · rw [if_neg (by simp only [decide_eq_true_eq]; omega), if_neg h1]
    by_cases h2 : t.length = 0
    · rw [if_pos (by simp only [decide_eq_true_eq]; omega), if_pos h2]
    · rw [if_neg (by simp only [decide_eq_true_eq]; omega), if_neg h2]
      rw [look_const (ok := fun i => RowOk t.length (t.getD i [])) (b := 4) fun k hk => by
        unfold P_mult_shape_l6
        rw [gi_lt [] hk]
        simp only [Option.bind_some]
        by_cases h3 : (t.getD k []).length = t.length
        · rw [if_neg (by simp only [h3]; simp), row_look t.length _ _ h3 fun j hj => by
            unfold P_mult_shape_l26
            rw [gi_lt (k := j) 0 (by rw [h3]; exact hj)]; rfl]
          by_cases h4 : RowOk t.length (t.getD k [])
          · rw [if_pos h4, if_pos h4]; rfl
          · rw [if_neg h4, if_neg h4]; rfl
        · rw [if_pos (by simp only [Bool.not_eq_true', decide_eq_false_iff_not]; omega), if_neg fun h => h3 h.1]]
      by_cases h : Sq t
      · have h' : ∀ k, k < t.length → RowOk t.length (t.getD k []) := h
        rw [if_pos h', if_pos h]; rfl
      · have h' : ¬ ∀ k, k < t.length → RowOk t.length (t.getD k []) := h
        rw [if_neg h', if_neg h]; rfl

structure Tab (t : List (List Int)) (n : Nat) (T : Nat → Nat → Nat) : Prop where
  len : t.length = n
  pos : 0 < n
  le : n ≤ 400
  row : ∀ x, x < n → (t.getD x []).length = n
  at_ : ∀ x y, x < n → y < n → (t.getD x []).getD y 0 = (T x y : Int)
  lt : ∀ x y, x < n → y < n → T x y < n
theorem shape_tab {t : List (List Int)} : shapeM t = 0 ↔ Tab t t.length (natT t) := by
  unfold shapeM
  constructor
  · intro h
    split at h
    · omega
    · split at h
      · omega
      · split at h
        · rename_i h1 h2 h3
          refine ⟨rfl, by omega, by omega, fun x hx => (h3 x hx).1, fun x y hx hy => ?_, fun x y hx hy => ?_⟩
          · unfold natT; rw [Int.toNat_of_nonneg ((h3 x hx).2 y hy).1]
          · have := (h3 x hx).2 y hy; unfold natT; omega
        · omega
  · intro h
    have h1 := h.pos; have h2 := h.le
    rw [if_neg (by omega), if_neg (by omega), if_pos]
    exact fun x hx => ⟨h.row x hx, fun y hy => by have := h.lt x y hx hy; rw [h.at_ x y hx hy]; omega⟩
def Assoc (n : Nat) (T : Nat → Nat → Nat) : Prop := ∀ x y z, x < n → y < n → z < n → T (T x y) z = T x (T y z)
theorem Tab.gi1 {t : List (List Int)} {n : Nat} {T : Nat → Nat → Nat} (h : Tab t n T) {x : Nat} (hx : x < n) : gi t (x : Int) = some (t.getD x []) := gi_lt [] (by rw [h.len]; exact hx)
theorem Tab.gi2 {t : List (List Int)} {n : Nat} {T : Nat → Nat → Nat} (h : Tab t n T) {x y : Nat} (hx : x < n) (hy : y < n) : gi (t.getD x []) (y : Int) = some (T x y : Int) := by
  rw [gi_lt 0 (by rw [h.row x hx]; exact hy), h.at_ x y hx hy]
open Classical in
noncomputable def validM (t : List (List Int)) : Int := if shapeM t = 0 then (if Assoc t.length (natT t) then 0 else 5) else shapeM t

open Classical in
theorem failing {t : List (List Int)} {n : Nat} {T : Nat → Nat → Nat} (h : Tab t n T) : ∃ x y z, P_mult_failing t = some (x, y, z, !decide (Assoc n T)) := by
  unfold P_mult_failing
  have h3 : ∀ x y z, x < n → y < n → z < n → P_mult_failing_l22 x y t z = some (if T (T x y) z = T x (T y z) then .go () else .ex ((x : Int), (y : Int), (z : Int), true)) := fun x y z hx hy hz => by
    unfold P_mult_failing_l22
    have l1 := h.lt x y hx hy; have l2 := h.lt y z hy hz
    rw [h.gi1 hx]; simp only [Option.bind_some]
    rw [h.gi2 hx hy]; simp only [Option.bind_some]
    rw [h.gi1 l1]; simp only [Option.bind_some]
    rw [h.gi2 l1 hz]; simp only [Option.bind_some]
    rw [h.gi1 hy]; simp only [Option.bind_some]
    rw [h.gi2 hy hz]; simp only [Option.bind_some]
    rw [h.gi2 hx l2]; simp only [Option.bind_some]
    by_cases e : T (T x y) z = T x (T y z)
    · rw [if_pos e, if_neg (by simp only [Bool.not_eq_true', decide_eq_false_iff_not]; omega)]
    · rw [if_neg e, if_pos (by simp only [Bool.not_eq_true', decide_eq_false_iff_not]; omega)]
  have h2 : ∀ x y, x < n → y < n → (P_mult_failing_l12 x t y = some (.go ()) ∧ ∀ z, z < n → T (T x y) z = T x (T y z)) ∨ ∃ z, z < n ∧ T (T x y) z ≠ T x (T y z) ∧ P_mult_failing_l12 x t y = some (.ex ((x : Int), (y : Int), (z : Int), true)) := fun x y hx hy => by
    unfold P_mult_failing_l12
    rcases look_loop (n := t.length) (f := fun k x_1 => P_mult_failing_l22 x y t k) (ok := fun z => T (T x y) z = T x (T y z)) (e := fun z => ((x : Int), (y : Int), (z : Int), true)) (fun k hk => h3 x y k hx hy (by rw [← h.len]; exact hk)) with ⟨a, b⟩ | ⟨z, a, b, c⟩
    · exact .inl ⟨by rw [b]; rfl, by rw [h.len] at a; exact a⟩
    · exact .inr ⟨z, by rw [← h.len]; exact a, b, by rw [c]; rfl⟩
  have h1 : ∀ x, x < n → (P_mult_failing_l2 t x = some (.go ()) ∧ ∀ y z, y < n → z < n → T (T x y) z = T x (T y z)) ∨ ∃ q : Int × Int × Int, (∃ y z, y < n ∧ z < n ∧ T (T x y) z ≠ T x (T y z)) ∧ P_mult_failing_l2 t x = some (.ex (q.1, q.2.1, q.2.2, true)) := fun x hx => by
    unfold P_mult_failing_l2
    obtain ⟨y, hy, hQ⟩ := forR_inv (n := t.length) (f := fun k x_1 => P_mult_failing_l12 x t k) (x := ()) (fun k _ => ∀ y z, y < k → y < n → z < n → T (T x y) z = T x (T y z))
      (fun o => (o = .inl () ∧ ∀ y z, y < n → z < n → T (T x y) z = T x (T y z)) ∨ ∃ q : Int × Int × Int, (∃ y z, y < n ∧ z < n ∧ T (T x y) z ≠ T x (T y z)) ∧ o = .inr (q.1, q.2.1, q.2.2, true)) (fun y z hy => by omega)
      (fun k _ hk hP => by
        have hk' : k < n := by rw [← h.len]; exact hk
        rcases h2 x k hx hk' with ⟨a, b⟩ | ⟨z, a, b, c⟩
        · refine .inl ⟨(), a, fun y z hy hy2 hz => ?_⟩
          rcases Nat.lt_or_ge y k with h5 | h5
          · exact hP y z h5 hy2 hz
          · have : y = k := by omega
            subst this; exact b z hz
        · exact .inr (.inr ⟨_, c, .inr ⟨((x : Int), (k : Int), (z : Int)), ⟨k, z, hk', a, b⟩, rfl⟩⟩))
      (fun _ hP => .inl ⟨rfl, fun y z hy hz => hP y z (by rw [h.len]; exact hy) hy hz⟩)
    rw [hy]
    rcases hQ with ⟨rfl, a⟩ | ⟨q, a, rfl⟩
    · exact .inl ⟨rfl, a⟩
    · exact .inr ⟨q, a, rfl⟩
  obtain ⟨y, hy, hQ⟩ := forR_inv (n := t.length) (f := fun k x_1 => P_mult_failing_l2 t k) (x := ()) (fun k _ => ∀ x y z, x < k → x < n → y < n → z < n → T (T x y) z = T x (T y z))
    (fun o => (o = .inl () ∧ Assoc n T) ∨ ∃ q : Int × Int × Int, ¬ Assoc n T ∧ o = .inr (q.1, q.2.1, q.2.2, true)) (fun x y z hx => by omega)
    (fun k _ hk hP => by
      have hk' : k < n := by rw [← h.len]; exact hk
      rcases h1 k hk' with ⟨a, b⟩ | ⟨q, ⟨y, z, a, b, c⟩, d⟩
      · refine .inl ⟨(), a, fun x y z hx hx2 hy hz => ?_⟩
        rcases Nat.lt_or_ge x k with h5 | h5
        · exact hP x y z h5 hx2 hy hz
        · have : x = k := by omega
          subst this; exact b y z hy hz
      · exact .inr (.inr ⟨_, d, .inr ⟨q, fun hA => c (hA k y z hk' a b), rfl⟩⟩))
    (fun _ hP => .inl ⟨rfl, fun x y z hx hy hz => hP x y z (by rw [h.len]; exact hx) hx hy hz⟩)
  rw [hy]
  rcases hQ with ⟨rfl, a⟩ | ⟨q, a, rfl⟩
  · exact ⟨0, 0, 0, by rw [decide_eq_true a]; rfl⟩
  · exact ⟨q.1, q.2.1, q.2.2, by rw [decide_eq_false a]; rfl⟩

open Classical in
theorem validate (t : List (List Int)) : P_mult_Validate t = some (validM t) := by
  unfold P_mult_Validate validM
  rw [shape]
  simp only [Option.bind_some]
  by_cases h : shapeM t = 0
  · rw [if_neg (by simp [h]), if_pos h]
    obtain ⟨x, y, z, e⟩ := failing (shape_tab.1 h)
    rw [e]
    simp only [Option.bind_some]
    by_cases hA : Assoc t.length (natT t)
    · rw [decide_eq_true hA, if_pos hA]; rfl
    · rw [decide_eq_false hA, if_neg hA]; rfl
  · rw [if_pos (by simp [h]), if_neg h]

open Classical in
theorem ref_associative (t : List (List Int)) : ∃ x y z, P_semigroupref14_Associative t = some (x, y, z, validM t) := by
  unfold P_semigroupref14_Associative validM
  rw [ref_shape]
  simp only [Option.bind_some]
  by_cases hs : shapeM t = 0
  · rw [if_neg (by simp [hs]), if_pos hs]
    have h := shape_tab.1 hs
    generalize natT t = T at h ⊢
    have hn : t.length = t.length := rfl
    generalize hN : t.length = n at h ⊢
    have h3 : ∀ x y z, x < n → y < n → z < n → P_semigroupref14_Associative_l27 x y t z = some (if T (T x y) z = T x (T y z) then .go () else .ex ((x : Int), (y : Int), (z : Int), 5)) := fun x y z hx hy hz => by
      unfold P_semigroupref14_Associative_l27
      have l1 := h.lt x y hx hy; have l2 := h.lt y z hy hz
      rw [h.gi1 hx]; simp only [Option.bind_some]
      rw [h.gi2 hx hy]; simp only [Option.bind_some]
      rw [h.gi1 l1]; simp only [Option.bind_some]
      rw [h.gi2 l1 hz]; simp only [Option.bind_some]
      rw [h.gi1 hy]; simp only [Option.bind_some]
      rw [h.gi2 hy hz]; simp only [Option.bind_some]
      rw [h.gi2 hx l2]; simp only [Option.bind_some]
      by_cases e : T (T x y) z = T x (T y z)
      · rw [if_pos e, if_neg (by simp only [Bool.not_eq_true', decide_eq_false_iff_not]; omega)]
      · rw [if_neg e, if_pos (by simp only [Bool.not_eq_true', decide_eq_false_iff_not]; omega)]
    have h2 : ∀ x y, x < n → y < n → (P_semigroupref14_Associative_l17 x t y = some (.go ()) ∧ ∀ z, z < n → T (T x y) z = T x (T y z)) ∨ ∃ z, z < n ∧ T (T x y) z ≠ T x (T y z) ∧ P_semigroupref14_Associative_l17 x t y = some (.ex ((x : Int), (y : Int), (z : Int), 5)) := fun x y hx hy => by
      unfold P_semigroupref14_Associative_l17
      rcases look_loop (n := t.length) (f := fun k x_1 => P_semigroupref14_Associative_l27 x y t k) (ok := fun z => T (T x y) z = T x (T y z)) (e := fun z => ((x : Int), (y : Int), (z : Int), (5 : Int))) (fun k hk => h3 x y k hx hy (by rw [← h.len]; exact hk)) with ⟨a, b⟩ | ⟨z, a, b, c⟩
      · exact .inl ⟨by rw [b]; rfl, by rw [h.len] at a; exact a⟩
      · exact .inr ⟨z, by rw [← h.len]; exact a, b, by rw [c]; rfl⟩
    have h1 : ∀ x, x < n → (P_semigroupref14_Associative_l7 t x = some (.go ()) ∧ ∀ y z, y < n → z < n → T (T x y) z = T x (T y z)) ∨ ∃ q : Int × Int × Int, (∃ y z, y < n ∧ z < n ∧ T (T x y) z ≠ T x (T y z)) ∧ P_semigroupref14_Associative_l7 t x = some (.ex (q.1, q.2.1, q.2.2, 5)) := fun x hx => by
      unfold P_semigroupref14_Associative_l7
      obtain ⟨y, hy, hQ⟩ := forR_inv (n := t.length) (f := fun k x_1 => P_semigroupref14_Associative_l17 x t k) (x := ()) (fun k _ => ∀ y z, y < k → y < n → z < n → T (T x y) z = T x (T y z))
        (fun o => (o = .inl () ∧ ∀ y z, y < n → z < n → T (T x y) z = T x (T y z)) ∨ ∃ q : Int × Int × Int, (∃ y z, y < n ∧ z < n ∧ T (T x y) z ≠ T x (T y z)) ∧ o = .inr (q.1, q.2.1, q.2.2, 5)) (fun y z hy => by omega)
        (fun k _ hk hP => by
          have hk' : k < n := by rw [← h.len]; exact hk
          rcases h2 x k hx hk' with ⟨a, b⟩ | ⟨z, a, b, c⟩
          · refine .inl ⟨(), a, fun y z hy hy2 hz => ?_⟩
            rcases Nat.lt_or_ge y k with h5 | h5
            · exact hP y z h5 hy2 hz
            · have : y = k := by omega
              subst this; exact b z hz
          · exact .inr (.inr ⟨_, c, .inr ⟨((x : Int), (k : Int), (z : Int)), ⟨k, z, hk', a, b⟩, rfl⟩⟩))
        (fun _ hP => .inl ⟨rfl, fun y z hy hz => hP y z (by rw [h.len]; exact hy) hy hz⟩)
      rw [hy]
      rcases hQ with ⟨rfl, a⟩ | ⟨q, a, rfl⟩
      · exact .inl ⟨rfl, a⟩
      · exact .inr ⟨q, a, rfl⟩
    obtain ⟨y, hy, hQ⟩ := forR_inv (n := t.length) (f := fun k x_1 => P_semigroupref14_Associative_l7 t k) (x := ()) (fun k _ => ∀ x y z, x < k → x < n → y < n → z < n → T (T x y) z = T x (T y z))
      (fun o => (o = .inl () ∧ Assoc n T) ∨ ∃ q : Int × Int × Int, ¬ Assoc n T ∧ o = .inr (q.1, q.2.1, q.2.2, 5)) (fun x y z hx => by omega)
      (fun k _ hk hP => by
        have hk' : k < n := by rw [← h.len]; exact hk
        rcases h1 k hk' with ⟨a, b⟩ | ⟨q, ⟨y, z, a, b, c⟩, d⟩
        · refine .inl ⟨(), a, fun x y z hx hx2 hy hz => ?_⟩
          rcases Nat.lt_or_ge x k with h5 | h5
          · exact hP x y z h5 hx2 hy hz
          · have : x = k := by omega
            subst this; exact b y z hy hz
        · exact .inr (.inr ⟨_, d, .inr ⟨q, fun hA => c (hA k y z hk' a b), rfl⟩⟩))
      (fun _ hP => .inl ⟨rfl, fun x y z hx hy hz => hP x y z (by rw [h.len]; exact hx) hx hy hz⟩)
    rw [← h.len, hy]
    rw [h.len]
    rcases hQ with ⟨rfl, a⟩ | ⟨q, a, rfl⟩
    · exact ⟨0, 0, 0, by rw [if_pos a]; rfl⟩
    · exact ⟨q.1, q.2.1, q.2.2, by rw [if_neg a]; rfl⟩
  · rw [if_pos (by simp [hs]), if_neg hs]
    exact ⟨0, 0, 0, rfl⟩
theorem ref_validate (t : List (List Int)) : P_semigroupref14_Validate t = some (validM t) := by
  unfold P_semigroupref14_Validate
  obtain ⟨x, y, z, e⟩ := ref_associative t
  rw [e]; rfl
theorem ref_Valid (t : List (List Int)) : P_semigroupref14_Valid t = some (decide (validM t = 0)) := by
  unfold P_semigroupref14_Valid
  rw [ref_validate]; rfl

structure Sg (t : List (List Int)) (n : Nat) (T : Nat → Nat → Nat) : Prop extends Tab t n T where
  assoc : Assoc n T
theorem valid_sg {t : List (List Int)} : validM t = 0 ↔ Sg t t.length (natT t) := by
  unfold validM
  constructor
  · intro h
    split at h
    · rename_i h1
      split at h
      · rename_i h2; exact ⟨shape_tab.1 h1, h2⟩
      · omega
    · rename_i h1; exact absurd h h1
  · intro h
    rw [if_pos (shape_tab.2 h.toTab), if_pos h.assoc]
theorem Sg.valid {t : List (List Int)} {n : Nat} {T : Nat → Nat → Nat} (h : Sg t n T) : validM t = 0 := by
  have hl := h.len
  subst hl
  refine valid_sg.2 ⟨⟨rfl, h.pos, h.le, h.row, fun x y hx hy => ?_, fun x y hx hy => ?_⟩, ?_⟩
  · unfold natT; rw [h.at_ x y hx hy]; simp
  · unfold natT; rw [h.at_ x y hx hy]; simpa using h.lt x y hx hy
  · have e : ∀ x y, x < t.length → y < t.length → natT t x y = T x y := fun x y hx hy => by unfold natT; rw [h.at_ x y hx hy]; simp
    intro x y z hx hy hz
    have l1 := h.lt x y hx hy; have l2 := h.lt y z hy hz
    rw [e x y hx hy, e y z hy hz, e _ z l1 hz, e x _ hx l2]
    exact h.assoc x y z hx hy hz
end Go.Proofs.Ytmdpejgnkoneoaa.Mt
set_option maxRecDepth 100000
set_option maxHeartbeats 4000000
namespace Go.Proofs.Ytmdpejgnkoneoaa.Pu
open Go Go.AM Go.Proofs.Ytmdpejgnkoneoaa.Code

noncomputable def P_congr_forest_find_l1 (x9 : Int) (x10 : List Int) : Option (Lp (Int × (List Int)) (Empty)) :=
 Option.bind (gi x10 x9) fun x14 =>
 if !decide (x14 = x9) then
  Option.bind (gi x10 x14) fun x22 =>
  Option.bind (si x10 x9 x22) fun x29 =>
  Option.bind (gi x29 x9) fun x37 =>
  some (.go (x37, x29))
 else
  some (.br (x9, x10))
noncomputable def P_congr_forest_find (f : List Int) (x_ : Int) : Option (Int × (List Int)) :=
 Option.bind (loopO (fun x => P_congr_forest_find_l1 x.1 x.2) (x_, f)) fun z7 =>
 match z7 with
 | .inl x44 =>
  some (x44.1, x44.2)
 | .inr b => b.elim
theorem R_congr_forest_find {G : List Frag} {W H : AH} {v_0 : AV} {g_0 : Frag} {f : List Int} {x_ : Int} (hst : St (g_0 :: G) W H) (o_0 : OwS W v_0 g_0 f) {r : Int × (List Int)} (hp : P_congr_forest_find f x_ = some r) :
  wpc E0 N_congr_forest_find [v_0, .int .i64 x_] H fun rv H' => ∃ W', Wle W W' ∧ ∃ (gi0 : Frag), St (gi0 :: G) W' H' ∧ rv = .int .i64 r.1 ∧ OwS W' v_0 gi0 r.2 := by
 refine enterN (F := f_congr_forest_find) rfl (Nat.le_of_ble_eq_true rfl) fun s hl hg => ?_;replace hl : s.length = 26 := hl;have g0 : gt s 0 = v_0 := hg 0 (Nat.le_of_ble_eq_true rfl);have g1 : gt s 1 = .int .i64 x_ := hg 1 (Nat.le_of_ble_eq_true rfl);clear hg;unfold P_congr_forest_find at hp;show wp E0 c_congr_forest_find s H _;unfold c_congr_forest_find;refine AM.wp_seq hp0 (AM.wp_reg hp0 ?_);refine wpo_seg hp0 1 (fun s H' => s.length = 26 ∧ gt s 0 = v_0 ∧ gt s 1 = .int .i64 x_ ∧ H = H') (by simp only [↓runs, isCall, ↓reduceIte, ↓gd_true, ↓gd_false, evs, AV.cells, Nat.reduceEqDiff, Nat.reduceLT, reduceCtorEq, Nat.reduceAdd, sy, g0, g1, hl]) ?_;rintro s _ ⟨hl, g0, g1, rfl⟩;refine wpo_nil (then_n ?_);refine AM.wp_seq hp0 ?_;obtain ⟨z7, e8, hp⟩ := bn hp;refine loop_ref hp0 (fun x => P_congr_forest_find_l1 x.1 x.2) (fun x s H' => ∃ (W' : AH) (qo1 : Frag), s.length = 26 ∧ gt s 1 = .int .i64 x.1 ∧ gt s 0 = v_0 ∧  Wle W W' ∧ St (qo1 :: G) W' H' ∧ OwS W' v_0 qo1 (x.2 : List Int)) (fun x s H' => ∃ (W' : AH) (qo1 : Frag), s.length = 26 ∧ gt s 1 = .int .i64 x.1 ∧  Wle W W' ∧ St (qo1 :: G) W' H' ∧ OwS W' v_0 qo1 (x.2 : List Int)) e8 ?_ ?_ ?_
 ·exact ⟨W, _, hl, g1, g0, .refl _, hst, o_0⟩
 ·intro x2 y4 s H hI hy5 hx6;obtain ⟨x9, x10⟩ := x2;dsimp only at hI;change P_congr_forest_find_l1 x9 x10 = some y4 at hy5;unfold P_congr_forest_find_l1 at hy5;obtain ⟨W, fg12, hl, g1, g0, w11, hst, o13⟩ := hI;refine AM.wp_seq hp0 (AM.wp_seq hp0 (AM.wp_reg hp0 ?_));obtain ⟨x14, e15, hy5⟩ := bn hy5;obtain ⟨p16, _, f18, f19, rfl⟩ := ow_at (k := .i64) hst (.head _) o13 e15 rfl;refine wpo_seg hp0 6 (fun s H' => s.length = 26 ∧ gt s 0 = v_0 ∧ gt s 1 = .int .i64 x9 ∧ gt s 10 = .bool (!decide (x14 = x9)) ∧ H = H') (by simp only [↓runs, isCall, ↓reduceIte, ↓gd_true, ↓gd_false, evs, AV.cells, Nat.reduceEqDiff, Nat.reduceLT, reduceCtorEq, Nat.reduceAdd, sy, f18, f19, g0, g1, hl]) ?_;rintro s _ ⟨hl, g0, g1, g10, rfl⟩;refine wpo_nil (then_n ?_);rcases Bool.eq_false_or_eq_true (!decide (x14 = x9)) with c21 | c21
  ·replace hy5 := ifT c21 hy5;refine AM.wp_condT (by simp only [ev_t, ev_c, g10, c21]) ?_;refine AM.wp_skip ?_;refine then_n ?_;refine AM.wp_block ?_;refine AM.wp_seq hp0 (AM.wp_reg hp0 ?_);obtain ⟨x22, e23, hy5⟩ := bn hy5;obtain ⟨p24, _, f26, f27, rfl⟩ := ow_at (k := .i64) hst (.head _) o13 e23 rfl;obtain ⟨x29, e30, hy5⟩ := bn hy5;obtain ⟨p31, H32, fg33, f34, f35, hst, o36⟩ := ow_set (k := .i64) 1 rfl hst o13 (show Rp.rv W (.int .i64 x22) (x22 : Int) from rfl) e30;obtain rfl := Option.some.inj (f34.symm.trans f18);refine wpo_seg hp0 11 (fun s H' => s.length = 26 ∧ gt s 0 = v_0 ∧ gt s 1 = .int .i64 x9 ∧ H32 = H') (by simp only [↓runs, isCall, ↓reduceIte, ↓gd_true, ↓gd_false, evs, AV.cells, Nat.reduceEqDiff, Nat.reduceLT, reduceCtorEq, Nat.reduceAdd, sy, f18, f19, f26, f27, f34, f35, g0, g1, g10, hl]) ?_;rintro s _ ⟨hl, g0, g1, rfl⟩;refine wpo_nil (then_n ?_);refine AM.wp_reg hp0 ?_;obtain ⟨x37, e38, hy5⟩ := bn hy5;obtain ⟨p39, _, f41, f42, rfl⟩ := ow_at (k := .i64) hst (.head _) o36 e38 rfl;obtain rfl := Option.some.inj (f41.symm.trans f34);refine wpo_seg hp0 5 (fun s H' => s.length = 26 ∧ gt s 0 = v_0 ∧ gt s 1 = .int .i64 x37 ∧ H32 = H') (by simp only [↓runs, isCall, ↓reduceIte, ↓gd_true, ↓gd_false, evs, AV.cells, Nat.reduceEqDiff, Nat.reduceLT, reduceCtorEq, Nat.reduceAdd, sy, f41, f42, g0, g1, hl]) ?_;rintro s _ ⟨hl, g0, g1, rfl⟩;refine wpo_nil ?_;refine blk_n ?_;refine then_n ?_;obtain rfl := Option.some.inj hy5;exact ⟨_, rfl, ⟨W, _, hl, g1, g0, w11, hst, o36⟩⟩
  ·replace hy5 := ifF c21 hy5;refine AM.wp_condF (by simp only [ev_t, ev_c, g10, c21]) ?_;refine AM.wp_exit ?_;refine then_x ?_;refine then_x (rnd_c rfl ?_);obtain rfl := Option.some.inj hy5;exact ⟨_, rfl, ⟨W, _, hl, g1, w11, hst, o13⟩⟩
 ·rintro x44 s H hz hI;subst hz;dsimp only at hp hI;obtain ⟨W, fg46, hl, g1, w45, hst, o47⟩ := hI;refine then_n ?_;refine AM.wp_seq hp0 (AM.wp_reg hp0 ?_);refine wpo_seg hp0 2 (fun s H' => s.length = 26 ∧ gt s 4 = .int .i64 x44.1 ∧ H = H') (by simp only [↓runs, isCall, ↓reduceIte, ↓gd_true, ↓gd_false, evs, AV.cells, Nat.reduceEqDiff, Nat.reduceLT, reduceCtorEq, Nat.reduceAdd, sy, g1, hl]) ?_;rintro s _ ⟨hl, g4, rfl⟩;refine wpo_nil (then_n ?_);refine AM.wp_ret ?_;obtain rfl := Option.some.inj hp;refine body_ret (vs := [.int .i64 x44.1]) (by simp only [rvs, f_congr_forest_find, Option.map_some, g4]) ?_;exact ⟨W, w45, _, hst, rfl, o47⟩

end Go.Proofs.Ytmdpejgnkoneoaa.Pu
namespace Go.Proofs.Ytmdpejgnkoneoaa.Pu
open Go Go.AM Go.Proofs.Ytmdpejgnkoneoaa.Code

noncomputable def P_congr_forest_findF (R : List Int) (x : Int) : Option Int := gi R x

theorem congr_forest_find_pure {F R : List Int} {d : Nat → Nat} {x r : Int} (h : FoI F R d) (hx : gi R x = some r) : ∃ F', P_congr_forest_find F x = some (r, F') ∧ FoI F' R d := by
 obtain ⟨j, rfl, hj, rfl⟩ := gi_some hx
 have key : ∃ y, loopO (fun x => P_congr_forest_find_l1 x.1 x.2) ((j : Int), F) = some y ∧ ∃ q : Int × List Int, y = .inl q ∧ q.1 = R[j] ∧ FoI q.2 R d := by
  refine loop_inv (fun (q : Int × List Int) => ∃ x : Nat, q.1 = x ∧ x < q.2.length ∧ FoI q.2 R d ∧ R[x]? = R[j]?) (fun (q : Int × List Int) => d q.1.toNat)
   (fun o => ∃ q : Int × List Int, o = .inl q ∧ q.1 = R[j] ∧ FoI q.2 R d) ⟨j, rfl, by rw [h.len]; exact hj, h, rfl⟩ ?_
  rintro ⟨x, F⟩ ⟨x, rfl, hx, h, hR⟩
  dsimp only at hx h ⊢
  obtain ⟨p, h1, h2, h3, h4, h5⟩ := h.at_ x hx
  obtain ⟨q, k1, k2, k3, k4, k5⟩ := h.at_ p h2
  have g1 : gi F (x : Int) = some (p : Int) := by unfold gi; rw [if_pos (by omega)]; simpa using h1
  have g2 : gi F (p : Int) = some (q : Int) := by unfold gi; rw [if_pos (by omega)]; simpa using k1
  have g3 : si F (x : Int) (q : Int) = some (F.set x q) := by unfold si; rw [if_pos ⟨by omega, by omega⟩]; simp
  have g4 : gi (F.set x (q : Int)) (x : Int) = some (q : Int) := by unfold gi; rw [if_pos (by omega)]; simp [hx]
  unfold P_congr_forest_find_l1
  simp only [g1, Option.bind_some, g2, g3, g4]
  by_cases e : p = x
  ·refine .inr (.inl ⟨((x : Int), F), by simp [e], _, rfl, ?_, h⟩)
   have := h5 e
   rw [hR, List.getElem?_eq_getElem hj] at this
   exact (Option.some.inj this).symm
  ·refine .inl ⟨_, by rw [if_pos (by simp; omega)], ⟨q, rfl, by simpa using k2, h.half hx h1 k1, by rw [k4, h4, hR]⟩, ?_⟩
   have a1 := h3 e
   simp only [Int.toNat_natCast]
   by_cases e2 : q = p
   ·rw [e2]; exact a1
   ·have := k3 e2; omega
 obtain ⟨y, hy, q, rfl, h1, h2⟩ := key
 exact ⟨q.2, by unfold P_congr_forest_find; rw [hy]; simp [h1], h2⟩

theorem R_congr_forest_findF {G : List Frag} {W H : AH} {v_0 : AV} {g_0 : Frag} {R : List Int} {x_ : Int} (hst : St (g_0 :: G) W H) (o_0 : OwF W v_0 g_0 R) {r : Int} (hp : P_congr_forest_findF R x_ = some r) :
  wpc E0 N_congr_forest_find [v_0, .int .i64 x_] H fun rv H' => ∃ W', Wle W W' ∧ ∃ (gi0 : Frag), St (gi0 :: G) W' H' ∧ rv = .int .i64 r ∧ OwF W' v_0 gi0 R := by
 obtain ⟨F, d, h1, h2⟩ := o_0;obtain ⟨F', h3, h4⟩ := congr_forest_find_pure h2 hp;refine wpc_mono hp0 (R_congr_forest_find hst h1 h3) ?_;rintro rv H' ⟨W', hw, g, a1, a2, a3⟩;exact ⟨W', hw, g, a1, a2, F', d, a3, h4⟩
end Go.Proofs.Ytmdpejgnkoneoaa.Pu
