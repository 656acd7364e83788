/- Part 10 of the proof that the law SubdirectTurned holds: words and lemmas it rests on. No condition. -/
import Derived.Test.YtmdpejgnkoneoaaT8
import Derived.Test.YtmdpejgnkoneoaaT9
import Derived.Test.YtmdpejgnkoneoaaT5
import Derived.Test.YtmdpejgnkoneoaaT6
import Derived.Test.YtmdpejgnkoneoaaT7
set_option linter.unusedSimpArgs false
set_option linter.unusedVariables false
set_option linter.unnecessarySimpa false
set_option linter.unusedSectionVars false
namespace Go.Proofs.Ytmdpejgnkoneoaa.Mt
open Go Go.AM Go.AM.Par Go.AM.Cg Go.AM.Lx Go.Proofs.Ytmdpejgnkoneoaa.Pu

def Mon (n : Nat) (T : Nat → Nat → Nat) (u v : Nat) : Prop := ∀ a b, a < n → b < n → a ≠ b → Gen n T 0 [(a, b)] u v
theorem gen_swap {n : Nat} {T : Nat → Nat → Nat} {sd : Int} {a b u v : Nat} (h : Gen n T sd [(a, b)] u v) : Gen n T sd [(b, a)] u v :=
  fun θ hθ h0 => h θ hθ fun p hp => by
    have := h0 (b, a) (by simp)
    simp only [List.mem_singleton] at hp
    subst hp
    exact hθ.symm _ _ this
def MonTo (n : Nat) (T : Nat → Nat → Nat) (k x : Nat) (u v : Nat) : Prop := ∀ a b, (b < k ∨ (b = k ∧ a < x)) → a < b → b < n → Gen n T 0 [(a, b)] u v
theorem monTo_all {n : Nat} {T : Nat → Nat → Nat} {u v : Nat} : MonTo n T n 0 u v ↔ Mon n T u v := by
  constructor
  · intro h a b ha hb hne
    rcases Nat.lt_or_gt_of_ne hne with h5 | h5
    · exact h a b (.inl hb) h5 hb
    · exact gen_swap (h b a (.inl ha) h5 ha)
  · intro h a b _ hab hb
    exact h a b (by omega) hb (by omega)

open Classical in
theorem monolith {t : List (List Int)} {n : Nat} {T : Nat → Nat → Nat} (h : Sg t n T) :
    (P_subdirect_monolith t = some none ∧ (n < 2 ∨ Disc n (Mon n T))) ∨ ∃ p, P_subdirect_monolith t = some (some p) ∧ 2 ≤ n ∧ ¬ Disc n (Mon n T) ∧ IsP n (Mon n T) p := by
  have h400 := h.le
  unfold P_subdirect_monolith
  rw [h.len]
  by_cases hn : n < 2
  · rw [if_pos (by simp only [decide_eq_true_eq]; omega)]
    exact .inl ⟨rfl, .inl hn⟩
  · rw [if_neg (by simp only [decide_eq_true_eq]; omega), trivial' (by omega)]
    simp only [Option.bind_some]
    -- one row
    have row : ∀ k p, k < n → IsP n (MonTo n T k 0) p → ¬ Disc n (MonTo n T k 0) → (P_subdirect_monolith_l11 t k p = some (.ex none) ∧ Disc n (Mon n T)) ∨ ∃ q, P_subdirect_monolith_l11 t k p = some (.go q) ∧ IsP n (MonTo n T (k + 1) 0) q ∧ ¬ Disc n (MonTo n T (k + 1) 0) := fun k p hk hp hd => by
      have key : ∃ o, loopO (fun x => P_subdirect_monolith_l24 k t x.1 x.2) (p, 0) = some o ∧ ((o = .inr none ∧ Disc n (Mon n T)) ∨ ∃ q, o = .inl (q, (k : Int)) ∧ IsP n (MonTo n T (k + 1) 0) q ∧ ¬ Disc n (MonTo n T (k + 1) 0)) := by
        refine loop_inv (fun q : List Int × Int => ∃ x : Nat, q.2 = x ∧ x ≤ k ∧ IsP n (MonTo n T k x) q.1 ∧ ¬ Disc n (MonTo n T k x)) (fun q => k - q.2.toNat) _ ⟨0, rfl, Nat.zero_le _, hp, hd⟩ ?_
        rintro ⟨q, _⟩ ⟨x, rfl, hx, hq, hd⟩
        dsimp only at hq ⊢
        unfold P_subdirect_monolith_l24
        by_cases hxk : x < k
        · rw [if_pos (by simp only [decide_eq_true_eq]; omega)]
          obtain ⟨g, e1, g1⟩ := Generated (sd := 0) h ⟨by omega, by omega⟩ (P0 := [(x, k)]) (fun p hp => by simp only [List.mem_singleton] at hp; subst hp; exact ⟨by omega, hk⟩) (by simp)
          have e1' : P_congr_Generated t [((x : Int), (k : Int))] 0 = some g := e1
          rw [e1']
          simp only [Option.bind_some]
          obtain ⟨m, e2, m1⟩ := meet hq g1 (by omega)
          rw [e2]
          simp only [Option.bind_some]
          have m2 : IsP n (MonTo n T k (x + 1)) m := m1.mono fun u v hu hv => by
            constructor
            · rintro ⟨a1, a2⟩ a b hc hab hb
              by_cases e : b = k ∧ a = x
              · rw [e.1, e.2]; exact a2
              · exact a1 a b (by omega) hab hb
            · intro a1
              exact ⟨fun a b hc hab hb => a1 a b (by omega) hab hb, a1 x k (.inr ⟨rfl, by omega⟩) hxk hk⟩
          rw [discrete m2 (by omega)]
          simp only [Option.bind_some]
          by_cases hdd : Disc n (MonTo n T k (x + 1))
          · rw [decide_eq_true hdd]
            refine .inr (.inr ⟨none, rfl, .inl ⟨rfl, fun u v hu hv huv => hdd u v hu hv fun a b _ hab hb => huv a b (by omega) hb (by omega)⟩⟩)
          · rw [decide_eq_false hdd]
            have hw : w64 ((x : Int) + 1) = ((x + 1 : Nat) : Int) := by rw [w64_id (by omega) (by omega)]; simp
            refine .inl ⟨_, rfl, ⟨x + 1, hw, by omega, m2, hdd⟩, ?_⟩
            simp only [hw, Int.toNat_natCast]; omega
        · have : x = k := by omega
          subst this
          rw [if_neg (by simp only [decide_eq_true_eq]; omega)]
          have e : ∀ u v, u < n → v < n → (MonTo n T x x u v ↔ MonTo n T (x + 1) 0 u v) := fun u v _ _ => by
            constructor
            · intro a1 a b hc hab hb; exact a1 a b (by omega) hab hb
            · intro a1 a b hc hab hb; exact a1 a b (by omega) hab hb
          refine .inr (.inl ⟨_, rfl, .inr ⟨q, rfl, hq.mono e, fun hd2 => hd fun u v hu hv huv => hd2 u v hu hv ((e u v hu hv).1 huv)⟩⟩)
      obtain ⟨o, ho, hQ⟩ := key
      unfold P_subdirect_monolith_l11
      rw [ho]
      rcases hQ with ⟨rfl, a⟩ | ⟨q, rfl, a, b⟩
      · exact .inl ⟨rfl, a⟩
      · exact .inr ⟨q, rfl, a, b⟩
    obtain ⟨o, ho, hQ⟩ := forR_inv (n := n) (f := fun k x => P_subdirect_monolith_l11 t k x) (x := List.replicate n 0) (fun k p => IsP n (MonTo n T k 0) p ∧ ¬ Disc n (MonTo n T k 0))
      (fun o => (o = .inr none ∧ Disc n (Mon n T)) ∨ ∃ p, o = .inl p ∧ ¬ Disc n (Mon n T) ∧ IsP n (Mon n T) p)
      ⟨(rep_isP n).mono fun u v _ _ => ⟨fun _ a b hc => by omega, fun _ => trivial⟩, fun hd => by
        have := hd 0 1 (by omega) (by omega) (fun a b hc => by omega); omega⟩
      (fun k p hk ⟨h1, h2⟩ => by
        rcases row k p hk h1 h2 with ⟨a, b⟩ | ⟨q, a, b, c⟩
        · exact .inr (.inr ⟨none, a, .inl ⟨rfl, b⟩⟩)
        · exact .inl ⟨q, a, b, c⟩)
      (fun p ⟨h1, h2⟩ => .inr ⟨p, rfl, fun hd => h2 fun u v hu hv huv => hd u v hu hv (monTo_all.1 huv), h1.mono fun u v _ _ => monTo_all⟩)
    rw [ho]
    simp only [Option.bind_some]
    rcases hQ with ⟨rfl, a⟩ | ⟨p, rfl, a, b⟩
    · exact .inl ⟨rfl, .inr a⟩
    · refine .inr ⟨p, ?_, by omega, a, b⟩
      have : p ≠ [] := fun e => by have := b.len; rw [e] at this; simp at this; omega
      show Option.bind (nzl p) _ = _
      unfold nzl
      rw [if_neg this]; rfl

open Classical in
theorem irreducible {t : List (List Int)} {n : Nat} {T : Nat → Nat → Nat} (h : Sg t n T) :
    (P_subdirect_Irreducible t = some ([], false) ∧ (n < 2 ∨ Disc n (Mon n T))) ∨ ∃ p, P_subdirect_Irreducible t = some (p, true) ∧ 2 ≤ n ∧ ¬ Disc n (Mon n T) ∧ IsP n (Mon n T) p := by
  unfold P_subdirect_Irreducible
  rw [validate, h.valid]
  simp only [Option.bind_some, Option.bind_none, decide_true, decide_false, Bool.not_true, Bool.not_false, Bool.true_and, Bool.and_true, Bool.false_eq_true, if_true, if_false, not_true_eq_false, not_false_eq_true, ite_true, ite_false, Bool.not_eq_true, decide_eq_true_eq, decide_eq_false_iff_not, Bool.not_eq_true', Bool.not_eq_false', Option.getD_some, Option.getD_none, Option.isSome_some, Option.isSome_none, Option.isNone_some, Option.isNone_none, eq_self, forall_const, true_implies, false_implies, implies_true]
  rcases monolith h with ⟨a, b⟩ | ⟨p, a, b, c, d⟩
  · rw [a]; exact .inl ⟨rfl, b⟩
  · rw [a]; exact .inr ⟨p, rfl, b, c, d⟩

theorem principal {t : List (List Int)} {n : Nat} {T : Nat → Nat → Nat} (h : Tab t n T) :
    ∃ l, P_semigroupref19_Principal t = some l ∧ Asc l ∧ (∀ p, p ∈ l ↔ ∃ x y, x < n ∧ y < x ∧ IsP n (Gen n T 0 [(x, y)]) p) ∧ l.length ≤ n * n := by
  have h400 := h.le
  unfold P_semigroupref19_Principal
  rw [h.len]
  have row : ∀ k (l : List (List Int)), k < n → Asc l → l.length + (n - k) * n ≤ n * n → ∃ l', P_semigroupref19_Principal_l2 t k l = some l' ∧ Asc l' ∧ (∀ p, p ∈ l' ↔ p ∈ l ∨ ∃ y, y < k ∧ IsP n (Gen n T 0 [(k, y)]) p) ∧ l'.length ≤ l.length + k := fun k l hk hl hb => by
    have key : ∃ o, loopO (fun x => P_semigroupref19_Principal_l14 k t x.1 x.2) (l, 0) = some o ∧ ∃ q : List (List Int) × Int, o = .inl q ∧ Asc q.1 ∧ (∀ p, p ∈ q.1 ↔ p ∈ l ∨ ∃ y, y < k ∧ IsP n (Gen n T 0 [(k, y)]) p) ∧ q.1.length ≤ l.length + k := by
      refine loop_inv (fun q : List (List Int) × Int => ∃ y : Nat, q.2 = y ∧ y ≤ k ∧ Asc q.1 ∧ (∀ p, p ∈ q.1 ↔ p ∈ l ∨ ∃ y', y' < y ∧ IsP n (Gen n T 0 [(k, y')]) p) ∧ q.1.length ≤ l.length + y) (fun q => k - q.2.toNat) _ ⟨0, rfl, Nat.zero_le _, hl, fun p => by simp, by simp⟩ ?_
      rintro ⟨q, _⟩ ⟨y, rfl, hy, a1, a2, a3⟩
      dsimp only at a1 a2 a3 ⊢
      unfold P_semigroupref19_Principal_l14
      by_cases hyk : y < k
      · rw [if_pos (by simp only [decide_eq_true_eq]; omega)]
        obtain ⟨g, e1, g1⟩ := ref_Generated (sd := 0) h (P0 := [(k, y)]) (fun p hp => by simp only [List.mem_singleton] at hp; subst hp; exact ⟨hk, by omega⟩)
        have e1' : P_semigroupref19_Generated t [((k : Int), (y : Int))] 0 = some g := e1
        rw [e1']
        simp only [Option.bind_some]
        have hnn : n * n ≤ 400 * 400 := Nat.mul_le_mul h400 h400
        obtain ⟨r, e2, r1, r2, r3⟩ := insertRow (x := g) a1 (by rw [g1.len]; omega) (by omega)
        rw [e2]
        have hw : w64 ((y : Int) + 1) = ((y + 1 : Nat) : Int) := by rw [w64_id (by omega) (by omega)]; simp
        refine .inl ⟨_, rfl, ⟨y + 1, hw, by omega, r1, fun p => ?_, by dsimp only; omega⟩, by simp only [hw, Int.toNat_natCast]; omega⟩
        dsimp only
        rw [r2, a2]
        constructor
        · rintro (rfl | b | ⟨y', b, c⟩)
          · exact .inr ⟨y, by omega, g1⟩
          · exact .inl b
          · exact .inr ⟨y', by omega, c⟩
        · rintro (b | ⟨y', b, c⟩)
          · exact .inr (.inl b)
          · rcases Nat.lt_or_ge y' y with h5 | h5
            · exact .inr (.inr ⟨y', h5, c⟩)
            · have : y' = y := by omega
              subst this
              exact .inl (c.unique g1 fun _ _ _ _ => Iff.rfl)
      · have : y = k := by omega
        subst this
        rw [if_neg (by simp only [decide_eq_true_eq]; omega)]
        exact .inr (.inl ⟨_, rfl, _, rfl, a1, a2, a3⟩)
    obtain ⟨o, ho, q, rfl, h1, h2, h3⟩ := key
    unfold P_semigroupref19_Principal_l2
    rw [ho]
    exact ⟨q.1, rfl, h1, h2, h3⟩
  obtain ⟨l, hl, h1, h2, h3⟩ := forS_inv (n := n) (f := fun k x => P_semigroupref19_Principal_l2 t k x) (x := []) (fun k l => Asc l ∧ (∀ p, p ∈ l ↔ ∃ x y, x < k ∧ y < x ∧ IsP n (Gen n T 0 [(x, y)]) p) ∧ l.length + (n - k) * n ≤ n * n)
    ⟨List.Pairwise.nil, fun p => by simp, by simp⟩ (fun k l hk ⟨a1, a2, a3⟩ => by
      obtain ⟨l', e, b1, b2, b3⟩ := row k l hk a1 a3
      refine ⟨l', e, b1, fun p => ?_, ?_⟩
      · rw [b2, a2]
        constructor
        · rintro (⟨x, y, c1, c2, c3⟩ | ⟨y, c1, c2⟩)
          · exact ⟨x, y, by omega, c2, c3⟩
          · exact ⟨k, y, by omega, c1, c2⟩
        · rintro ⟨x, y, c1, c2, c3⟩
          rcases Nat.lt_or_ge x k with h5 | h5
          · exact .inl ⟨x, y, h5, c2, c3⟩
          · have : x = k := by omega
            subst this; exact .inr ⟨y, c2, c3⟩
      · have : (n - k) * n = (n - (k + 1)) * n + n := by
          rw [show n - k = (n - (k + 1)) + 1 by omega, Nat.add_mul, Nat.one_mul]
        omega)
  rw [hl]
  exact ⟨l, rfl, h1, h2, by omega⟩

def MinIn (l : List (List Int)) (n : Nat) (p : List Int) : Prop := ∀ q ∈ l, q = p ∨ ¬ ∀ x y, x < n → y < n → q.getD x 0 = q.getD y 0 → p.getD x 0 = p.getD y 0
open Classical in
theorem ref_minimal {t : List (List Int)} {n : Nat} {T : Nat → Nat → Nat} (h : Tab t n T) :
    ∃ l, P_semigroupref19_Principal t = some l ∧ Asc l ∧ (∀ p, p ∈ l ↔ ∃ x y, x < n ∧ y < x ∧ IsP n (Gen n T 0 [(x, y)]) p) ∧ P_semigroupref19_Minimal t = some (l.filter fun p => decide (MinIn l n p)) := by
  have h400 := h.le
  obtain ⟨l, e, a1, a2, a3⟩ := principal h
  refine ⟨l, e, a1, a2, ?_⟩
  have hnn : n * n ≤ 400 * 400 := Nat.mul_le_mul h400 h400
  unfold P_semigroupref19_Minimal
  rw [e]
  simp only [Option.bind_some]
  have isp : ∀ p ∈ l, IsP n (fun x y => p.getD x 0 = p.getD y 0) p := fun p hp => by
    obtain ⟨x, y, _, _, c⟩ := (a2 p).1 hp
    exact ⟨c.len, c.can, fun _ _ _ _ => Iff.rfl⟩
  have inner : ∀ p ∈ l, forS l.length (fun k x => P_semigroupref19_Minimal_l29 l p k x) true = some (decide (MinIn l n p)) := fun p hp => by
    obtain ⟨b, hb, hQ⟩ := forS_inv (n := l.length) (f := fun k x => P_semigroupref19_Minimal_l29 l p k x) (x := true) (fun k b => b = decide (∀ i, i < k → (l.getD i []) = p ∨ ¬ ∀ x y, x < n → y < n → (l.getD i []).getD x 0 = (l.getD i []).getD y 0 → p.getD x 0 = p.getD y 0))
      (by rw [decide_eq_true]; intro i hi; omega) (fun k b hk hb => by
        unfold P_semigroupref19_Minimal_l29
        rw [gi_lt [] hk]
        simp only [Option.bind_some]
        have hm := getD_mem (d := ([] : List Int)) hk
        cases b with
        | false =>
          simp only [Bool.false_eq_true, if_false, Option.bind_some]
          refine ⟨_, rfl, ?_⟩
          rw [decide_eq_false]
          intro h1
          have := of_decide_eq_false hb.symm
          exact this fun i hi => h1 i (by omega)
        | true =>
          have hb' := of_decide_eq_true hb.symm
          simp only [if_true]
          rw [same]
          simp only [Option.bind_some]
          by_cases e : p = l.getD k []
          · rw [if_pos (by simp only [← e, decide_true])]
            refine ⟨_, rfl, ?_⟩
            rw [decide_eq_true]
            intro i hi
            rcases Nat.lt_or_ge i k with h5 | h5
            · exact hb' i h5
            · have : i = k := by omega
              subst this; exact .inl e.symm
          · rw [if_neg (by simp only [e, decide_false]; exact Bool.false_ne_true), ref_refines (isp _ hm) (isp p hp)]
            simp only [Option.bind_some]
            refine ⟨_, rfl, ?_⟩
            rw [Bool.eq_iff_iff]
            simp only [Bool.not_eq_true', decide_eq_false_iff_not, decide_eq_true_eq]
            constructor
            · intro h1 i hi
              rcases Nat.lt_or_ge i k with h5 | h5
              · exact hb' i h5
              · have : i = k := by omega
                subst this; exact .inr h1
            · intro h1
              rcases h1 k (by omega) with h2 | h2
              · exact absurd h2.symm e
              · exact h2)
    rw [hb, hQ]
    congr 1
    rw [Bool.eq_iff_iff]
    simp only [decide_eq_true_eq]
    unfold MinIn
    constructor
    · intro h1 q hq
      obtain ⟨k, hk, rfl⟩ := mem_getD (d := []) hq
      exact h1 k hk
    · intro h1 i hi; exact h1 _ (getD_mem hi)
  obtain ⟨r, hr, hQ⟩ := forS_inv (n := l.length) (f := fun k x => P_semigroupref19_Minimal_l7 l k x) (x := []) (fun k r => r = (l.take k).filter fun p => decide (MinIn l n p)) (by simp) (fun k r hk hr => by
    unfold P_semigroupref19_Minimal_l7
    rw [gi_lt [] hk]
    simp only [Option.bind_some]
    have hm := getD_mem (d := ([] : List Int)) hk
    rw [inner _ hm]
    simp only [Option.bind_some]
    have htake : l.take (k + 1) = l.take k ++ [l.getD k []] := by rw [List.take_add_one]; simp [List.getD_eq_getElem?_getD, hk]
    have hlen : r.length ≤ l.length := by rw [hr]; exact Nat.le_trans (List.length_filter_le _ _) (by simp; omega)
    by_cases hM : MinIn l n (l.getD k [])
    · rw [decide_eq_true hM]
      simp only [if_true]
      rw [pus_ok (by simp; omega) (by omega)]
      refine ⟨_, rfl, ?_⟩
      rw [htake, List.filter_append, hr, List.filter_cons_of_pos (by simpa using hM)]
      simp
    · rw [decide_eq_false hM]
      simp only [Bool.false_eq_true, if_false]
      refine ⟨_, rfl, ?_⟩
      rw [htake, List.filter_append, hr, List.filter_cons_of_neg (by simpa using hM)]
      simp)
  rw [hr, hQ, List.take_length]; rfl

theorem mono_gen {n : Nat} {T : Nat → Nat → Nat} {a b u v : Nat} (h : Mon n T a b) (h2 : Gen n T 0 [(a, b)] u v) : Mon n T u v :=
  fun c d hc hd hne => Gen.least Gen.cgr (fun p hp => by simp only [List.mem_singleton] at hp; subst hp; exact h c d hc hd hne) h2
theorem has_min {n : Nat} {l : List (List Int)} (hlen : ∀ p ∈ l, p.length = n) (hcan : ∀ p ∈ l, canonI p = p) : ∀ (m : Nat) (q : List Int), q ∈ l → n - cls n q ≤ m → ∃ p ∈ l, MinIn l n p ∧ ∀ x y, x < n → y < n → p.getD x 0 = p.getD y 0 → q.getD x 0 = q.getD y 0 := by
  intro m
  induction m with
  | zero =>
    intro q hq hm
    refine ⟨q, hq, fun r hr => ?_, fun _ _ _ _ h => h⟩
    by_cases e : r = q
    · exact .inl e
    · refine .inr fun hh => e ?_
      have hc : cls n q = n := by have := cls_le n q; omega
      -- q is discrete, so r is
      have hd : ∀ x y, x < n → y < n → q.getD x 0 = q.getD y 0 → x = y := fun x y hx hy e => by
        have full : ∀ k, k < n → newB q k = true := fun k hk => by
          refine Classical.byContradiction fun hc2 => ?_
          have : cls n q < n := by
            have := List.length_filter_lt_length_iff_exists (l := List.range n) (p := newB q)
            unfold Cg.cls
            have h3 := this.2 ⟨k, by simpa using hk, hc2⟩
            simpa using h3
          omega
        rcases Nat.lt_trichotomy x y with h5 | h5 | h5
        · exact absurd e (newB_iff.1 (full y hy) x h5)
        · exact h5
        · exact absurd e.symm (newB_iff.1 (full x hx) y h5)
      rw [← hcan r hr, ← hcan q hq]
      exact canonI_unique (by rw [hlen r hr, hlen q hq]) fun i j hi hj => by
        rw [hlen r hr] at hi hj
        exact ⟨hh i j hi hj, fun e => by rw [hd i j hi hj e]⟩
  | succ m ih =>
    intro q hq hm
    by_cases hmin : MinIn l n q
    · exact ⟨q, hq, hmin, fun _ _ _ _ h => h⟩
    · have : ∃ r ∈ l, r ≠ q ∧ ∀ x y, x < n → y < n → r.getD x 0 = r.getD y 0 → q.getD x 0 = q.getD y 0 := by
        refine Classical.byContradiction fun hc => hmin fun r hr => ?_
        by_cases e : r = q
        · exact .inl e
        · exact .inr fun hh => hc ⟨r, hr, e, hh⟩
      obtain ⟨r, hr, hne, hrq⟩ := this
      have hlt : cls n q < cls n r := by
        -- a pair that q joins and r does not
        have : ∃ x y, x < n ∧ y < n ∧ q.getD x 0 = q.getD y 0 ∧ r.getD x 0 ≠ r.getD y 0 := by
          refine Classical.byContradiction fun hc => hne ?_
          rw [← hcan r hr, ← hcan q hq]
          exact canonI_unique (by rw [hlen r hr, hlen q hq]) fun i j hi hj => by
            rw [hlen r hr] at hi hj
            exact ⟨hrq i j hi hj, fun e => Classical.byContradiction fun h => hc ⟨i, j, hi, hj, e, h⟩⟩
        obtain ⟨x, y, hx, hy, e1, e2⟩ := this
        -- the least point of the class of r that is no least point of q
        have first : ∀ k, k < n → ∃ f, f ≤ k ∧ r.getD f 0 = r.getD k 0 ∧ isNew r f := by
          intro k
          induction k using Nat.strongRecOn with
          | ind k ihk =>
            intro hk
            by_cases h : isNew r k
            · exact ⟨k, Nat.le_refl _, rfl, h⟩
            · have : ∃ q, q < k ∧ r.getD q 0 = r.getD k 0 := Classical.byContradiction fun hc => h fun q hq e => hc ⟨q, hq, e⟩
              obtain ⟨q, hq, e⟩ := this
              obtain ⟨f, h1, h2, h3⟩ := ihk q hq (by omega)
              exact ⟨f, by omega, h2.trans e, h3⟩
        obtain ⟨a, a1, a2, a3⟩ := first x hx
        obtain ⟨b, b1, b2, b3⟩ := first y hy
        have hab : q.getD a 0 = q.getD b 0 := ((hrq a x (by omega) hx a2).trans e1).trans (hrq b y (by omega) hy b2).symm
        have hne2 : a ≠ b := by rintro rfl; exact e2 (a2.symm.trans b2)
        refine filter_lt (fun k hk h => ?_) ?_
        · rw [newB_iff] at h ⊢
          intro i hi e
          have hkn := List.mem_range.1 hk
          exact h i hi (hrq i k (by omega) hkn e)
        · rcases Nat.lt_or_gt_of_ne hne2 with h5 | h5
          · refine ⟨b, List.mem_range.2 (by omega), newB_iff.2 b3, ?_⟩
            cases hn : newB q b
            · rfl
            · exact absurd hab (newB_iff.1 hn a h5)
          · refine ⟨a, List.mem_range.2 (by omega), newB_iff.2 a3, ?_⟩
            cases hn : newB q a
            · rfl
            · exact absurd hab.symm (newB_iff.1 hn b h5)
      obtain ⟨p, p1, p2, p3⟩ := ih r hr (by omega)
      exact ⟨p, p1, p2, fun x y hx hy e => hrq x y hx hy (p3 x y hx hy e)⟩

open Classical in
theorem ref_irreducible {t : List (List Int)} {n : Nat} {T : Nat → Nat → Nat} (h : Sg t n T) :
    (P_semigroupref22_Irreducible t = some ([], false) ∧ (n < 2 ∨ Disc n (Mon n T))) ∨ ∃ p, P_semigroupref22_Irreducible t = some (p, true) ∧ 2 ≤ n ∧ ¬ Disc n (Mon n T) ∧ IsP n (Mon n T) p := by
  unfold P_semigroupref22_Irreducible
  rw [ref_Valid, h.valid, h.len]
  simp only [Option.bind_some, Option.bind_none, decide_true, decide_false, Bool.not_true, Bool.not_false, Bool.true_and, Bool.and_true, Bool.false_eq_true, if_true, if_false, not_true_eq_false, not_false_eq_true, ite_true, ite_false, Bool.not_eq_true, decide_eq_true_eq, decide_eq_false_iff_not, Bool.not_eq_true', Bool.not_eq_false', Option.getD_some, Option.getD_none, Option.isSome_some, Option.isSome_none, Option.isNone_some, Option.isNone_none, eq_self, forall_const, true_implies, false_implies, implies_true]
  by_cases hn : n < 2
  · have c1 : decide ((n : Int) < 2) = true := by simp only [decide_eq_true_eq]; omega
    rw [c1]
    exact .inl ⟨rfl, .inl hn⟩
  · have c1 : decide ((n : Int) < 2) = false := by simp only [decide_eq_false_iff_not]; omega
    simp only [c1, Bool.true_eq_false, Bool.false_eq_true, if_false, Option.bind_some]
    obtain ⟨l, e, a1, a2, a3⟩ := ref_minimal h.toTab
    rw [a3]
    simp only [Option.bind_some]
    have hlen : ∀ p ∈ l, p.length = n := fun p hp => by obtain ⟨x, y, _, _, c⟩ := (a2 p).1 hp; exact c.len
    have hcan : ∀ p ∈ l, canonI p = p := fun p hp => by obtain ⟨x, y, _, _, c⟩ := (a2 p).1 hp; exact c.can
    have gp : ∀ a b, a < n → b < n → a ≠ b → ∃ p ∈ l, IsP n (Gen n T 0 [(a, b)]) p := fun a b ha hb hne => by
      rcases Nat.lt_or_gt_of_ne hne with h5 | h5
      · obtain ⟨r, _, r1⟩ := ref_Generated (sd := 0) h.toTab (P0 := [(b, a)]) (fun p hp => by simp only [List.mem_singleton] at hp; subst hp; exact ⟨hb, ha⟩)
        exact ⟨r, (a2 r).2 ⟨b, a, hb, h5, r1⟩, r1.mono fun _ _ _ _ => ⟨gen_swap, gen_swap⟩⟩
      · obtain ⟨r, _, r1⟩ := ref_Generated (sd := 0) h.toTab (P0 := [(a, b)]) (fun p hp => by simp only [List.mem_singleton] at hp; subst hp; exact ⟨ha, hb⟩)
        exact ⟨r, (a2 r).2 ⟨a, b, ha, h5, r1⟩, r1⟩
    by_cases hd : Disc n (Mon n T)
    · -- more than one, or none
      left
      refine ⟨?_, .inr hd⟩
      by_cases hlen1 : ((l.filter fun p => decide (MinIn l n p)).length : Int) = 1
      · exfalso
        obtain ⟨p, hp⟩ : ∃ p, l.filter (fun p => decide (MinIn l n p)) = [p] := List.length_eq_one_iff.1 (by omega)
        have hpm : p ∈ l := (List.mem_filter.1 (by rw [hp]; simp : p ∈ l.filter fun p => decide (MinIn l n p))).1
        -- p refines all
        have all : ∀ q ∈ l, ∀ x y, x < n → y < n → p.getD x 0 = p.getD y 0 → q.getD x 0 = q.getD y 0 := fun q hq => by
          obtain ⟨r, r1, r2, r3⟩ := has_min hlen hcan _ q hq (Nat.le_refl _)
          have : r ∈ l.filter fun p => decide (MinIn l n p) := List.mem_filter.2 ⟨r1, by simpa using r2⟩
          rw [hp, List.mem_singleton] at this
          subst this; exact r3
        obtain ⟨x, y, hx, hyx, c⟩ := (a2 p).1 hpm
        have : Mon n T x y := fun a b ha hb hne => by
          obtain ⟨q, q1, q2⟩ := gp a b ha hb hne
          exact (q2.ker x y hx (by omega)).1 (all q q1 x y hx (by omega) ((c.ker x y hx (by omega)).2 (Gen.has (p := (x, y)) (List.mem_singleton.2 rfl))))
        have := hd x y hx (by omega) this
        omega
      · simp only [hlen1, not_false_eq_true, if_true]
    · right
      have : ∃ a b, a < n ∧ b < n ∧ a ≠ b ∧ Mon n T a b := by
        refine Classical.byContradiction fun hc => hd fun u v hu hv huv => Classical.byContradiction fun hne => hc ⟨u, v, hu, hv, hne, huv⟩
      obtain ⟨a, b, ha, hb, hne, hab⟩ := this
      obtain ⟨p, p1, p2⟩ := gp a b ha hb hne
      have pm : IsP n (Mon n T) p := p2.mono fun u v hu hv => ⟨fun h => mono_gen hab h, fun h => h a b ha hb hne⟩
      -- p refines all of them
      have all : ∀ q ∈ l, ∀ x y, x < n → y < n → p.getD x 0 = p.getD y 0 → q.getD x 0 = q.getD y 0 := fun q hq x y hx hy e => by
        obtain ⟨c, d, hc, hdc, k⟩ := (a2 q).1 hq
        exact (k.ker x y hx hy).2 ((pm.ker x y hx hy).1 e c d hc (by omega) (by omega))
      have hfil : l.filter (fun p => decide (MinIn l n p)) = [p] := by
        refine asc_unique (List.Pairwise.sublist List.filter_sublist a1) (List.pairwise_singleton _ _) fun q => ?_
        rw [List.mem_filter, List.mem_singleton, decide_eq_true_eq]
        constructor
        · rintro ⟨q1, q2⟩
          rcases q2 p p1 with e | e
          · exact e.symm
          · exact absurd (all q q1) e
        · rintro rfl
          refine ⟨p1, fun r hr => ?_⟩
          by_cases e : r = q
          · exact .inl e
          · refine .inr fun hh => e ?_
            rw [← hcan r hr, ← hcan q p1]
            exact canonI_unique (by rw [hlen r hr, hlen q p1]) fun i j hi hj => by
              rw [hlen r hr] at hi hj
              exact ⟨hh i j hi hj, all r hr i j hi hj⟩
      refine ⟨p, ?_, by omega, hd, pm⟩
      rw [hfil]
      simp only [List.length_singleton]
      rfl
end Go.Proofs.Ytmdpejgnkoneoaa.Mt
set_option maxRecDepth 100000
set_option maxHeartbeats 4000000
namespace Go.Proofs.Ytmdpejgnkoneoaa.Pu
open Go Go.AM Go.Proofs.Ytmdpejgnkoneoaa.Code

noncomputable def P_congr_firsts_l2 (p_ : List Int) (k5 : Nat) (x4 : List Int) : Option ((List Int)) :=
 Option.bind (gi p_ (k5 : Int)) fun x16 =>
 if decide (x16 = (x4.length : Int)) then
  Option.bind (pus 8 x4 [(k5 : Int)]) fun x37 =>
  some x37
 else
  some x4
noncomputable def P_congr_firsts (p_ : List Int) : Option ((List Int)) :=
 Option.bind (forS p_.length (fun k x => P_congr_firsts_l2 p_ k x) []) fun z9 =>
 some z9
theorem R_congr_firsts {G : List Frag} {W H : AH} {v_0 : AV} {p_ : List Int} (hst : St G W H) (h_0 : Rp.rv W v_0 p_) {r : (List Int)} (hp : P_congr_firsts p_ = some r) :
  wpc E0 N_congr_firsts [v_0] H fun rv H' => ∃ W', Wle W W' ∧ ∃ (g0 : Frag), St (g0 :: G) W' H' ∧ OwS W' rv g0 (r : List Int) := by
 refine enterN (F := f_congr_firsts) rfl (Nat.le_of_ble_eq_true rfl) fun s hl hg => ?_;replace hl : s.length = 23 := hl;have g0 : gt s 0 = v_0 := hg 0 (Nat.le_of_ble_eq_true rfl);clear hg;unfold P_congr_firsts at hp;show wp E0 c_congr_firsts s H _;unfold c_congr_firsts;refine AM.wp_seq hp0 (AM.wp_reg hp0 ?_);refine wpo_seg hp0 1 (fun s H' => s.length = 23 ∧ gt s 0 = v_0 ∧ H = H') (by simp only [↓runs, isCall, ↓reduceIte, ↓gd_true, ↓gd_false, evs, AV.cells, Nat.reduceEqDiff, Nat.reduceLT, reduceCtorEq, Nat.reduceAdd, sy, g0, hl]) ?_;rintro s _ ⟨hl, g0, rfl⟩;refine wpo_nil (then_n ?_);refine AM.wp_seq hp0 (AM.wp_reg hp0 ?_);refine wpo_seg hp0 1 (fun s H' => s.length = 23 ∧ gt s 0 = v_0 ∧ gt s 3 = .nils ∧ H = H') (by simp only [↓runs, isCall, ↓reduceIte, ↓gd_true, ↓gd_false, evs, AV.cells, Nat.reduceEqDiff, Nat.reduceLT, reduceCtorEq, Nat.reduceAdd, sy, g0, hl]) ?_;rintro s _ ⟨hl, g0, g3, rfl⟩;refine wpo_nil (then_n ?_);refine AM.wp_seq hp0 (AM.wp_seq hp0 (AM.wp_reg hp0 ?_));have f1 := fz_ln h_0;refine wpo_seg hp0 3 (fun s H' => s.length = 23 ∧ gt s 3 = .nils ∧ gt s 6 = v_0 ∧ gt s 7 = .int .i64 (p_.length : Int) ∧ gt s 8 = .int .i64 0 ∧ H = H') (by simp only [↓runs, isCall, ↓reduceIte, ↓gd_true, ↓gd_false, evs, AV.cells, Nat.reduceEqDiff, Nat.reduceLT, reduceCtorEq, Nat.reduceAdd, sy, f1, g0, g3, hl]) ?_;rintro s _ ⟨hl, g3, g6, g7, g8, rfl⟩;refine wpo_nil (then_n ?_);replace hst := hst.nil;have o3 := ow_nil (α := Int) W;obtain ⟨z9, e10, hp⟩ := bn hp;refine rangeS_ref hp0 23 p_.length (fun k x => P_congr_firsts_l2 p_ k x) (fun _ x s H' => ∃ (W' : AH) (w3 : AV) (q3 : Frag), s.length = 23 ∧ gt s 3 = w3 ∧ gt s 6 = v_0 ∧  Wle W W' ∧ St (q3 :: G) W' H' ∧ OwS W' w3 q3 (x : List Int)) e10 (fz_big h_0) rfl ?_ ?_ hl g8 g7 ?_ ?_
 ·intro k x s H d v hd h; rcases hd with rfl | rfl | rfl <;> simpa only [gt_other, pt_length, Nat.reduceEqDiff, not_false_eq_true] using h
 ·exact ⟨W, _, _, hl, g3, g6, .refl _, hst, o3⟩
 ·intro k5 x4 y6 s H hk hI hl g8 g7 hy7;change P_congr_firsts_l2 p_ k5 x4 = some y6 at hy7;unfold P_congr_firsts_l2 at hy7;obtain ⟨W, v13, fg14, hl, g3, g6, w12, hst, o15⟩ := hI;replace h_0 := Rp.mono w12 h_0;refine AM.wp_seq hp0 (AM.wp_reg hp0 ?_);obtain ⟨x16, e17, hy7⟩ := bn hy7;obtain ⟨p18, _, f20, f21, rfl⟩ := fz_at (k := .i64) hst h_0 e17 rfl;refine wpo_seg hp0 5 (fun s H' => s.length = 23 ∧ gt s 3 = v13 ∧ gt s 4 = .int .i64 (k5 : Int) ∧ gt s 5 = .int .i64 x16 ∧ gt s 6 = v_0 ∧ gt s 7 = .int .i64 (p_.length : Int) ∧ gt s 8 = .int .i64 (k5 : Int) ∧ H = H') (by simp only [↓runs, isCall, ↓reduceIte, ↓gd_true, ↓gd_false, evs, AV.cells, Nat.reduceEqDiff, Nat.reduceLT, reduceCtorEq, Nat.reduceAdd, sy, f20, f21, g3, g6, g7, g8, hl]) ?_;rintro s _ ⟨hl, g3, g4, g5, g6, g7, g8, rfl⟩;refine wpo_nil (then_n ?_);refine AM.wp_seq hp0 (AM.wp_reg hp0 ?_);have f23 := ow_ln o15;have b24 := ow_big o15;refine wpo_seg hp0 4 (fun s H' => s.length = 23 ∧ gt s 3 = v13 ∧ gt s 4 = .int .i64 (k5 : Int) ∧ gt s 6 = v_0 ∧ gt s 7 = .int .i64 (p_.length : Int) ∧ gt s 8 = .int .i64 (k5 : Int) ∧ gt s 16 = .bool (decide (x16 = (x4.length : Int))) ∧ H = H') (by simp only [↓runs, isCall, ↓reduceIte, ↓gd_true, ↓gd_false, evs, AV.cells, Nat.reduceEqDiff, Nat.reduceLT, reduceCtorEq, Nat.reduceAdd, sy, f23, g3, g4, g5, g6, g7, g8, hl]) ?_;rintro s _ ⟨hl, g3, g4, g6, g7, g8, g16, rfl⟩;refine wpo_nil (then_n ?_);rcases Bool.eq_false_or_eq_true (decide (x16 = (x4.length : Int))) with c25 | c25
  ·replace hy7 := ifT c25 hy7;refine AM.wp_condT (by simp only [ev_t, ev_c, g16, c25]) ?_;refine AM.wp_reg hp0 ?_;obtain ⟨v26, l27, H28, fg29, W, f31, f32, f33, w30, hst, o34⟩ := ow_lit' (n := 1) (k := 1) (z := [.int .i64 0]) (ys := [.int .i64 (k5 : Int)]) (M := ([(k5 : Int)] : List (Int))) [(0, 1, .int .i64 (k5 : Int))] rfl rfl hst (sc_cons (show Rp.rv _ (.int .i64 (k5 : Int)) ((k5 : Int) : Int) from rfl) (sc_nil)) ((List.forall_mem_cons.2 ⟨rfl, fun _ h => (List.not_mem_nil h).elim⟩)) rfl rfl rfl (by decide);replace h_0 := Rp.mono w30 h_0;replace o15 := o15.mono w30;obtain ⟨c35, sn36⟩ := ow_sn hst (.head _) o34;obtain ⟨x37, e38, hy7⟩ := bn hy7;replace hst := hst.p1;obtain ⟨v39, H40, fg41, W, f43, w42, hst, o44⟩ := ow_apps [.int .i64 0] rfl hst o15 sn36 e38;replace h_0 := Rp.mono w42 h_0;replace o34 := o34.mono w42;refine wpo_seg hp0 5 (fun s H' => s.length = 23 ∧ gt s 3 = v39 ∧ gt s 6 = v_0 ∧ gt s 7 = .int .i64 (p_.length : Int) ∧ gt s 8 = .int .i64 (k5 : Int) ∧ H40 = H') (by simp only [↓runs, isCall, ↓reduceIte, ↓gd_true, ↓gd_false, evs, AV.cells, Nat.reduceEqDiff, Nat.reduceLT, reduceCtorEq, Nat.reduceAdd, sy, f31, f32, f33, f43, g3, g4, g6, g7, g8, g16, hl]) ?_;rintro s _ ⟨hl, g3, g6, g7, g8, rfl⟩;refine wpo_nil ?_;refine rnd_n ?_;obtain rfl := Option.some.inj hy7;replace hst := hst.p1;replace hst := hst.drop;exact ⟨hl, g8, g7, ⟨W, _, _, hl, g3, g6, ((w12.trans w30).trans w42), hst, o44⟩⟩
  ·replace hy7 := ifF c25 hy7;refine AM.wp_condF (by simp only [ev_t, ev_c, g16, c25]) ?_;refine AM.wp_skip ?_;refine rnd_n ?_;obtain rfl := Option.some.inj hy7;exact ⟨hl, g8, g7, ⟨W, _, _, hl, g3, g6, w12, hst, o15⟩⟩
 ·rintro s H hI _;obtain ⟨W, v46, fg47, hl, g3, g6, w45, hst, o48⟩ := hI;replace h_0 := Rp.mono w45 h_0;refine then_n ?_;refine AM.wp_seq hp0 (AM.wp_reg hp0 ?_);refine wpo_seg hp0 2 (fun s H' => s.length = 23 ∧ gt s 2 = v46 ∧ H = H') (by simp only [↓runs, isCall, ↓reduceIte, ↓gd_true, ↓gd_false, evs, AV.cells, Nat.reduceEqDiff, Nat.reduceLT, reduceCtorEq, Nat.reduceAdd, sy, g3, g6, hl]) ?_;rintro s _ ⟨hl, g2, rfl⟩;refine wpo_nil (then_n ?_);refine AM.wp_ret ?_;obtain rfl := Option.some.inj hp;refine body_ret (vs := [v46]) (by simp only [rvs, f_congr_firsts, Option.map_some, g2]) ?_;exact ⟨W, w45, _, hst, o48⟩

end Go.Proofs.Ytmdpejgnkoneoaa.Pu
set_option maxRecDepth 100000
set_option maxHeartbeats 4000000
namespace Go.Proofs.Ytmdpejgnkoneoaa.Pu
open Go Go.AM Go.Proofs.Ytmdpejgnkoneoaa.Code

noncomputable def P_congr_is_l43 (k21 : Nat) (p_ : List Int) (side : Int) (t : List (List Int)) (x35 : Int) (k45 : Nat) : Option (Lp (Unit) (Bool)) :=
 Option.bind (
  if !decide (side = 2) then
   Option.bind (gi t (k45 : Int)) fun x55 =>
   Option.bind (gi x55 (k21 : Int)) fun x62 =>
   Option.bind (gi p_ x62) fun x69 =>
   Option.bind (gi x55 x35) fun x76 =>
   Option.bind (gi p_ x76) fun x83 =>
   if !decide (x69 = x83) then
    some true
   else
    if !decide (side = 1) then
     Option.bind (gi t (k21 : Int)) fun x92 =>
     Option.bind (gi x92 (k45 : Int)) fun x99 =>
     Option.bind (gi p_ x99) fun x106 =>
     Option.bind (gi t x35) fun x113 =>
     Option.bind (gi x113 (k45 : Int)) fun x120 =>
     Option.bind (gi p_ x120) fun x127 =>
     some (!decide (x106 = x127))
    else
     some false
  else
   if !decide (side = 1) then
    Option.bind (gi t (k21 : Int)) fun x135 =>
    Option.bind (gi x135 (k45 : Int)) fun x142 =>
    Option.bind (gi p_ x142) fun x149 =>
    Option.bind (gi t x35) fun x156 =>
    Option.bind (gi x156 (k45 : Int)) fun x163 =>
    Option.bind (gi p_ x163) fun x170 =>
    some (!decide (x149 = x170))
   else
    some false) fun z52 =>
 if z52 then
  some (.ex false)
 else
  some (.go ())
noncomputable def P_congr_is_l19 (p_ : List Int) (r12 : (List Int)) (side : Int) (t : List (List Int)) (k21 : Nat) : Option (Lp (Unit) (Bool)) :=
 Option.bind (gi p_ (k21 : Int)) fun x28 =>
 Option.bind (gi r12 x28) fun x35 =>
 Option.bind (forR t.length (fun k x => P_congr_is_l43 k21 p_ side t x35 k) ()) fun z49 =>
 match z49 with
 | .inl x179 =>
  some (.go ())
 | .inr b => some (.ex b)
noncomputable def P_congr_is (t : List (List Int)) (p_ : List Int) (side : Int) : Option (Bool) :=
 Option.bind (
  if !decide ((p_.length : Int) = (t.length : Int)) then
   some true
  else
   Option.bind (P_partition_Valid p_) fun r6 =>
   some (!r6)) fun z1 =>
 if z1 then
  some false
 else
  Option.bind (P_congr_firsts p_) fun r12 =>
  Option.bind (forR p_.length (fun k x => P_congr_is_l19 p_ r12 side t k) ()) fun z25 =>
  match z25 with
  | .inl x181 =>
   some true
  | .inr b => some b
theorem R_congr_is {G : List Frag} {W H : AH} {v_0 v_1 : AV} {t : List (List Int)} {p_ : List Int} {side : Int} (hst : St G W H) (h_0 : Rp.rv W v_0 t) (h_1 : Rp.rv W v_1 p_) {r : Bool} (hp : P_congr_is t p_ side = some r) :
  wpc E0 N_congr_is [v_0, v_1, .int .i64 side] H fun rv H' => ∃ W', Wle W W' ∧ St G W' H' ∧ rv = .bool r := by
 refine enterN (F := f_congr_is) rfl (Nat.le_of_ble_eq_true rfl) fun s hl hg => ?_;replace hl : s.length = 94 := hl;have g0 : gt s 0 = v_0 := hg 0 (Nat.le_of_ble_eq_true rfl);have g1 : gt s 1 = v_1 := hg 1 (Nat.le_of_ble_eq_true rfl);have g2 : gt s 2 = .int .i64 side := hg 2 (Nat.le_of_ble_eq_true rfl);clear hg;unfold P_congr_is at hp;show wp E0 c_congr_is s H _;unfold c_congr_is;refine AM.wp_seq hp0 (AM.wp_reg hp0 ?_);refine wpo_seg hp0 1 (fun s H' => s.length = 94 ∧ gt s 0 = v_0 ∧ gt s 1 = v_1 ∧ gt s 2 = .int .i64 side ∧ H = H') (by simp only [↓runs, isCall, ↓reduceIte, ↓gd_true, ↓gd_false, evs, AV.cells, Nat.reduceEqDiff, Nat.reduceLT, reduceCtorEq, Nat.reduceAdd, sy, g0, g1, g2, hl]) ?_;rintro s _ ⟨hl, g0, g1, g2, rfl⟩;refine wpo_nil (then_n ?_);refine AM.wp_seq hp0 (AM.wp_seq hp0 ?_);obtain ⟨z1, hj2, hp⟩ := bn hp;refine AM.wp_regK hp0 (fun s H' => ∃ (W' : AH), s.length = 94 ∧ gt s 21 = .bool z1 ∧ gt s 0 = v_0 ∧ gt s 1 = v_1 ∧ gt s 2 = .int .i64 side ∧  Wle W W' ∧ St G W' H') ?_ ?_
 ·have f3 := fz_ln h_1;have f4 := fz_ln h_0;rcases Bool.eq_false_or_eq_true (!decide ((p_.length : Int) = (t.length : Int))) with c5 | c5
  ·replace hj2 := ifT c5 hj2;refine wpo_seg hp0 10 (fun s H' => s.length = 94 ∧ gt s 0 = v_0 ∧ gt s 1 = v_1 ∧ gt s 2 = .int .i64 side ∧ gt s 21 = .bool true ∧ H = H') (by simp only [↓runs, isCall, ↓reduceIte, ↓gd_true, ↓gd_false, evs, AV.cells, Nat.reduceEqDiff, Nat.reduceLT, reduceCtorEq, Nat.reduceAdd, sy, f3, f4, c5, g0, g1, g2, hl]) ?_;rintro s _ ⟨hl, g0, g1, g2, g21, rfl⟩;refine wpo_nil ?_;obtain rfl := Option.some.inj hj2;exact ⟨W, hl, g21, g0, g1, g2, .refl _, hst⟩
  ·replace hj2 := ifF c5 hj2;refine wpo_seg hp0 7 (fun s H' => s.length = 94 ∧ gt s 0 = v_0 ∧ gt s 1 = v_1 ∧ gt s 2 = .int .i64 side ∧ gt s 17 = .bool false ∧ gt s 18 = v_1 ∧ H = H') (by simp only [↓runs, isCall, ↓reduceIte, ↓gd_true, ↓gd_false, evs, AV.cells, Nat.reduceEqDiff, Nat.reduceLT, reduceCtorEq, Nat.reduceAdd, sy, f3, f4, c5, g0, g1, g2, hl]) ?_;rintro s _ ⟨hl, g0, g1, g2, g17, g18, rfl⟩;obtain ⟨r6, e7, hj2⟩ := bn hj2;refine wpo_callK hp0 (by simp only [wanted, g17, beq_self_eq_true]) (ys := [v_1]) (by simp only [evs, List.map_cons, List.map_nil, ev_t, ev_c, g18]) (R_partition_Valid hst h_1 e7) ?_;rintro rv8 H ⟨W, w9, hst, rfl⟩;replace h_0 := Rp.mono w9 h_0;replace h_1 := Rp.mono w9 h_1;refine wpo_seg hp0 2 (fun s H' => s.length = 94 ∧ gt s 0 = v_0 ∧ gt s 1 = v_1 ∧ gt s 2 = .int .i64 side ∧ gt s 21 = .bool (!r6) ∧ H = H') (by simp only [↓runs, isCall, ↓reduceIte, ↓gd_true, ↓gd_false, evs, AV.cells, Nat.reduceEqDiff, Nat.reduceLT, reduceCtorEq, Nat.reduceAdd, sy, gt_other, g0, g1, g2, g17, g18, hl]) ?_;rintro s _ ⟨hl, g0, g1, g2, g21, rfl⟩;refine wpo_nil ?_;obtain rfl := Option.some.inj hj2;exact ⟨W, hl, g21, g0, g1, g2, w9, hst⟩
 ·rintro s H ⟨W, hl, g21, g0, g1, g2, w10, hst⟩;replace h_0 := Rp.mono w10 h_0;replace h_1 := Rp.mono w10 h_1;refine then_n ?_;rcases Bool.eq_false_or_eq_true (z1) with c11 | c11
  ·replace hp := ifT c11 hp;refine AM.wp_condT (by simp only [ev_t, ev_c, g21, c11]) ?_;refine AM.wp_seq hp0 (AM.wp_reg hp0 ?_);refine wpo_seg hp0 1 (fun s H' => s.length = 94 ∧ gt s 6 = .bool false ∧ H = H') (by simp only [↓runs, isCall, ↓reduceIte, ↓gd_true, ↓gd_false, evs, AV.cells, Nat.reduceEqDiff, Nat.reduceLT, reduceCtorEq, Nat.reduceAdd, sy, g0, g1, g2, g21, hl]) ?_;rintro s _ ⟨hl, g6, rfl⟩;refine wpo_nil (then_n ?_);refine AM.wp_ret ?_;refine then_r ?_;obtain rfl := Option.some.inj hp;refine body_ret (vs := [.bool false]) (by simp only [rvs, f_congr_is, Option.map_some, g6]) ?_;exact ⟨W, w10, hst, rfl⟩
  ·replace hp := ifF c11 hp;refine AM.wp_condF (by simp only [ev_t, ev_c, g21, c11]) ?_;refine AM.wp_skip ?_;refine then_n ?_;refine AM.wp_seq hp0 (AM.wp_reg hp0 ?_);refine wpo_seg hp0 1 (fun s H' => s.length = 94 ∧ gt s 0 = v_0 ∧ gt s 1 = v_1 ∧ gt s 2 = .int .i64 side ∧ gt s 22 = v_1 ∧ H = H') (by simp only [↓runs, isCall, ↓reduceIte, ↓gd_true, ↓gd_false, evs, AV.cells, Nat.reduceEqDiff, Nat.reduceLT, reduceCtorEq, Nat.reduceAdd, sy, g0, g1, g2, g21, hl]) ?_;rintro s _ ⟨hl, g0, g1, g2, g22, rfl⟩;obtain ⟨r12, e13, hp⟩ := bn hp;refine wpo_callK hp0 rfl (ys := [v_1]) (by simp only [evs, List.map_cons, List.map_nil, ev_t, ev_c, g22]) (R_congr_firsts hst h_1 e13) ?_;rintro rv14 H ⟨W, w15, fg16, hst, o17⟩;replace h_0 := Rp.mono w15 h_0;replace h_1 := Rp.mono w15 h_1;refine wpo_seg hp0 1 (fun s H' => s.length = 94 ∧ gt s 0 = v_0 ∧ gt s 1 = v_1 ∧ gt s 2 = .int .i64 side ∧ gt s 7 = rv14 ∧ H = H') (by simp only [↓runs, isCall, ↓reduceIte, ↓gd_true, ↓gd_false, evs, AV.cells, Nat.reduceEqDiff, Nat.reduceLT, reduceCtorEq, Nat.reduceAdd, sy, gt_other, g0, g1, g2, g22, hl]) ?_;rintro s _ ⟨hl, g0, g1, g2, g7, rfl⟩;refine wpo_nil (then_n ?_);refine AM.wp_seq hp0 (AM.wp_seq hp0 (AM.wp_reg hp0 ?_));have f18 := fz_ln h_1;refine wpo_seg hp0 3 (fun s H' => s.length = 94 ∧ gt s 0 = v_0 ∧ gt s 1 = v_1 ∧ gt s 2 = .int .i64 side ∧ gt s 7 = rv14 ∧ gt s 24 = v_1 ∧ gt s 25 = .int .i64 (p_.length : Int) ∧ gt s 26 = .int .i64 0 ∧ H = H') (by simp only [↓runs, isCall, ↓reduceIte, ↓gd_true, ↓gd_false, evs, AV.cells, Nat.reduceEqDiff, Nat.reduceLT, reduceCtorEq, Nat.reduceAdd, sy, f18, g0, g1, g2, g7, hl]) ?_;rintro s _ ⟨hl, g0, g1, g2, g7, g24, g25, g26, rfl⟩;refine wpo_nil (then_n ?_);obtain ⟨z25, e26, hp⟩ := bn hp;refine range_ref hp0 94 p_.length (fun k x => P_congr_is_l19 p_ r12 side t k) (fun _ x s H' => s.length = 94 ∧ gt s 0 = v_0 ∧ gt s 1 = v_1 ∧ gt s 2 = .int .i64 side ∧ gt s 7 = rv14 ∧ gt s 24 = v_1 ∧ H = H') (fun _ x s H' => s.length = 94 ∧ H = H') e26 (fz_big h_1) rfl ?_ ?_ hl g26 g25 ?_ ?_
   ·intro k x s H d v hd h; rcases hd with rfl | rfl | rfl <;> simpa only [gt_other, pt_length, Nat.reduceEqDiff, not_false_eq_true] using h
   ·exact ⟨hl, g0, g1, g2, g7, g24, rfl⟩
   ·intro k21 x20 y22 s H hk hI hl g26 g25 hy23 hx24;change P_congr_is_l19 p_ r12 side t k21 = some y22 at hy23;unfold P_congr_is_l19 at hy23;obtain ⟨hl, g0, g1, g2, g7, g24, rfl⟩ := hI;refine AM.wp_seq hp0 (AM.wp_reg hp0 ?_);obtain ⟨x28, e29, hy23⟩ := bn hy23;obtain ⟨p30, _, f32, f33, rfl⟩ := fz_at (k := .i64) hst h_1 e29 rfl;refine wpo_seg hp0 5 (fun s H' => s.length = 94 ∧ gt s 0 = v_0 ∧ gt s 1 = v_1 ∧ gt s 2 = .int .i64 side ∧ gt s 7 = rv14 ∧ gt s 8 = .int .i64 (k21 : Int) ∧ gt s 9 = .int .i64 x28 ∧ gt s 24 = v_1 ∧ gt s 25 = .int .i64 (p_.length : Int) ∧ gt s 26 = .int .i64 (k21 : Int) ∧ H = H') (by simp only [↓runs, isCall, ↓reduceIte, ↓gd_true, ↓gd_false, evs, AV.cells, Nat.reduceEqDiff, Nat.reduceLT, reduceCtorEq, Nat.reduceAdd, sy, f32, f33, g0, g1, g2, g7, g24, g25, g26, hl]) ?_;rintro s _ ⟨hl, g0, g1, g2, g7, g8, g9, g24, g25, g26, rfl⟩;refine wpo_nil (then_n ?_);refine AM.wp_seq hp0 (AM.wp_reg hp0 ?_);obtain ⟨x35, e36, hy23⟩ := bn hy23;obtain ⟨p37, _, f39, f40, rfl⟩ := ow_at (k := .i64) hst (.head _) o17 e36 rfl;refine wpo_seg hp0 5 (fun s H' => s.length = 94 ∧ gt s 0 = v_0 ∧ gt s 1 = v_1 ∧ gt s 2 = .int .i64 side ∧ gt s 7 = rv14 ∧ gt s 8 = .int .i64 (k21 : Int) ∧ gt s 10 = .int .i64 x35 ∧ gt s 24 = v_1 ∧ gt s 25 = .int .i64 (p_.length : Int) ∧ gt s 26 = .int .i64 (k21 : Int) ∧ H = H') (by simp only [↓runs, isCall, ↓reduceIte, ↓gd_true, ↓gd_false, evs, AV.cells, Nat.reduceEqDiff, Nat.reduceLT, reduceCtorEq, Nat.reduceAdd, sy, f39, f40, g0, g1, g2, g7, g8, g9, g24, g25, g26, hl]) ?_;rintro s _ ⟨hl, g0, g1, g2, g7, g8, g10, g24, g25, g26, rfl⟩;refine wpo_nil (then_n ?_);refine AM.wp_seq hp0 (AM.wp_reg hp0 ?_);have f42 := fz_ln h_0;refine wpo_seg hp0 3 (fun s H' => s.length = 94 ∧ gt s 0 = v_0 ∧ gt s 1 = v_1 ∧ gt s 2 = .int .i64 side ∧ gt s 7 = rv14 ∧ gt s 8 = .int .i64 (k21 : Int) ∧ gt s 10 = .int .i64 x35 ∧ gt s 24 = v_1 ∧ gt s 25 = .int .i64 (p_.length : Int) ∧ gt s 26 = .int .i64 (k21 : Int) ∧ gt s 36 = .int .i64 (t.length : Int) ∧ gt s 37 = .int .i64 0 ∧ H = H') (by simp only [↓runs, isCall, ↓reduceIte, ↓gd_true, ↓gd_false, evs, AV.cells, Nat.reduceEqDiff, Nat.reduceLT, reduceCtorEq, Nat.reduceAdd, sy, f42, g0, g1, g2, g7, g8, g10, g24, g25, g26, hl]) ?_;rintro s _ ⟨hl, g0, g1, g2, g7, g8, g10, g24, g25, g26, g36, g37, rfl⟩;refine wpo_nil (then_n ?_);obtain ⟨z49, e50, hy23⟩ := bn hy23;refine range_ref hp0 94 t.length (fun k x => P_congr_is_l43 k21 p_ side t x35 k) (fun _ x s H' => s.length = 94 ∧ gt s 0 = v_0 ∧ gt s 1 = v_1 ∧ gt s 2 = .int .i64 side ∧ gt s 7 = rv14 ∧ gt s 8 = .int .i64 (k21 : Int) ∧ gt s 10 = .int .i64 x35 ∧ gt s 24 = v_1 ∧ gt s 25 = .int .i64 (p_.length : Int) ∧ gt s 26 = .int .i64 (k21 : Int) ∧ H = H') (fun _ x s H' => s.length = 94 ∧ gt s 0 = v_0 ∧ gt s 1 = v_1 ∧ gt s 2 = .int .i64 side ∧ gt s 7 = rv14 ∧ gt s 24 = v_1 ∧ gt s 25 = .int .i64 (p_.length : Int) ∧ gt s 26 = .int .i64 (k21 : Int) ∧ H = H') e50 (fz_big h_0) rfl ?_ ?_ hl g37 g36 ?_ ?_
    ·intro k x s H d v hd h; rcases hd with rfl | rfl | rfl <;> simpa only [gt_other, pt_length, Nat.reduceEqDiff, not_false_eq_true] using h
    ·exact ⟨hl, g0, g1, g2, g7, g8, g10, g24, g25, g26, rfl⟩
    ·intro k45 x44 y46 s H hk hI hl g37 g36 hy47 hx48;change P_congr_is_l43 k21 p_ side t x35 k45 = some y46 at hy47;unfold P_congr_is_l43 at hy47;obtain ⟨hl, g0, g1, g2, g7, g8, g10, g24, g25, g26, rfl⟩ := hI;refine AM.wp_seq hp0 (AM.wp_reg hp0 ?_);refine wpo_seg hp0 2 (fun s H' => s.length = 94 ∧ gt s 0 = v_0 ∧ gt s 1 = v_1 ∧ gt s 2 = .int .i64 side ∧ gt s 7 = rv14 ∧ gt s 8 = .int .i64 (k21 : Int) ∧ gt s 10 = .int .i64 x35 ∧ gt s 11 = .int .i64 (k45 : Int) ∧ gt s 24 = v_1 ∧ gt s 25 = .int .i64 (p_.length : Int) ∧ gt s 26 = .int .i64 (k21 : Int) ∧ gt s 36 = .int .i64 (t.length : Int) ∧ gt s 37 = .int .i64 (k45 : Int) ∧ H = H') (by simp only [↓runs, isCall, ↓reduceIte, ↓gd_true, ↓gd_false, evs, AV.cells, Nat.reduceEqDiff, Nat.reduceLT, reduceCtorEq, Nat.reduceAdd, sy, g0, g1, g2, g7, g8, g10, g24, g25, g26, g36, g37, hl]) ?_;rintro s _ ⟨hl, g0, g1, g2, g7, g8, g10, g11, g24, g25, g26, g36, g37, rfl⟩;refine wpo_nil (then_n ?_);refine AM.wp_seq hp0 ?_;obtain ⟨z52, hj53, hy47⟩ := bn hy47;refine AM.wp_regK hp0 (fun s H' => s.length = 94 ∧ gt s 91 = .bool z52 ∧ gt s 0 = v_0 ∧ gt s 1 = v_1 ∧ gt s 2 = .int .i64 side ∧ gt s 7 = rv14 ∧ gt s 8 = .int .i64 (k21 : Int) ∧ gt s 10 = .int .i64 x35 ∧ gt s 24 = v_1 ∧ gt s 25 = .int .i64 (p_.length : Int) ∧ gt s 26 = .int .i64 (k21 : Int) ∧ gt s 36 = .int .i64 (t.length : Int) ∧ gt s 37 = .int .i64 (k45 : Int) ∧ H = H') ?_ ?_
     ·rcases Bool.eq_false_or_eq_true (!decide (side = 2)) with c54 | c54
      ·replace hj53 := ifT c54 hj53;obtain ⟨x55, e56, hj53⟩ := bn hj53;obtain ⟨p57, y58, f59, f60, h61⟩ := fz_at (k := .i64) hst h_0 e56 rfl;obtain ⟨x62, e63, hj53⟩ := bn hj53;obtain ⟨p64, _, f66, f67, rfl⟩ := fz_at (k := .i64) hst h61 e63 rfl;obtain ⟨x69, e70, hj53⟩ := bn hj53;obtain ⟨p71, _, f73, f74, rfl⟩ := fz_at (k := .i64) hst h_1 e70 rfl;obtain ⟨x76, e77, hj53⟩ := bn hj53;obtain ⟨p78, _, f80, f81, rfl⟩ := fz_at (k := .i64) hst h61 e77 rfl;obtain ⟨x83, e84, hj53⟩ := bn hj53;obtain ⟨p85, _, f87, f88, rfl⟩ := fz_at (k := .i64) hst h_1 e84 rfl;rcases Bool.eq_false_or_eq_true (!decide (x69 = x83)) with c90 | c90
       ·replace hj53 := ifT c90 hj53;refine wpo_seg hp0 52 (fun s H' => s.length = 94 ∧ gt s 0 = v_0 ∧ gt s 1 = v_1 ∧ gt s 2 = .int .i64 side ∧ gt s 7 = rv14 ∧ gt s 8 = .int .i64 (k21 : Int) ∧ gt s 10 = .int .i64 x35 ∧ gt s 24 = v_1 ∧ gt s 25 = .int .i64 (p_.length : Int) ∧ gt s 26 = .int .i64 (k21 : Int) ∧ gt s 36 = .int .i64 (t.length : Int) ∧ gt s 37 = .int .i64 (k45 : Int) ∧ gt s 91 = .bool true ∧ H = H') (by simp (maxSteps := 1000000) only [↓runs, isCall, ↓reduceIte, ↓gd_true, ↓gd_false, evs, AV.cells, Nat.reduceEqDiff, Nat.reduceLT, reduceCtorEq, Nat.reduceAdd, sy, c54, f59, f60, f66, f67, f73, f74, f80, f81, f87, f88, c90, g0, g1, g2, g7, g8, g10, g11, g24, g25, g26, g36, g37, hl]) ?_;rintro s _ ⟨hl, g0, g1, g2, g7, g8, g10, g24, g25, g26, g36, g37, g91, rfl⟩;refine wpo_nil ?_;obtain rfl := Option.some.inj hj53;exact ⟨hl, g91, g0, g1, g2, g7, g8, g10, g24, g25, g26, g36, g37, rfl⟩
       ·replace hj53 := ifF c90 hj53;rcases Bool.eq_false_or_eq_true (!decide (side = 1)) with c91 | c91
        ·replace hj53 := ifT c91 hj53;obtain ⟨x92, e93, hj53⟩ := bn hj53;obtain ⟨p94, y95, f96, f97, h98⟩ := fz_at (k := .i64) hst h_0 e93 rfl;obtain ⟨x99, e100, hj53⟩ := bn hj53;obtain ⟨p101, _, f103, f104, rfl⟩ := fz_at (k := .i64) hst h98 e100 rfl;obtain ⟨x106, e107, hj53⟩ := bn hj53;obtain ⟨p108, _, f110, f111, rfl⟩ := fz_at (k := .i64) hst h_1 e107 rfl;obtain ⟨x113, e114, hj53⟩ := bn hj53;obtain ⟨p115, y116, f117, f118, h119⟩ := fz_at (k := .i64) hst h_0 e114 rfl;obtain ⟨x120, e121, hj53⟩ := bn hj53;obtain ⟨p122, _, f124, f125, rfl⟩ := fz_at (k := .i64) hst h119 e121 rfl;obtain ⟨x127, e128, hj53⟩ := bn hj53;obtain ⟨p129, _, f131, f132, rfl⟩ := fz_at (k := .i64) hst h_1 e128 rfl;refine wpo_seg hp0 52 (fun s H' => s.length = 94 ∧ gt s 0 = v_0 ∧ gt s 1 = v_1 ∧ gt s 2 = .int .i64 side ∧ gt s 7 = rv14 ∧ gt s 8 = .int .i64 (k21 : Int) ∧ gt s 10 = .int .i64 x35 ∧ gt s 24 = v_1 ∧ gt s 25 = .int .i64 (p_.length : Int) ∧ gt s 26 = .int .i64 (k21 : Int) ∧ gt s 36 = .int .i64 (t.length : Int) ∧ gt s 37 = .int .i64 (k45 : Int) ∧ gt s 91 = .bool (!decide (x106 = x127)) ∧ H = H') (by simp (maxSteps := 1000000) only [↓runs, isCall, ↓reduceIte, ↓gd_true, ↓gd_false, evs, AV.cells, Nat.reduceEqDiff, Nat.reduceLT, reduceCtorEq, Nat.reduceAdd, sy, c54, f59, f60, f66, f67, f73, f74, f80, f81, f87, f88, c90, c91, f96, f97, f103, f104, f110, f111, f117, f118, f124, f125, f131, f132, g0, g1, g2, g7, g8, g10, g11, g24, g25, g26, g36, g37, hl]) ?_;rintro s _ ⟨hl, g0, g1, g2, g7, g8, g10, g24, g25, g26, g36, g37, g91, rfl⟩;refine wpo_nil ?_;obtain rfl := Option.some.inj hj53;exact ⟨hl, g91, g0, g1, g2, g7, g8, g10, g24, g25, g26, g36, g37, rfl⟩
        ·replace hj53 := ifF c91 hj53;refine wpo_seg hp0 52 (fun s H' => s.length = 94 ∧ gt s 0 = v_0 ∧ gt s 1 = v_1 ∧ gt s 2 = .int .i64 side ∧ gt s 7 = rv14 ∧ gt s 8 = .int .i64 (k21 : Int) ∧ gt s 10 = .int .i64 x35 ∧ gt s 24 = v_1 ∧ gt s 25 = .int .i64 (p_.length : Int) ∧ gt s 26 = .int .i64 (k21 : Int) ∧ gt s 36 = .int .i64 (t.length : Int) ∧ gt s 37 = .int .i64 (k45 : Int) ∧ gt s 91 = .bool false ∧ H = H') (by simp (maxSteps := 1000000) only [↓runs, isCall, ↓reduceIte, ↓gd_true, ↓gd_false, evs, AV.cells, Nat.reduceEqDiff, Nat.reduceLT, reduceCtorEq, Nat.reduceAdd, sy, c54, f59, f60, f66, f67, f73, f74, f80, f81, f87, f88, c90, c91, g0, g1, g2, g7, g8, g10, g11, g24, g25, g26, g36, g37, hl]) ?_;rintro s _ ⟨hl, g0, g1, g2, g7, g8, g10, g24, g25, g26, g36, g37, g91, rfl⟩;refine wpo_nil ?_;obtain rfl := Option.some.inj hj53;exact ⟨hl, g91, g0, g1, g2, g7, g8, g10, g24, g25, g26, g36, g37, rfl⟩
      ·replace hj53 := ifF c54 hj53;rcases Bool.eq_false_or_eq_true (!decide (side = 1)) with c134 | c134
       ·replace hj53 := ifT c134 hj53;obtain ⟨x135, e136, hj53⟩ := bn hj53;obtain ⟨p137, y138, f139, f140, h141⟩ := fz_at (k := .i64) hst h_0 e136 rfl;obtain ⟨x142, e143, hj53⟩ := bn hj53;obtain ⟨p144, _, f146, f147, rfl⟩ := fz_at (k := .i64) hst h141 e143 rfl;obtain ⟨x149, e150, hj53⟩ := bn hj53;obtain ⟨p151, _, f153, f154, rfl⟩ := fz_at (k := .i64) hst h_1 e150 rfl;obtain ⟨x156, e157, hj53⟩ := bn hj53;obtain ⟨p158, y159, f160, f161, h162⟩ := fz_at (k := .i64) hst h_0 e157 rfl;obtain ⟨x163, e164, hj53⟩ := bn hj53;obtain ⟨p165, _, f167, f168, rfl⟩ := fz_at (k := .i64) hst h162 e164 rfl;obtain ⟨x170, e171, hj53⟩ := bn hj53;obtain ⟨p172, _, f174, f175, rfl⟩ := fz_at (k := .i64) hst h_1 e171 rfl;refine wpo_seg hp0 52 (fun s H' => s.length = 94 ∧ gt s 0 = v_0 ∧ gt s 1 = v_1 ∧ gt s 2 = .int .i64 side ∧ gt s 7 = rv14 ∧ gt s 8 = .int .i64 (k21 : Int) ∧ gt s 10 = .int .i64 x35 ∧ gt s 24 = v_1 ∧ gt s 25 = .int .i64 (p_.length : Int) ∧ gt s 26 = .int .i64 (k21 : Int) ∧ gt s 36 = .int .i64 (t.length : Int) ∧ gt s 37 = .int .i64 (k45 : Int) ∧ gt s 91 = .bool (!decide (x149 = x170)) ∧ H = H') (by simp (maxSteps := 1000000) only [↓runs, isCall, ↓reduceIte, ↓gd_true, ↓gd_false, evs, AV.cells, Nat.reduceEqDiff, Nat.reduceLT, reduceCtorEq, Nat.reduceAdd, sy, c54, c134, f139, f140, f146, f147, f153, f154, f160, f161, f167, f168, f174, f175, g0, g1, g2, g7, g8, g10, g11, g24, g25, g26, g36, g37, hl]) ?_;rintro s _ ⟨hl, g0, g1, g2, g7, g8, g10, g24, g25, g26, g36, g37, g91, rfl⟩;refine wpo_nil ?_;obtain rfl := Option.some.inj hj53;exact ⟨hl, g91, g0, g1, g2, g7, g8, g10, g24, g25, g26, g36, g37, rfl⟩
       ·replace hj53 := ifF c134 hj53;refine wpo_seg hp0 52 (fun s H' => s.length = 94 ∧ gt s 0 = v_0 ∧ gt s 1 = v_1 ∧ gt s 2 = .int .i64 side ∧ gt s 7 = rv14 ∧ gt s 8 = .int .i64 (k21 : Int) ∧ gt s 10 = .int .i64 x35 ∧ gt s 24 = v_1 ∧ gt s 25 = .int .i64 (p_.length : Int) ∧ gt s 26 = .int .i64 (k21 : Int) ∧ gt s 36 = .int .i64 (t.length : Int) ∧ gt s 37 = .int .i64 (k45 : Int) ∧ gt s 91 = .bool false ∧ H = H') (by simp (maxSteps := 1000000) only [↓runs, isCall, ↓reduceIte, ↓gd_true, ↓gd_false, evs, AV.cells, Nat.reduceEqDiff, Nat.reduceLT, reduceCtorEq, Nat.reduceAdd, sy, c54, c134, g0, g1, g2, g7, g8, g10, g11, g24, g25, g26, g36, g37, hl]) ?_;rintro s _ ⟨hl, g0, g1, g2, g7, g8, g10, g24, g25, g26, g36, g37, g91, rfl⟩;refine wpo_nil ?_;obtain rfl := Option.some.inj hj53;exact ⟨hl, g91, g0, g1, g2, g7, g8, g10, g24, g25, g26, g36, g37, rfl⟩
     ·rintro s _ ⟨hl, g91, g0, g1, g2, g7, g8, g10, g24, g25, g26, g36, g37, rfl⟩;refine then_n ?_;rcases Bool.eq_false_or_eq_true (z52) with c178 | c178
      ·replace hy47 := ifT c178 hy47;refine AM.wp_condT (by simp only [ev_t, ev_c, g91, c178]) ?_;refine AM.wp_seq hp0 (AM.wp_reg hp0 ?_);refine wpo_seg hp0 1 (fun s H' => s.length = 94 ∧ gt s 6 = .bool false ∧ H = H') (by simp only [↓runs, isCall, ↓reduceIte, ↓gd_true, ↓gd_false, evs, AV.cells, Nat.reduceEqDiff, Nat.reduceLT, reduceCtorEq, Nat.reduceAdd, sy, g0, g1, g2, g7, g8, g10, g24, g25, g26, g36, g37, g91, hl]) ?_;rintro s _ ⟨hl, g6, rfl⟩;refine wpo_nil (then_n ?_);refine AM.wp_ret ?_;refine rnd_r ?_;refine rnd_r ?_;refine then_r ?_;obtain rfl := Option.some.inj hy47;have hx := hx48 _ rfl;subst hx;dsimp only at hy23;obtain rfl := Option.some.inj hy23;have hx := hx24 _ rfl;subst hx;dsimp only at hp;obtain rfl := Option.some.inj hp;replace hst := hst.drop;refine body_ret (vs := [.bool false]) (by simp only [rvs, f_congr_is, Option.map_some, g6]) ?_;exact ⟨W, (w10.trans w15), hst, rfl⟩
      ·replace hy47 := ifF c178 hy47;refine AM.wp_condF (by simp only [ev_t, ev_c, g91, c178]) ?_;refine AM.wp_skip ?_;refine rnd_n ?_;obtain rfl := Option.some.inj hy47;exact ⟨_, rfl, hl, g37, g36, ⟨hl, g0, g1, g2, g7, g8, g10, g24, g25, g26, rfl⟩⟩
    ·rintro x179 s Hn hz hI;replace hI : (fun s H' => s.length = 94 ∧ gt s 0 = v_0 ∧ gt s 1 = v_1 ∧ gt s 2 = .int .i64 side ∧ gt s 7 = rv14 ∧ gt s 24 = v_1 ∧ gt s 25 = .int .i64 (p_.length : Int) ∧ gt s 26 = .int .i64 (k21 : Int) ∧ H = H') s Hn := by
      rcases hI with ⟨hI, -⟩ | ⟨_, hI⟩
      ·obtain ⟨hl, g0, g1, g2, g7, g8, g10, g24, g25, g26, e2⟩ := hI;exact ⟨hl, g0, g1, g2, g7, g24, g25, g26, e2⟩
      ·exact hI
     subst hz;dsimp only at hy23 hI;obtain ⟨hl, g0, g1, g2, g7, g24, g25, g26, rfl⟩ := hI;refine rnd_n ?_;obtain rfl := Option.some.inj hy23;exact ⟨_, rfl, hl, g26, g25, ⟨hl, g0, g1, g2, g7, g24, rfl⟩⟩
   ·rintro x181 s Hn hz hI;replace hI : (fun s H' => s.length = 94 ∧ H = H') s Hn := by
     rcases hI with ⟨hI, -⟩ | ⟨_, hI⟩
     ·obtain ⟨hl, g0, g1, g2, g7, g24, e2⟩ := hI;exact ⟨hl, e2⟩
     ·exact hI
    subst hz;dsimp only at hp hI;obtain ⟨hl, rfl⟩ := hI;refine then_n ?_;refine AM.wp_seq hp0 (AM.wp_reg hp0 ?_);refine wpo_seg hp0 1 (fun s H' => s.length = 94 ∧ gt s 6 = .bool true ∧ H = H') (by simp only [↓runs, isCall, ↓reduceIte, ↓gd_true, ↓gd_false, evs, AV.cells, Nat.reduceEqDiff, Nat.reduceLT, reduceCtorEq, Nat.reduceAdd, sy, hl]) ?_;rintro s _ ⟨hl, g6, rfl⟩;refine wpo_nil (then_n ?_);refine AM.wp_ret ?_;obtain rfl := Option.some.inj hp;replace hst := hst.drop;refine body_ret (vs := [.bool true]) (by simp only [rvs, f_congr_is, Option.map_some, g6]) ?_;exact ⟨W, (w10.trans w15), hst, rfl⟩

end Go.Proofs.Ytmdpejgnkoneoaa.Pu
set_option maxRecDepth 100000
set_option maxHeartbeats 4000000
namespace Go.Proofs.Ytmdpejgnkoneoaa.Pu
open Go Go.AM Go.Proofs.Ytmdpejgnkoneoaa.Code

noncomputable def P_congr_Quotient_l76 (k31 : Nat) (p_ : List Int) (r11 : (List Int)) (t : List (List Int)) (x41 : Int) (k78 : Nat) (x77 : List (List Int)) : Option ((List (List Int))) :=
 Option.bind (gi r11 (k78 : Int)) fun x88 =>
 Option.bind (gi x77 (k31 : Int)) fun x95 =>
 Option.bind (gi t x41) fun x105 =>
 Option.bind (gi x105 x88) fun x112 =>
 Option.bind (gi p_ x112) fun x119 =>
 Option.bind (si x95 (k78 : Int) x119) fun x126 =>
 some (List.set x77 ((k31 : Int)).toNat x126)
noncomputable def P_congr_Quotient_l29 (p_ : List Int) (r11 : (List Int)) (t : List (List Int)) (k31 : Nat) (x30 : List (List Int)) : Option ((List (List Int))) :=
 Option.bind (gi r11 (k31 : Int)) fun x41 =>
 Option.bind (mkz (α := Int) 8 (r11.length : Int) (r11.length : Int) 0) fun x50 =>
 Option.bind (gi x30 (k31 : Int)) fun x58 =>
 Option.bind (forS r11.length (fun k x => P_congr_Quotient_l76 k31 p_ r11 t x41 k x) (List.set x30 ((k31 : Int)).toNat x50)) fun z82 =>
 some z82
noncomputable def P_congr_Quotient (t : List (List Int)) (p_ : List Int) : Option ((List (List Int)) × Int) :=
 Option.bind (P_mult_Validate t) fun r1 =>
 if !decide (r1 = 0) then
  some ([], r1)
 else
  Option.bind (P_congr_is t p_ 0) fun r6 =>
  if !r6 then
   some ([], 1)
  else
   Option.bind (P_congr_firsts p_) fun r11 =>
   Option.bind (mkz (α := List Int) 24 (r11.length : Int) (r11.length : Int) []) fun x19 =>
   Option.bind (forS r11.length (fun k x => P_congr_Quotient_l29 p_ r11 t k x) x19) fun z35 =>
   some (z35, 0)
theorem R_congr_Quotient {G : List Frag} {W H : AH} {v_0 v_1 : AV} {t : List (List Int)} {p_ : List Int} (hst : St G W H) (h_0 : Rp.rv W v_0 t) (h_1 : Rp.rv W v_1 p_) {r : (List (List Int)) × Int} (hp : P_congr_Quotient t p_ = some r) :
  wpc E0 N_congr_Quotient [v_0, v_1] H fun rv H' => ∃ W', Wle W W' ∧ ∃ (v0 : AV), St G W' H' ∧ rv = .tup [v0, .int .i64 r.2] ∧ Rp.rv W' v0 (r.1 : List (List Int)) := by
 refine enterN (F := f_congr_Quotient) rfl (Nat.le_of_ble_eq_true rfl) fun s hl hg => ?_;replace hl : s.length = 66 := hl;have g0 : gt s 0 = v_0 := hg 0 (Nat.le_of_ble_eq_true rfl);have g1 : gt s 1 = v_1 := hg 1 (Nat.le_of_ble_eq_true rfl);clear hg;unfold P_congr_Quotient at hp;show wp E0 c_congr_Quotient s H _;unfold c_congr_Quotient;refine AM.wp_seq hp0 (AM.wp_reg hp0 ?_);refine wpo_seg hp0 2 (fun s H' => s.length = 66 ∧ gt s 0 = v_0 ∧ gt s 1 = v_1 ∧ H = H') (by simp only [↓runs, isCall, ↓reduceIte, ↓gd_true, ↓gd_false, evs, AV.cells, Nat.reduceEqDiff, Nat.reduceLT, reduceCtorEq, Nat.reduceAdd, sy, g0, g1, hl]) ?_;rintro s _ ⟨hl, g0, g1, rfl⟩;refine wpo_nil (then_n ?_);refine AM.wp_seq hp0 (AM.wp_seq hp0 (AM.wp_reg hp0 ?_));refine wpo_seg hp0 1 (fun s H' => s.length = 66 ∧ gt s 0 = v_0 ∧ gt s 1 = v_1 ∧ gt s 13 = v_0 ∧ H = H') (by simp only [↓runs, isCall, ↓reduceIte, ↓gd_true, ↓gd_false, evs, AV.cells, Nat.reduceEqDiff, Nat.reduceLT, reduceCtorEq, Nat.reduceAdd, sy, g0, g1, hl]) ?_;rintro s _ ⟨hl, g0, g1, g13, rfl⟩;obtain ⟨r1, e2, hp⟩ := bn hp;refine wpo_callK hp0 rfl (ys := [v_0]) (by simp only [evs, List.map_cons, List.map_nil, ev_t, ev_c, g13]) (R_mult_Validate hst h_0 e2) ?_;rintro rv3 H ⟨W, w4, hst, rfl⟩;replace h_0 := Rp.mono w4 h_0;replace h_1 := Rp.mono w4 h_1;refine wpo_seg hp0 1 (fun s H' => s.length = 66 ∧ gt s 0 = v_0 ∧ gt s 1 = v_1 ∧ gt s 6 = .int .i64 r1 ∧ H = H') (by simp only [↓runs, isCall, ↓reduceIte, ↓gd_true, ↓gd_false, evs, AV.cells, Nat.reduceEqDiff, Nat.reduceLT, reduceCtorEq, Nat.reduceAdd, sy, gt_other, g0, g1, g13, hl]) ?_;rintro s _ ⟨hl, g0, g1, g6, rfl⟩;refine wpo_nil (then_n ?_);refine AM.wp_seq hp0 (AM.wp_reg hp0 ?_);refine wpo_seg hp0 2 (fun s H' => s.length = 66 ∧ gt s 0 = v_0 ∧ gt s 1 = v_1 ∧ gt s 6 = .int .i64 r1 ∧ gt s 16 = .bool (!decide (r1 = 0)) ∧ H = H') (by simp only [↓runs, isCall, ↓reduceIte, ↓gd_true, ↓gd_false, evs, AV.cells, Nat.reduceEqDiff, Nat.reduceLT, reduceCtorEq, Nat.reduceAdd, sy, g0, g1, g6, hl]) ?_;rintro s _ ⟨hl, g0, g1, g6, g16, rfl⟩;refine wpo_nil (then_n ?_);rcases Bool.eq_false_or_eq_true (!decide (r1 = 0)) with c5 | c5
 ·replace hp := ifT c5 hp;refine AM.wp_condT (by simp only [ev_t, ev_c, g16, c5]) ?_;refine AM.wp_seq hp0 (AM.wp_reg hp0 ?_);refine wpo_seg hp0 3 (fun s H' => s.length = 66 ∧ gt s 4 = .nils ∧ gt s 5 = .int .i64 r1 ∧ H = H') (by simp only [↓runs, isCall, ↓reduceIte, ↓gd_true, ↓gd_false, evs, AV.cells, Nat.reduceEqDiff, Nat.reduceLT, reduceCtorEq, Nat.reduceAdd, sy, g0, g1, g6, g16, hl]) ?_;rintro s _ ⟨hl, g4, g5, rfl⟩;refine wpo_nil (then_n ?_);refine AM.wp_ret ?_;refine then_r ?_;obtain rfl := Option.some.inj hp;refine body_ret (vs := [.nils, .int .i64 r1]) (by simp only [rvs, f_congr_Quotient, Option.map_some, g4, g5]) ?_;exact ⟨W, w4, _, hst, rfl, (fz_nil _)⟩
 ·replace hp := ifF c5 hp;refine AM.wp_condF (by simp only [ev_t, ev_c, g16, c5]) ?_;refine AM.wp_skip ?_;refine then_n ?_;refine AM.wp_seq hp0 (AM.wp_seq hp0 (AM.wp_reg hp0 ?_));refine wpo_seg hp0 2 (fun s H' => s.length = 66 ∧ gt s 0 = v_0 ∧ gt s 1 = v_1 ∧ gt s 18 = v_0 ∧ gt s 19 = v_1 ∧ H = H') (by simp only [↓runs, isCall, ↓reduceIte, ↓gd_true, ↓gd_false, evs, AV.cells, Nat.reduceEqDiff, Nat.reduceLT, reduceCtorEq, Nat.reduceAdd, sy, g0, g1, g6, g16, hl]) ?_;rintro s _ ⟨hl, g0, g1, g18, g19, rfl⟩;obtain ⟨r6, e7, hp⟩ := bn hp;refine wpo_callK hp0 rfl (ys := [v_0, v_1, .int .i64 0]) (by simp only [evs, List.map_cons, List.map_nil, ev_t, ev_c, g18, g19]) (R_congr_is hst h_0 h_1 e7) ?_;rintro rv8 H ⟨W, w9, hst, rfl⟩;replace h_0 := Rp.mono w9 h_0;replace h_1 := Rp.mono w9 h_1;refine wpo_seg hp0 1 (fun s H' => s.length = 66 ∧ gt s 0 = v_0 ∧ gt s 1 = v_1 ∧ gt s 21 = .bool (!r6) ∧ H = H') (by simp only [↓runs, isCall, ↓reduceIte, ↓gd_true, ↓gd_false, evs, AV.cells, Nat.reduceEqDiff, Nat.reduceLT, reduceCtorEq, Nat.reduceAdd, sy, gt_other, g0, g1, g18, g19, hl]) ?_;rintro s _ ⟨hl, g0, g1, g21, rfl⟩;refine wpo_nil (then_n ?_);rcases Bool.eq_false_or_eq_true (!r6) with c10 | c10
  ·replace hp := ifT c10 hp;refine AM.wp_condT (by simp only [ev_t, ev_c, g21, c10]) ?_;refine AM.wp_seq hp0 (AM.wp_reg hp0 ?_);refine wpo_seg hp0 2 (fun s H' => s.length = 66 ∧ gt s 4 = .nils ∧ gt s 5 = .int .i64 1 ∧ H = H') (by simp only [↓runs, isCall, ↓reduceIte, ↓gd_true, ↓gd_false, evs, AV.cells, Nat.reduceEqDiff, Nat.reduceLT, reduceCtorEq, Nat.reduceAdd, sy, g0, g1, g21, hl]) ?_;rintro s _ ⟨hl, g4, g5, rfl⟩;refine wpo_nil (then_n ?_);refine AM.wp_ret ?_;refine then_r ?_;obtain rfl := Option.some.inj hp;refine body_ret (vs := [.nils, .int .i64 1]) (by simp only [rvs, f_congr_Quotient, Option.map_some, g4, g5]) ?_;exact ⟨W, (w4.trans w9), _, hst, rfl, (fz_nil _)⟩
  ·replace hp := ifF c10 hp;refine AM.wp_condF (by simp only [ev_t, ev_c, g21, c10]) ?_;refine AM.wp_skip ?_;refine then_n ?_;refine AM.wp_seq hp0 (AM.wp_reg hp0 ?_);refine wpo_seg hp0 1 (fun s H' => s.length = 66 ∧ gt s 0 = v_0 ∧ gt s 1 = v_1 ∧ gt s 22 = v_1 ∧ H = H') (by simp only [↓runs, isCall, ↓reduceIte, ↓gd_true, ↓gd_false, evs, AV.cells, Nat.reduceEqDiff, Nat.reduceLT, reduceCtorEq, Nat.reduceAdd, sy, g0, g1, g21, hl]) ?_;rintro s _ ⟨hl, g0, g1, g22, rfl⟩;obtain ⟨r11, e12, hp⟩ := bn hp;refine wpo_callK hp0 rfl (ys := [v_1]) (by simp only [evs, List.map_cons, List.map_nil, ev_t, ev_c, g22]) (R_congr_firsts hst h_1 e12) ?_;rintro rv13 H ⟨W, w14, fg15, hst, o16⟩;replace h_0 := Rp.mono w14 h_0;replace h_1 := Rp.mono w14 h_1;refine wpo_seg hp0 1 (fun s H' => s.length = 66 ∧ gt s 0 = v_0 ∧ gt s 1 = v_1 ∧ gt s 7 = rv13 ∧ H = H') (by simp only [↓runs, isCall, ↓reduceIte, ↓gd_true, ↓gd_false, evs, AV.cells, Nat.reduceEqDiff, Nat.reduceLT, reduceCtorEq, Nat.reduceAdd, sy, gt_other, g0, g1, g22, hl]) ?_;rintro s _ ⟨hl, g0, g1, g7, rfl⟩;refine wpo_nil (then_n ?_);refine AM.wp_seq hp0 (AM.wp_reg hp0 ?_);have f17 := ow_ln o16;have b18 := ow_big o16;obtain ⟨x19, e20, hp⟩ := bn hp;obtain ⟨v21, H22, fg23, W, f25, w24, hst, o26⟩ := od_mk (kn := .i64) (kc := .i64) Int hst e20;replace h_0 := Rp.mono w24 h_0;replace h_1 := Rp.mono w24 h_1;replace o16 := o16.mono w24;refine wpo_seg hp0 4 (fun s H' => s.length = 66 ∧ gt s 0 = v_0 ∧ gt s 1 = v_1 ∧ gt s 7 = rv13 ∧ gt s 8 = v21 ∧ H22 = H') (by simp only [↓runs, isCall, ↓reduceIte, ↓gd_true, ↓gd_false, evs, AV.cells, Nat.reduceEqDiff, Nat.reduceLT, reduceCtorEq, Nat.reduceAdd, sy, f17, f25, g0, g1, g7, hl]) ?_;rintro s _ ⟨hl, g0, g1, g7, g8, rfl⟩;refine wpo_nil (then_n ?_);refine AM.wp_seq hp0 (AM.wp_seq hp0 (AM.wp_reg hp0 ?_));have f27 := ow_ln o16;have b28 := ow_big o16;refine wpo_seg hp0 3 (fun s H' => s.length = 66 ∧ gt s 0 = v_0 ∧ gt s 1 = v_1 ∧ gt s 7 = rv13 ∧ gt s 8 = v21 ∧ gt s 27 = rv13 ∧ gt s 28 = .int .i64 (r11.length : Int) ∧ gt s 29 = .int .i64 0 ∧ H22 = H') (by simp only [↓runs, isCall, ↓reduceIte, ↓gd_true, ↓gd_false, evs, AV.cells, Nat.reduceEqDiff, Nat.reduceLT, reduceCtorEq, Nat.reduceAdd, sy, f27, g0, g1, g7, g8, hl]) ?_;rintro s _ ⟨hl, g0, g1, g7, g8, g27, g28, g29, rfl⟩;refine wpo_nil (then_n ?_);obtain ⟨z35, e36, hp⟩ := bn hp;refine rangeS_ref hp0 66 r11.length (fun k x => P_congr_Quotient_l29 p_ r11 t k x) (fun _ x s H' => ∃ (W' : AH) (qo2 : Frag), s.length = 66 ∧ gt s 0 = v_0 ∧ gt s 1 = v_1 ∧ gt s 7 = rv13 ∧ gt s 8 = v21 ∧ gt s 27 = rv13 ∧  Wle W W' ∧ St (qo2 :: fg15 :: G) W' H' ∧ OwD W' v21 qo2 (x : List (List Int))) e36 (b28) rfl ?_ ?_ hl g29 g28 ?_ ?_
   ·intro k x s H d v hd h; rcases hd with rfl | rfl | rfl <;> simpa only [gt_other, pt_length, Nat.reduceEqDiff, not_false_eq_true] using h
   ·replace hst := hst.p1;replace hst := hst.p1;exact ⟨W, _, hl, g0, g1, g7, g8, g27, .refl _, hst, o26⟩
   ·intro k31 x30 y32 s H hk hI hl g29 g28 hy33;change P_congr_Quotient_l29 p_ r11 t k31 x30 = some y32 at hy33;unfold P_congr_Quotient_l29 at hy33;obtain ⟨W, fg39, hl, g0, g1, g7, g8, g27, w38, hst, o40⟩ := hI;replace h_0 := Rp.mono w38 h_0;replace h_1 := Rp.mono w38 h_1;replace o16 := o16.mono w38;refine AM.wp_seq hp0 (AM.wp_reg hp0 ?_);obtain ⟨x41, e42, hy33⟩ := bn hy33;obtain ⟨p43, _, f45, f46, rfl⟩ := ow_at (k := .i64) hst (.tail _ (.head _)) o16 e42 rfl;refine wpo_seg hp0 5 (fun s H' => s.length = 66 ∧ gt s 0 = v_0 ∧ gt s 1 = v_1 ∧ gt s 7 = rv13 ∧ gt s 8 = v21 ∧ gt s 9 = .int .i64 (k31 : Int) ∧ gt s 10 = .int .i64 x41 ∧ gt s 27 = rv13 ∧ gt s 28 = .int .i64 (r11.length : Int) ∧ gt s 29 = .int .i64 (k31 : Int) ∧ H = H') (by simp only [↓runs, isCall, ↓reduceIte, ↓gd_true, ↓gd_false, evs, AV.cells, Nat.reduceEqDiff, Nat.reduceLT, reduceCtorEq, Nat.reduceAdd, sy, f45, f46, g0, g1, g7, g8, g27, g28, g29, hl]) ?_;rintro s _ ⟨hl, g0, g1, g7, g8, g9, g10, g27, g28, g29, rfl⟩;refine wpo_nil (then_n ?_);refine AM.wp_seq hp0 (AM.wp_reg hp0 ?_);have f48 := ow_ln o16;have b49 := ow_big o16;obtain ⟨x50, e51, hy33⟩ := bn hy33;obtain ⟨v52, H53, fg54, W, f56, w55, hst, o57⟩ := ow_mk (kn := .i64) (kc := .i64) hst (show Rp.rv _ (.int .i64 0) (0 : Int) from rfl) [.int .i64 0] rfl e51;replace h_0 := Rp.mono w55 h_0;replace h_1 := Rp.mono w55 h_1;replace o16 := o16.mono w55;replace o40 := o40.mono w55;obtain ⟨x58, e59, hy33⟩ := bn hy33;replace hst := hst.p1;obtain ⟨p60, v61, fg62, fg63, f64, f65, hst, o66, o67⟩ := od_open (k := .i64) hst o40 e59;replace hst := hst.drop;replace hst := hst.p1;obtain ⟨p68, H69, fg70, f71, f72, hst, o73⟩ := od_put (k := .i64) hst o57 o67 (gi_nn e59);obtain rfl := Option.some.inj (f71.symm.trans f64);refine wpo_seg hp0 7 (fun s H' => s.length = 66 ∧ gt s 0 = v_0 ∧ gt s 1 = v_1 ∧ gt s 7 = rv13 ∧ gt s 8 = v21 ∧ gt s 9 = .int .i64 (k31 : Int) ∧ gt s 10 = .int .i64 x41 ∧ gt s 27 = rv13 ∧ gt s 28 = .int .i64 (r11.length : Int) ∧ gt s 29 = .int .i64 (k31 : Int) ∧ H69 = H') (by simp only [↓runs, isCall, ↓reduceIte, ↓gd_true, ↓gd_false, evs, AV.cells, Nat.reduceEqDiff, Nat.reduceLT, reduceCtorEq, Nat.reduceAdd, sy, f48, f56, f64, f65, f71, f72, g0, g1, g7, g8, g9, g10, g27, g28, g29, hl]) ?_;rintro s _ ⟨hl, g0, g1, g7, g8, g9, g10, g27, g28, g29, rfl⟩;refine wpo_nil (then_n ?_);refine AM.wp_seq hp0 (AM.wp_reg hp0 ?_);have f74 := ow_ln o16;have b75 := ow_big o16;refine wpo_seg hp0 3 (fun s H' => s.length = 66 ∧ gt s 0 = v_0 ∧ gt s 1 = v_1 ∧ gt s 7 = rv13 ∧ gt s 8 = v21 ∧ gt s 9 = .int .i64 (k31 : Int) ∧ gt s 10 = .int .i64 x41 ∧ gt s 27 = rv13 ∧ gt s 28 = .int .i64 (r11.length : Int) ∧ gt s 29 = .int .i64 (k31 : Int) ∧ gt s 40 = rv13 ∧ gt s 41 = .int .i64 (r11.length : Int) ∧ gt s 42 = .int .i64 0 ∧ H69 = H') (by simp only [↓runs, isCall, ↓reduceIte, ↓gd_true, ↓gd_false, evs, AV.cells, Nat.reduceEqDiff, Nat.reduceLT, reduceCtorEq, Nat.reduceAdd, sy, f74, g0, g1, g7, g8, g9, g10, g27, g28, g29, hl]) ?_;rintro s _ ⟨hl, g0, g1, g7, g8, g9, g10, g27, g28, g29, g40, g41, g42, rfl⟩;refine wpo_nil (then_n ?_);obtain ⟨z82, e83, hy33⟩ := bn hy33;refine rangeS_ref hp0 66 r11.length (fun k x => P_congr_Quotient_l76 k31 p_ r11 t x41 k x) (fun _ x s H' => ∃ (W' : AH) (qo2 : Frag), s.length = 66 ∧ gt s 0 = v_0 ∧ gt s 1 = v_1 ∧ gt s 7 = rv13 ∧ gt s 8 = v21 ∧ gt s 9 = .int .i64 (k31 : Int) ∧ gt s 10 = .int .i64 x41 ∧ gt s 27 = rv13 ∧ gt s 28 = .int .i64 (r11.length : Int) ∧ gt s 29 = .int .i64 (k31 : Int) ∧ gt s 40 = rv13 ∧  Wle W W' ∧ St (qo2 :: fg15 :: G) W' H' ∧ OwD W' v21 qo2 (x : List (List Int))) e83 (b75) rfl ?_ ?_ hl g42 g41 ?_ ?_
    ·intro k x s H d v hd h; rcases hd with rfl | rfl | rfl <;> simpa only [gt_other, pt_length, Nat.reduceEqDiff, not_false_eq_true] using h
    ·replace hst := hst.p1;replace hst := hst.p1;exact ⟨W, _, hl, g0, g1, g7, g8, g9, g10, g27, g28, g29, g40, .refl _, hst, o73⟩
    ·intro k78 x77 y79 s H hk hI hl g42 g41 hy80;change P_congr_Quotient_l76 k31 p_ r11 t x41 k78 x77 = some y79 at hy80;unfold P_congr_Quotient_l76 at hy80;obtain ⟨W, fg86, hl, g0, g1, g7, g8, g9, g10, g27, g28, g29, g40, w85, hst, o87⟩ := hI;replace h_0 := Rp.mono w85 h_0;replace h_1 := Rp.mono w85 h_1;replace o16 := o16.mono w85;refine AM.wp_seq hp0 (AM.wp_reg hp0 ?_);obtain ⟨x88, e89, hy80⟩ := bn hy80;obtain ⟨p90, _, f92, f93, rfl⟩ := ow_at (k := .i64) hst (.tail _ (.head _)) o16 e89 rfl;refine wpo_seg hp0 5 (fun s H' => s.length = 66 ∧ gt s 0 = v_0 ∧ gt s 1 = v_1 ∧ gt s 7 = rv13 ∧ gt s 8 = v21 ∧ gt s 9 = .int .i64 (k31 : Int) ∧ gt s 10 = .int .i64 x41 ∧ gt s 11 = .int .i64 (k78 : Int) ∧ gt s 12 = .int .i64 x88 ∧ gt s 27 = rv13 ∧ gt s 28 = .int .i64 (r11.length : Int) ∧ gt s 29 = .int .i64 (k31 : Int) ∧ gt s 40 = rv13 ∧ gt s 41 = .int .i64 (r11.length : Int) ∧ gt s 42 = .int .i64 (k78 : Int) ∧ H = H') (by simp only [↓runs, isCall, ↓reduceIte, ↓gd_true, ↓gd_false, evs, AV.cells, Nat.reduceEqDiff, Nat.reduceLT, reduceCtorEq, Nat.reduceAdd, sy, f92, f93, g0, g1, g7, g8, g9, g10, g27, g28, g29, g40, g41, g42, hl]) ?_;rintro s _ ⟨hl, g0, g1, g7, g8, g9, g10, g11, g12, g27, g28, g29, g40, g41, g42, rfl⟩;refine wpo_nil (then_n ?_);refine AM.wp_reg hp0 ?_;obtain ⟨x95, e96, hy80⟩ := bn hy80;obtain ⟨p97, v98, fg99, fg100, f101, f102, hst, o103, o104⟩ := od_open (k := .i64) hst o87 e96;obtain rfl := Option.some.inj (f101.symm.trans f71);obtain ⟨x105, e106, hy80⟩ := bn hy80;obtain ⟨p107, y108, f109, f110, h111⟩ := fz_at (k := .i64) hst h_0 e106 rfl;obtain ⟨x112, e113, hy80⟩ := bn hy80;obtain ⟨p114, _, f116, f117, rfl⟩ := fz_at (k := .i64) hst h111 e113 rfl;obtain ⟨x119, e120, hy80⟩ := bn hy80;obtain ⟨p121, _, f123, f124, rfl⟩ := fz_at (k := .i64) hst h_1 e120 rfl;obtain ⟨x126, e127, hy80⟩ := bn hy80;obtain ⟨p128, H129, fg130, f131, f132, hst, o133⟩ := ow_set (k := .i64) 1 rfl hst o103 (show Rp.rv W (.int .i64 x119) (x119 : Int) from rfl) e127;replace hst := hst.p1;replace hst := hst.p1;obtain ⟨fg134, hst, o135⟩ := od_close hst o133 o104;refine wpo_seg hp0 17 (fun s H' => s.length = 66 ∧ gt s 0 = v_0 ∧ gt s 1 = v_1 ∧ gt s 7 = rv13 ∧ gt s 8 = v21 ∧ gt s 9 = .int .i64 (k31 : Int) ∧ gt s 10 = .int .i64 x41 ∧ gt s 27 = rv13 ∧ gt s 28 = .int .i64 (r11.length : Int) ∧ gt s 29 = .int .i64 (k31 : Int) ∧ gt s 40 = rv13 ∧ gt s 41 = .int .i64 (r11.length : Int) ∧ gt s 42 = .int .i64 (k78 : Int) ∧ H129 = H') (by simp (maxSteps := 1000000) only [↓runs, isCall, ↓reduceIte, ↓gd_true, ↓gd_false, evs, AV.cells, Nat.reduceEqDiff, Nat.reduceLT, reduceCtorEq, Nat.reduceAdd, sy, f101, f102, f109, f110, f116, f117, f123, f124, f131, f132, g0, g1, g7, g8, g9, g10, g11, g12, g27, g28, g29, g40, g41, g42, hl]) ?_;rintro s _ ⟨hl, g0, g1, g7, g8, g9, g10, g27, g28, g29, g40, g41, g42, rfl⟩;refine wpo_nil ?_;refine rnd_n ?_;obtain rfl := Option.some.inj hy80;replace hst := hst.p1;replace hst := hst.p1;exact ⟨hl, g42, g41, ⟨W, _, hl, g0, g1, g7, g8, g9, g10, g27, g28, g29, g40, w85, hst, o135⟩⟩
    ·rintro s H hI _;obtain ⟨W, fg137, hl, g0, g1, g7, g8, g9, g10, g27, g28, g29, g40, w136, hst, o138⟩ := hI;replace h_0 := Rp.mono w136 h_0;replace h_1 := Rp.mono w136 h_1;replace o16 := o16.mono w136;refine rnd_n ?_;obtain rfl := Option.some.inj hy33;replace hst := hst.p1;replace hst := hst.p1;exact ⟨hl, g29, g28, ⟨W, _, hl, g0, g1, g7, g8, g27, ((w38.trans w55).trans w136), hst, o138⟩⟩
   ·rintro s H hI _;obtain ⟨W, fg140, hl, g0, g1, g7, g8, g27, w139, hst, o141⟩ := hI;replace h_0 := Rp.mono w139 h_0;replace h_1 := Rp.mono w139 h_1;replace o16 := o16.mono w139;refine then_n ?_;refine AM.wp_seq hp0 (AM.wp_reg hp0 ?_);refine wpo_seg hp0 3 (fun s H' => s.length = 66 ∧ gt s 4 = v21 ∧ gt s 5 = .int .i64 0 ∧ H = H') (by simp only [↓runs, isCall, ↓reduceIte, ↓gd_true, ↓gd_false, evs, AV.cells, Nat.reduceEqDiff, Nat.reduceLT, reduceCtorEq, Nat.reduceAdd, sy, g0, g1, g7, g8, g27, hl]) ?_;rintro s _ ⟨hl, g4, g5, rfl⟩;refine wpo_nil (then_n ?_);refine AM.wp_ret ?_;obtain ⟨W, w143, hst, h142⟩ := od_frz hst o141;replace o16 := o16.mono w143;obtain rfl := Option.some.inj hp;replace hst := hst.drop;refine body_ret (vs := [v21, .int .i64 0]) (by simp only [rvs, f_congr_Quotient, Option.map_some, g4, g5]) ?_;exact ⟨W, (((((w4.trans w9).trans w14).trans w24).trans w139).trans w143), _, hst, rfl, h142⟩

end Go.Proofs.Ytmdpejgnkoneoaa.Pu
set_option maxRecDepth 100000
set_option maxHeartbeats 4000000
namespace Go.Proofs.Ytmdpejgnkoneoaa.Pu
open Go Go.AM Go.Proofs.Ytmdpejgnkoneoaa.Code

noncomputable def P_semigroupref03_Classes_l14 (p_ : List Int) (k16 : Nat) (x15 : List (List Int)) : Option ((List (List Int))) :=
 Option.bind (gi p_ (k16 : Int)) fun x26 =>
 Option.bind (gi x15 x26) fun x33 =>
 Option.bind (pus 8 x33 [(k16 : Int)]) fun x54 =>
 some (List.set x15 (x26).toNat x54)
noncomputable def P_semigroupref03_Classes (p_ : List Int) : Option ((List (List Int))) :=
 Option.bind (P_semigroupref03_Count p_) fun r1 =>
 Option.bind (mkz (α := List Int) 24 r1 r1 []) fun x5 =>
 Option.bind (forS p_.length (fun k x => P_semigroupref03_Classes_l14 p_ k x) x5) fun z20 =>
 some z20
theorem R_semigroupref03_Classes {G : List Frag} {W H : AH} {v_0 : AV} {p_ : List Int} (hst : St G W H) (h_0 : Rp.rv W v_0 p_) {r : (List (List Int))} (hp : P_semigroupref03_Classes p_ = some r) :
  wpc E0 N_semigroupref03_Classes [v_0] H fun rv H' => ∃ W', Wle W W' ∧ St G W' H' ∧ Rp.rv W' rv (r : List (List Int)) := by
 refine enterN (F := f_semigroupref03_Classes) rfl (Nat.le_of_ble_eq_true rfl) fun s hl hg => ?_;replace hl : s.length = 28 := hl;have g0 : gt s 0 = v_0 := hg 0 (Nat.le_of_ble_eq_true rfl);clear hg;unfold P_semigroupref03_Classes at hp;show wp E0 c_semigroupref03_Classes s H _;unfold c_semigroupref03_Classes;refine AM.wp_seq hp0 (AM.wp_reg hp0 ?_);refine wpo_seg hp0 1 (fun s H' => s.length = 28 ∧ gt s 0 = v_0 ∧ H = H') (by simp only [↓runs, isCall, ↓reduceIte, ↓gd_true, ↓gd_false, evs, AV.cells, Nat.reduceEqDiff, Nat.reduceLT, reduceCtorEq, Nat.reduceAdd, sy, g0, hl]) ?_;rintro s _ ⟨hl, g0, rfl⟩;refine wpo_nil (then_n ?_);refine AM.wp_seq hp0 (AM.wp_reg hp0 ?_);refine wpo_seg hp0 1 (fun s H' => s.length = 28 ∧ gt s 0 = v_0 ∧ gt s 6 = v_0 ∧ H = H') (by simp only [↓runs, isCall, ↓reduceIte, ↓gd_true, ↓gd_false, evs, AV.cells, Nat.reduceEqDiff, Nat.reduceLT, reduceCtorEq, Nat.reduceAdd, sy, g0, hl]) ?_;rintro s _ ⟨hl, g0, g6, rfl⟩;obtain ⟨r1, e2, hp⟩ := bn hp;refine wpo_callK hp0 rfl (ys := [v_0]) (by simp only [evs, List.map_cons, List.map_nil, ev_t, ev_c, g6]) (R_semigroupref03_Count hst h_0 e2) ?_;rintro rv3 H ⟨W, w4, hst, rfl⟩;replace h_0 := Rp.mono w4 h_0;obtain ⟨x5, e6, hp⟩ := bn hp;obtain ⟨v7, H8, fg9, W, f11, w10, hst, o12⟩ := od_mk (kn := .i64) (kc := .i64) Int hst e6;replace h_0 := Rp.mono w10 h_0;refine wpo_seg hp0 2 (fun s H' => s.length = 28 ∧ gt s 0 = v_0 ∧ gt s 3 = v7 ∧ H8 = H') (by simp only [↓runs, isCall, ↓reduceIte, ↓gd_true, ↓gd_false, evs, AV.cells, Nat.reduceEqDiff, Nat.reduceLT, reduceCtorEq, Nat.reduceAdd, sy, gt_other, f11, g0, g6, hl]) ?_;rintro s _ ⟨hl, g0, g3, rfl⟩;refine wpo_nil (then_n ?_);refine AM.wp_seq hp0 (AM.wp_seq hp0 (AM.wp_reg hp0 ?_));have f13 := fz_ln h_0;refine wpo_seg hp0 3 (fun s H' => s.length = 28 ∧ gt s 3 = v7 ∧ gt s 9 = v_0 ∧ gt s 10 = .int .i64 (p_.length : Int) ∧ gt s 11 = .int .i64 0 ∧ H8 = H') (by simp only [↓runs, isCall, ↓reduceIte, ↓gd_true, ↓gd_false, evs, AV.cells, Nat.reduceEqDiff, Nat.reduceLT, reduceCtorEq, Nat.reduceAdd, sy, f13, g0, g3, hl]) ?_;rintro s _ ⟨hl, g3, g9, g10, g11, rfl⟩;refine wpo_nil (then_n ?_);obtain ⟨z20, e21, hp⟩ := bn hp;refine rangeS_ref hp0 28 p_.length (fun k x => P_semigroupref03_Classes_l14 p_ k x) (fun _ x s H' => ∃ (W' : AH) (qo1 : Frag), s.length = 28 ∧ gt s 3 = v7 ∧ gt s 9 = v_0 ∧  Wle W W' ∧ St (qo1 :: G) W' H' ∧ OwD W' v7 qo1 (x : List (List Int))) e21 (fz_big h_0) rfl ?_ ?_ hl g11 g10 ?_ ?_
 ·intro k x s H d v hd h; rcases hd with rfl | rfl | rfl <;> simpa only [gt_other, pt_length, Nat.reduceEqDiff, not_false_eq_true] using h
 ·exact ⟨W, _, hl, g3, g9, .refl _, hst, o12⟩
 ·intro k16 x15 y17 s H hk hI hl g11 g10 hy18;change P_semigroupref03_Classes_l14 p_ k16 x15 = some y17 at hy18;unfold P_semigroupref03_Classes_l14 at hy18;obtain ⟨W, fg24, hl, g3, g9, w23, hst, o25⟩ := hI;replace h_0 := Rp.mono w23 h_0;refine AM.wp_seq hp0 (AM.wp_reg hp0 ?_);obtain ⟨x26, e27, hy18⟩ := bn hy18;obtain ⟨p28, _, f30, f31, rfl⟩ := fz_at (k := .i64) hst h_0 e27 rfl;refine wpo_seg hp0 5 (fun s H' => s.length = 28 ∧ gt s 3 = v7 ∧ gt s 4 = .int .i64 (k16 : Int) ∧ gt s 5 = .int .i64 x26 ∧ gt s 9 = v_0 ∧ gt s 10 = .int .i64 (p_.length : Int) ∧ gt s 11 = .int .i64 (k16 : Int) ∧ H = H') (by simp only [↓runs, isCall, ↓reduceIte, ↓gd_true, ↓gd_false, evs, AV.cells, Nat.reduceEqDiff, Nat.reduceLT, reduceCtorEq, Nat.reduceAdd, sy, f30, f31, g3, g9, g10, g11, hl]) ?_;rintro s _ ⟨hl, g3, g4, g5, g9, g10, g11, rfl⟩;refine wpo_nil (then_n ?_);refine AM.wp_reg hp0 ?_;obtain ⟨x33, e34, hy18⟩ := bn hy18;obtain ⟨p35, v36, fg37, fg38, f39, f40, hst, o41, o42⟩ := od_open (k := .i64) hst o25 e34;obtain ⟨v43, l44, H45, fg46, W, f48, f49, f50, w47, hst, o51⟩ := ow_lit' (n := 1) (k := 1) (z := [.int .i64 0]) (ys := [.int .i64 (k16 : Int)]) (M := ([(k16 : Int)] : List (Int))) [(0, 1, .int .i64 (k16 : Int))] rfl rfl hst (sc_cons (show Rp.rv _ (.int .i64 (k16 : Int)) ((k16 : Int) : Int) from rfl) (sc_nil)) ((List.forall_mem_cons.2 ⟨rfl, fun _ h => (List.not_mem_nil h).elim⟩)) rfl rfl rfl (by decide);replace h_0 := Rp.mono w47 h_0;replace o42 := o42.mono w47;replace o41 := o41.mono w47;obtain ⟨c52, sn53⟩ := ow_sn hst (.head _) o51;obtain ⟨x54, e55, hy18⟩ := bn hy18;replace hst := hst.p1;obtain ⟨v56, H57, fg58, W, f60, w59, hst, o61⟩ := ow_apps [.int .i64 0] rfl hst o41 sn53 e55;replace h_0 := Rp.mono w59 h_0;replace o42 := o42.mono w59;replace o51 := o51.mono w59;replace hst := hst.p2;replace hst := hst.p1;obtain ⟨p62, H63, fg64, f65, f66, hst, o67⟩ := od_put (k := .i64) hst o61 o42 (gi_nn e34);obtain rfl := Option.some.inj (f65.symm.trans f39);refine wpo_seg hp0 11 (fun s H' => s.length = 28 ∧ gt s 3 = v7 ∧ gt s 9 = v_0 ∧ gt s 10 = .int .i64 (p_.length : Int) ∧ gt s 11 = .int .i64 (k16 : Int) ∧ H63 = H') (by simp only [↓runs, isCall, ↓reduceIte, ↓gd_true, ↓gd_false, evs, AV.cells, Nat.reduceEqDiff, Nat.reduceLT, reduceCtorEq, Nat.reduceAdd, sy, f39, f40, f48, f49, f50, f60, f65, f66, g3, g4, g5, g9, g10, g11, hl]) ?_;rintro s _ ⟨hl, g3, g9, g10, g11, rfl⟩;refine wpo_nil ?_;refine rnd_n ?_;obtain rfl := Option.some.inj hy18;replace hst := hst.p1;replace hst := hst.drop;exact ⟨hl, g11, g10, ⟨W, _, hl, g3, g9, ((w23.trans w47).trans w59), hst, o67⟩⟩
 ·rintro s H hI _;obtain ⟨W, fg69, hl, g3, g9, w68, hst, o70⟩ := hI;replace h_0 := Rp.mono w68 h_0;refine then_n ?_;refine AM.wp_seq hp0 (AM.wp_reg hp0 ?_);refine wpo_seg hp0 2 (fun s H' => s.length = 28 ∧ gt s 2 = v7 ∧ H = H') (by simp only [↓runs, isCall, ↓reduceIte, ↓gd_true, ↓gd_false, evs, AV.cells, Nat.reduceEqDiff, Nat.reduceLT, reduceCtorEq, Nat.reduceAdd, sy, g3, g9, hl]) ?_;rintro s _ ⟨hl, g2, rfl⟩;refine wpo_nil (then_n ?_);refine AM.wp_ret ?_;obtain ⟨W, w72, hst, h71⟩ := od_frz hst o70;obtain rfl := Option.some.inj hp;refine body_ret (vs := [v7]) (by simp only [rvs, f_semigroupref03_Classes, Option.map_some, g2]) ?_;exact ⟨W, (((w4.trans w10).trans w68).trans w72), hst, h71⟩

end Go.Proofs.Ytmdpejgnkoneoaa.Pu
set_option maxRecDepth 100000
set_option maxHeartbeats 4000000
namespace Go.Proofs.Ytmdpejgnkoneoaa.Pu
open Go Go.AM Go.Proofs.Ytmdpejgnkoneoaa.Code

noncomputable def P_semigroupref19_Quotient_l29 (p_ : List Int) (r1 : (List (List Int))) (t : List (List Int)) (x21 : List Int) (k32 : Nat) (x31 : List Int) : Option ((List Int)) :=
 Option.bind (gi r1 (k32 : Int)) fun x43 =>
 Option.bind (gi x21 0) fun x50 =>
 Option.bind (gi t x50) fun x57 =>
 Option.bind (gi x43 0) fun x64 =>
 Option.bind (gi x57 x64) fun x71 =>
 Option.bind (gi p_ x71) fun x78 =>
 Option.bind (pus 8 x31 [x78]) fun x96 =>
 some x96
noncomputable def P_semigroupref19_Quotient_l7 (p_ : List Int) (r1 : (List (List Int))) (t : List (List Int)) (k10 : Nat) (x9 : List (List Int)) : Option ((List (List Int))) :=
 Option.bind (gi r1 (k10 : Int)) fun x21 =>
 Option.bind (forS r1.length (fun k x => P_semigroupref19_Quotient_l29 p_ r1 t x21 k x) []) fun z36 =>
 Option.bind (pus 24 x9 [z36]) fun x121 =>
 some x121
noncomputable def P_semigroupref19_Quotient (t : List (List Int)) (p_ : List Int) : Option ((List (List Int))) :=
 Option.bind (P_semigroupref03_Classes p_) fun r1 =>
 Option.bind (forS r1.length (fun k x => P_semigroupref19_Quotient_l7 p_ r1 t k x) []) fun z14 =>
 some z14
theorem R_semigroupref19_Quotient {G : List Frag} {W H : AH} {v_0 v_1 : AV} {t : List (List Int)} {p_ : List Int} (hst : St G W H) (h_0 : Rp.rv W v_0 t) (h_1 : Rp.rv W v_1 p_) {r : (List (List Int))} (hp : P_semigroupref19_Quotient t p_ = some r) :
  wpc E0 N_semigroupref19_Quotient [v_0, v_1] H fun rv H' => ∃ W', Wle W W' ∧ ∃ (g0 : Frag), St (g0 :: G) W' H' ∧ OwS W' rv g0 (r : List (List Int)) := by
 refine enterN (F := f_semigroupref19_Quotient) rfl (Nat.le_of_ble_eq_true rfl) fun s hl hg => ?_;replace hl : s.length = 50 := hl;have g0 : gt s 0 = v_0 := hg 0 (Nat.le_of_ble_eq_true rfl);have g1 : gt s 1 = v_1 := hg 1 (Nat.le_of_ble_eq_true rfl);clear hg;unfold P_semigroupref19_Quotient at hp;show wp E0 c_semigroupref19_Quotient s H _;unfold c_semigroupref19_Quotient;refine AM.wp_seq hp0 (AM.wp_reg hp0 ?_);refine wpo_seg hp0 1 (fun s H' => s.length = 50 ∧ gt s 0 = v_0 ∧ gt s 1 = v_1 ∧ H = H') (by simp only [↓runs, isCall, ↓reduceIte, ↓gd_true, ↓gd_false, evs, AV.cells, Nat.reduceEqDiff, Nat.reduceLT, reduceCtorEq, Nat.reduceAdd, sy, g0, g1, hl]) ?_;rintro s _ ⟨hl, g0, g1, rfl⟩;refine wpo_nil (then_n ?_);refine AM.wp_seq hp0 (AM.wp_reg hp0 ?_);refine wpo_seg hp0 1 (fun s H' => s.length = 50 ∧ gt s 0 = v_0 ∧ gt s 1 = v_1 ∧ gt s 12 = v_1 ∧ H = H') (by simp only [↓runs, isCall, ↓reduceIte, ↓gd_true, ↓gd_false, evs, AV.cells, Nat.reduceEqDiff, Nat.reduceLT, reduceCtorEq, Nat.reduceAdd, sy, g0, g1, hl]) ?_;rintro s _ ⟨hl, g0, g1, g12, rfl⟩;obtain ⟨r1, e2, hp⟩ := bn hp;refine wpo_callK hp0 rfl (ys := [v_1]) (by simp only [evs, List.map_cons, List.map_nil, ev_t, ev_c, g12]) (R_semigroupref03_Classes hst h_1 e2) ?_;rintro rv3 H ⟨W, w4, hst, h5⟩;replace h_0 := Rp.mono w4 h_0;replace h_1 := Rp.mono w4 h_1;refine wpo_seg hp0 1 (fun s H' => s.length = 50 ∧ gt s 0 = v_0 ∧ gt s 1 = v_1 ∧ gt s 5 = rv3 ∧ H = H') (by simp only [↓runs, isCall, ↓reduceIte, ↓gd_true, ↓gd_false, evs, AV.cells, Nat.reduceEqDiff, Nat.reduceLT, reduceCtorEq, Nat.reduceAdd, sy, gt_other, g0, g1, g12, hl]) ?_;rintro s _ ⟨hl, g0, g1, g5, rfl⟩;refine wpo_nil (then_n ?_);refine AM.wp_seq hp0 (AM.wp_reg hp0 ?_);refine wpo_seg hp0 1 (fun s H' => s.length = 50 ∧ gt s 0 = v_0 ∧ gt s 1 = v_1 ∧ gt s 5 = rv3 ∧ gt s 6 = .nils ∧ H = H') (by simp only [↓runs, isCall, ↓reduceIte, ↓gd_true, ↓gd_false, evs, AV.cells, Nat.reduceEqDiff, Nat.reduceLT, reduceCtorEq, Nat.reduceAdd, sy, g0, g1, g5, hl]) ?_;rintro s _ ⟨hl, g0, g1, g5, g6, rfl⟩;refine wpo_nil (then_n ?_);refine AM.wp_seq hp0 (AM.wp_seq hp0 (AM.wp_reg hp0 ?_));have f6 := fz_ln h5;refine wpo_seg hp0 3 (fun s H' => s.length = 50 ∧ gt s 0 = v_0 ∧ gt s 1 = v_1 ∧ gt s 5 = rv3 ∧ gt s 6 = .nils ∧ gt s 14 = rv3 ∧ gt s 15 = .int .i64 (r1.length : Int) ∧ gt s 16 = .int .i64 0 ∧ H = H') (by simp only [↓runs, isCall, ↓reduceIte, ↓gd_true, ↓gd_false, evs, AV.cells, Nat.reduceEqDiff, Nat.reduceLT, reduceCtorEq, Nat.reduceAdd, sy, f6, g0, g1, g5, g6, hl]) ?_;rintro s _ ⟨hl, g0, g1, g5, g6, g14, g15, g16, rfl⟩;refine wpo_nil (then_n ?_);replace hst := hst.nil;have o8 := ow_nil (α := List Int) W;obtain ⟨z14, e15, hp⟩ := bn hp;refine rangeS_ref hp0 50 r1.length (fun k x => P_semigroupref19_Quotient_l7 p_ r1 t k x) (fun _ x s H' => ∃ (W' : AH) (w6 : AV) (q6 : Frag), s.length = 50 ∧ gt s 6 = w6 ∧ gt s 0 = v_0 ∧ gt s 1 = v_1 ∧ gt s 5 = rv3 ∧ gt s 14 = rv3 ∧  Wle W W' ∧ St (q6 :: G) W' H' ∧ OwS W' w6 q6 (x : List (List Int))) e15 (fz_big h5) rfl ?_ ?_ hl g16 g15 ?_ ?_
 ·intro k x s H d v hd h; rcases hd with rfl | rfl | rfl <;> simpa only [gt_other, pt_length, Nat.reduceEqDiff, not_false_eq_true] using h
 ·exact ⟨W, _, _, hl, g6, g0, g1, g5, g14, .refl _, hst, o8⟩
 ·intro k10 x9 y11 s H hk hI hl g16 g15 hy12;change P_semigroupref19_Quotient_l7 p_ r1 t k10 x9 = some y11 at hy12;unfold P_semigroupref19_Quotient_l7 at hy12;obtain ⟨W, v18, fg19, hl, g6, g0, g1, g5, g14, w17, hst, o20⟩ := hI;replace h_0 := Rp.mono w17 h_0;replace h_1 := Rp.mono w17 h_1;replace h5 := Rp.mono w17 h5;refine AM.wp_seq hp0 (AM.wp_reg hp0 ?_);obtain ⟨x21, e22, hy12⟩ := bn hy12;obtain ⟨p23, y24, f25, f26, h27⟩ := fz_at (k := .i64) hst h5 e22 rfl;refine wpo_seg hp0 3 (fun s H' => s.length = 50 ∧ gt s 0 = v_0 ∧ gt s 1 = v_1 ∧ gt s 5 = rv3 ∧ gt s 6 = v18 ∧ gt s 8 = y24 ∧ gt s 14 = rv3 ∧ gt s 15 = .int .i64 (r1.length : Int) ∧ gt s 16 = .int .i64 (k10 : Int) ∧ H = H') (by simp only [↓runs, isCall, ↓reduceIte, ↓gd_true, ↓gd_false, evs, AV.cells, Nat.reduceEqDiff, Nat.reduceLT, reduceCtorEq, Nat.reduceAdd, sy, f25, f26, g0, g1, g5, g6, g14, g15, g16, hl]) ?_;rintro s _ ⟨hl, g0, g1, g5, g6, g8, g14, g15, g16, rfl⟩;refine wpo_nil (then_n ?_);refine AM.wp_seq hp0 (AM.wp_reg hp0 ?_);refine wpo_seg hp0 1 (fun s H' => s.length = 50 ∧ gt s 0 = v_0 ∧ gt s 1 = v_1 ∧ gt s 5 = rv3 ∧ gt s 6 = v18 ∧ gt s 8 = y24 ∧ gt s 9 = .nils ∧ gt s 14 = rv3 ∧ gt s 15 = .int .i64 (r1.length : Int) ∧ gt s 16 = .int .i64 (k10 : Int) ∧ H = H') (by simp only [↓runs, isCall, ↓reduceIte, ↓gd_true, ↓gd_false, evs, AV.cells, Nat.reduceEqDiff, Nat.reduceLT, reduceCtorEq, Nat.reduceAdd, sy, g0, g1, g5, g6, g8, g14, g15, g16, hl]) ?_;rintro s _ ⟨hl, g0, g1, g5, g6, g8, g9, g14, g15, g16, rfl⟩;refine wpo_nil (then_n ?_);refine AM.wp_seq hp0 (AM.wp_seq hp0 (AM.wp_reg hp0 ?_));have f28 := fz_ln h5;refine wpo_seg hp0 3 (fun s H' => s.length = 50 ∧ gt s 0 = v_0 ∧ gt s 1 = v_1 ∧ gt s 5 = rv3 ∧ gt s 6 = v18 ∧ gt s 8 = y24 ∧ gt s 9 = .nils ∧ gt s 14 = rv3 ∧ gt s 15 = .int .i64 (r1.length : Int) ∧ gt s 16 = .int .i64 (k10 : Int) ∧ gt s 20 = rv3 ∧ gt s 21 = .int .i64 (r1.length : Int) ∧ gt s 22 = .int .i64 0 ∧ H = H') (by simp only [↓runs, isCall, ↓reduceIte, ↓gd_true, ↓gd_false, evs, AV.cells, Nat.reduceEqDiff, Nat.reduceLT, reduceCtorEq, Nat.reduceAdd, sy, f28, g0, g1, g5, g6, g8, g9, g14, g15, g16, hl]) ?_;rintro s _ ⟨hl, g0, g1, g5, g6, g8, g9, g14, g15, g16, g20, g21, g22, rfl⟩;refine wpo_nil (then_n ?_);replace hst := hst.nil;have o30 := ow_nil (α := Int) W;obtain ⟨z36, e37, hy12⟩ := bn hy12;refine rangeS_ref hp0 50 r1.length (fun k x => P_semigroupref19_Quotient_l29 p_ r1 t x21 k x) (fun _ x s H' => ∃ (W' : AH) (w9 : AV) (q9 : Frag), s.length = 50 ∧ gt s 9 = w9 ∧ gt s 0 = v_0 ∧ gt s 1 = v_1 ∧ gt s 5 = rv3 ∧ gt s 6 = v18 ∧ gt s 8 = y24 ∧ gt s 14 = rv3 ∧ gt s 15 = .int .i64 (r1.length : Int) ∧ gt s 16 = .int .i64 (k10 : Int) ∧ gt s 20 = rv3 ∧  Wle W W' ∧ St (q9 :: fg19 :: G) W' H' ∧ OwS W' w9 q9 (x : List Int)) e37 (fz_big h5) rfl ?_ ?_ hl g22 g21 ?_ ?_
  ·intro k x s H d v hd h; rcases hd with rfl | rfl | rfl <;> simpa only [gt_other, pt_length, Nat.reduceEqDiff, not_false_eq_true] using h
  ·replace hst := hst.p1;replace hst := hst.p1;exact ⟨W, _, _, hl, g9, g0, g1, g5, g6, g8, g14, g15, g16, g20, .refl _, hst, o30⟩
  ·intro k32 x31 y33 s H hk hI hl g22 g21 hy34;change P_semigroupref19_Quotient_l29 p_ r1 t x21 k32 x31 = some y33 at hy34;unfold P_semigroupref19_Quotient_l29 at hy34;obtain ⟨W, v40, fg41, hl, g9, g0, g1, g5, g6, g8, g14, g15, g16, g20, w39, hst, o42⟩ := hI;replace h_0 := Rp.mono w39 h_0;replace h_1 := Rp.mono w39 h_1;replace h5 := Rp.mono w39 h5;replace h27 := Rp.mono w39 h27;replace o20 := o20.mono w39;refine AM.wp_seq hp0 (AM.wp_reg hp0 ?_);obtain ⟨x43, e44, hy34⟩ := bn hy34;obtain ⟨p45, y46, f47, f48, h49⟩ := fz_at (k := .i64) hst h5 e44 rfl;refine wpo_seg hp0 3 (fun s H' => s.length = 50 ∧ gt s 0 = v_0 ∧ gt s 1 = v_1 ∧ gt s 5 = rv3 ∧ gt s 6 = v18 ∧ gt s 8 = y24 ∧ gt s 9 = v40 ∧ gt s 11 = y46 ∧ gt s 14 = rv3 ∧ gt s 15 = .int .i64 (r1.length : Int) ∧ gt s 16 = .int .i64 (k10 : Int) ∧ gt s 20 = rv3 ∧ gt s 21 = .int .i64 (r1.length : Int) ∧ gt s 22 = .int .i64 (k32 : Int) ∧ H = H') (by simp only [↓runs, isCall, ↓reduceIte, ↓gd_true, ↓gd_false, evs, AV.cells, Nat.reduceEqDiff, Nat.reduceLT, reduceCtorEq, Nat.reduceAdd, sy, f47, f48, g0, g1, g5, g6, g8, g9, g14, g15, g16, g20, g21, g22, hl]) ?_;rintro s _ ⟨hl, g0, g1, g5, g6, g8, g9, g11, g14, g15, g16, g20, g21, g22, rfl⟩;refine wpo_nil (then_n ?_);refine AM.wp_reg hp0 ?_;obtain ⟨x50, e51, hy34⟩ := bn hy34;obtain ⟨p52, _, f54, f55, rfl⟩ := fz_at (k := .i64) hst h27 e51 rfl;obtain ⟨x57, e58, hy34⟩ := bn hy34;obtain ⟨p59, y60, f61, f62, h63⟩ := fz_at (k := .i64) hst h_0 e58 rfl;obtain ⟨x64, e65, hy34⟩ := bn hy34;obtain ⟨p66, _, f68, f69, rfl⟩ := fz_at (k := .i64) hst h49 e65 rfl;obtain ⟨x71, e72, hy34⟩ := bn hy34;obtain ⟨p73, _, f75, f76, rfl⟩ := fz_at (k := .i64) hst h63 e72 rfl;obtain ⟨x78, e79, hy34⟩ := bn hy34;obtain ⟨p80, _, f82, f83, rfl⟩ := fz_at (k := .i64) hst h_1 e79 rfl;obtain ⟨v85, l86, H87, fg88, W, f90, f91, f92, w89, hst, o93⟩ := ow_lit' (n := 1) (k := 1) (z := [.int .i64 0]) (ys := [.int .i64 x78]) (M := ([x78] : List (Int))) [(0, 1, .int .i64 x78)] rfl rfl hst (sc_cons (show Rp.rv _ (.int .i64 x78) (x78 : Int) from rfl) (sc_nil)) ((List.forall_mem_cons.2 ⟨rfl, fun _ h => (List.not_mem_nil h).elim⟩)) rfl rfl rfl (by decide);replace h_0 := Rp.mono w89 h_0;replace h_1 := Rp.mono w89 h_1;replace h5 := Rp.mono w89 h5;replace h27 := Rp.mono w89 h27;replace h49 := Rp.mono w89 h49;replace h63 := Rp.mono w89 h63;replace o20 := o20.mono w89;replace o42 := o42.mono w89;obtain ⟨c94, sn95⟩ := ow_sn hst (.head _) o93;obtain ⟨x96, e97, hy34⟩ := bn hy34;replace hst := hst.p1;obtain ⟨v98, H99, fg100, W, f102, w101, hst, o103⟩ := ow_apps [.int .i64 0] rfl hst o42 sn95 e97;replace h_0 := Rp.mono w101 h_0;replace h_1 := Rp.mono w101 h_1;replace h5 := Rp.mono w101 h5;replace h27 := Rp.mono w101 h27;replace h49 := Rp.mono w101 h49;replace h63 := Rp.mono w101 h63;replace o20 := o20.mono w101;replace o93 := o93.mono w101;refine wpo_seg hp0 18 (fun s H' => s.length = 50 ∧ gt s 0 = v_0 ∧ gt s 1 = v_1 ∧ gt s 5 = rv3 ∧ gt s 6 = v18 ∧ gt s 8 = y24 ∧ gt s 9 = v98 ∧ gt s 14 = rv3 ∧ gt s 15 = .int .i64 (r1.length : Int) ∧ gt s 16 = .int .i64 (k10 : Int) ∧ gt s 20 = rv3 ∧ gt s 21 = .int .i64 (r1.length : Int) ∧ gt s 22 = .int .i64 (k32 : Int) ∧ H99 = H') (by simp (maxSteps := 1000000) only [↓runs, isCall, ↓reduceIte, ↓gd_true, ↓gd_false, evs, AV.cells, Nat.reduceEqDiff, Nat.reduceLT, reduceCtorEq, Nat.reduceAdd, sy, f54, f55, f61, f62, f68, f69, f75, f76, f82, f83, f90, f91, f92, f102, g0, g1, g5, g6, g8, g9, g11, g14, g15, g16, g20, g21, g22, hl]) ?_;rintro s _ ⟨hl, g0, g1, g5, g6, g8, g9, g14, g15, g16, g20, g21, g22, rfl⟩;refine wpo_nil ?_;refine rnd_n ?_;obtain rfl := Option.some.inj hy34;replace hst := hst.p1;replace hst := hst.drop;replace hst := hst.p1;replace hst := hst.p1;exact ⟨hl, g22, g21, ⟨W, _, _, hl, g9, g0, g1, g5, g6, g8, g14, g15, g16, g20, ((w39.trans w89).trans w101), hst, o103⟩⟩
  ·rintro s H hI _;obtain ⟨W, v105, fg106, hl, g9, g0, g1, g5, g6, g8, g14, g15, g16, g20, w104, hst, o107⟩ := hI;replace h_0 := Rp.mono w104 h_0;replace h_1 := Rp.mono w104 h_1;replace h5 := Rp.mono w104 h5;replace h27 := Rp.mono w104 h27;replace o20 := o20.mono w104;refine then_n ?_;refine AM.wp_reg hp0 ?_;obtain ⟨W, w109, hst, h108⟩ := ow_frz hst o107;replace h_0 := Rp.mono w109 h_0;replace h_1 := Rp.mono w109 h_1;replace h5 := Rp.mono w109 h5;replace o20 := o20.mono w109;obtain ⟨v110, l111, H112, fg113, W, f115, f116, f117, w114, hst, o118⟩ := ow_lit' (n := 1) (k := 1) (z := [.nils]) (ys := [v105]) (M := ([z36] : List (List Int))) [(0, 1, v105)] rfl rfl hst (sc_cons (show Rp.rv _ (v105) (z36 : List Int) from h108) (sc_nil)) ((List.forall_mem_cons.2 ⟨(Rp.cells (show Rp.rv W (v105) (z36 : List Int) from h108)), fun _ h => (List.not_mem_nil h).elim⟩)) rfl rfl rfl (by decide);replace h_0 := Rp.mono w114 h_0;replace h_1 := Rp.mono w114 h_1;replace h5 := Rp.mono w114 h5;replace h108 := Rp.mono w114 h108;replace o20 := o20.mono w114;obtain ⟨c119, sn120⟩ := ow_sn hst (.head _) o118;obtain ⟨x121, e122, hy12⟩ := bn hy12;replace hst := hst.p1;obtain ⟨v123, H124, fg125, W, f127, w126, hst, o128⟩ := ow_apps [.nils] rfl hst o20 sn120 e122;replace h_0 := Rp.mono w126 h_0;replace h_1 := Rp.mono w126 h_1;replace h5 := Rp.mono w126 h5;replace h108 := Rp.mono w126 h108;replace o118 := o118.mono w126;refine wpo_seg hp0 5 (fun s H' => s.length = 50 ∧ gt s 0 = v_0 ∧ gt s 1 = v_1 ∧ gt s 5 = rv3 ∧ gt s 6 = v123 ∧ gt s 14 = rv3 ∧ gt s 15 = .int .i64 (r1.length : Int) ∧ gt s 16 = .int .i64 (k10 : Int) ∧ H124 = H') (by simp only [↓runs, isCall, ↓reduceIte, ↓gd_true, ↓gd_false, evs, AV.cells, Nat.reduceEqDiff, Nat.reduceLT, reduceCtorEq, Nat.reduceAdd, sy, f115, f116, f117, f127, g0, g1, g5, g6, g8, g9, g14, g15, g16, g20, hl]) ?_;rintro s _ ⟨hl, g0, g1, g5, g6, g14, g15, g16, rfl⟩;refine wpo_nil ?_;refine rnd_n ?_;obtain rfl := Option.some.inj hy12;replace hst := hst.p1;replace hst := hst.drop;exact ⟨hl, g16, g15, ⟨W, _, _, hl, g6, g0, g1, g5, g14, ((((w17.trans w104).trans w109).trans w114).trans w126), hst, o128⟩⟩
 ·rintro s H hI _;obtain ⟨W, v130, fg131, hl, g6, g0, g1, g5, g14, w129, hst, o132⟩ := hI;replace h_0 := Rp.mono w129 h_0;replace h_1 := Rp.mono w129 h_1;replace h5 := Rp.mono w129 h5;refine then_n ?_;refine AM.wp_seq hp0 (AM.wp_reg hp0 ?_);refine wpo_seg hp0 2 (fun s H' => s.length = 50 ∧ gt s 4 = v130 ∧ H = H') (by simp only [↓runs, isCall, ↓reduceIte, ↓gd_true, ↓gd_false, evs, AV.cells, Nat.reduceEqDiff, Nat.reduceLT, reduceCtorEq, Nat.reduceAdd, sy, g0, g1, g5, g6, g14, hl]) ?_;rintro s _ ⟨hl, g4, rfl⟩;refine wpo_nil (then_n ?_);refine AM.wp_ret ?_;obtain rfl := Option.some.inj hp;refine body_ret (vs := [v130]) (by simp only [rvs, f_semigroupref19_Quotient, Option.map_some, g4]) ?_;exact ⟨W, (w4.trans w129), _, hst, o132⟩

end Go.Proofs.Ytmdpejgnkoneoaa.Pu
