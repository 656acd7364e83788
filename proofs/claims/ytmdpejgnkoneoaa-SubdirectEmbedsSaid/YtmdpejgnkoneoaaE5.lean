/- Part 5 of the proof that the law SubdirectEmbeds holds: words and lemmas it rests on. No condition. -/
import Derived.Test.YtmdpejgnkoneoaaE4
import Derived.Test.YtmdpejgnkoneoaaE3
set_option linter.unusedSimpArgs false
set_option linter.unusedVariables false
set_option linter.unnecessarySimpa false
set_option linter.unusedSectionVars false
namespace Go.AM.Par
open Go.AM

def nubS (D : List Int) (x : Int) : List Int := if x ∈ D then D else D ++ [x]
def nub (L : List Int) : List Int := L.foldl nubS []
def canonI (L : List Int) : List Int := L.map fun x => ((nub L).idxOf x : Int)

theorem nub_snoc (L : List Int) (x : Int) : nub (L ++ [x]) = if x ∈ nub L then nub L else nub L ++ [x] := by
  simp only [nub, List.foldl_append, List.foldl_cons, List.foldl_nil]; rfl
theorem mem_foldl_nub (x : Int) : ∀ (L D : List Int), x ∈ L.foldl nubS D ↔ x ∈ D ∨ x ∈ L
  | [], D => by simp
  | y :: L, D => by
    simp only [List.foldl_cons, mem_foldl_nub x L, List.mem_cons, nubS]
    split
    · rename_i h
      constructor
      · rintro (h1 | h1)
        · exact .inl h1
        · exact .inr (.inr h1)
      · rintro (h1 | rfl | h1)
        · exact .inl h1
        · exact .inl h
        · exact .inr h1
    · simp [or_assoc]
theorem mem_nub {x : Int} {L : List Int} : x ∈ nub L ↔ x ∈ L := by simp [nub, mem_foldl_nub]
theorem take_getD {L : List Int} {k : Nat} (h : k < L.length) : L.take (k + 1) = L.take k ++ [L.getD k 0] := by
  rw [List.take_add_one]; simp [List.getD_eq_getElem?_getD, h]
theorem mem_take {L : List Int} {k : Nat} {x : Int} : x ∈ L.take k ↔ ∃ i, i < k ∧ i < L.length ∧ L.getD i 0 = x := by
  constructor
  · intro h
    obtain ⟨i, hi, rfl⟩ := List.mem_iff_getElem.1 h
    have hi2 : i < k ∧ i < L.length := by simp only [List.length_take] at hi; omega
    exact ⟨i, hi2.1, hi2.2, by simp [List.getD_eq_getElem?_getD, hi2.2]⟩
  · rintro ⟨i, h1, h2, rfl⟩
    rw [List.getD_eq_getElem?_getD, List.getElem?_eq_getElem h2, Option.getD_some]
    exact List.mem_iff_getElem.2 ⟨i, by simp; omega, by simp⟩

def isNew (L : List Int) (k : Nat) : Prop := ∀ i, i < k → L.getD i 0 ≠ L.getD k 0
theorem new_iff {L : List Int} {k : Nat} (h : k < L.length) : L.getD k 0 ∉ nub (L.take k) ↔ isNew L k := by
  rw [mem_nub, mem_take]
  constructor
  · intro h1 i hi e; exact h1 ⟨i, hi, by omega, e⟩
  · rintro h1 ⟨i, hi, -, e⟩; exact h1 i hi e
theorem nub_new {L : List Int} {k : Nat} (h : k < L.length) (hn : isNew L k) : nub (L.take (k + 1)) = nub (L.take k) ++ [L.getD k 0] := by
  rw [take_getD h, nub_snoc, if_neg ((new_iff h).2 hn)]
theorem nub_old {L : List Int} {k : Nat} (h : k < L.length) (hn : ¬ isNew L k) : nub (L.take (k + 1)) = nub (L.take k) := by
  rw [take_getD h, nub_snoc, if_pos (Classical.not_not.1 fun h1 => hn ((new_iff h).1 h1))]
theorem nub_le (L : List Int) : ∀ k, k ≤ L.length → (nub (L.take k)).length ≤ k
  | 0, _ => by simp [nub]
  | k + 1, h => by
    have ih := nub_le L k (by omega)
    by_cases hn : isNew L k
    · rw [nub_new (by omega) hn]; simp; omega
    · rw [nub_old (by omega) hn]; omega
theorem idx_stay {L : List Int} {x : Int} : ∀ (m k : Nat), k ≤ m → m ≤ L.length → x ∈ nub (L.take k) → (nub (L.take m)).idxOf x = (nub (L.take k)).idxOf x := by
  intro m
  induction m with
  | zero => intro k hk _ _; have : k = 0 := by omega
            subst this; rfl
  | succ m ih =>
    intro k hk hm hx
    rcases Nat.lt_or_ge k (m + 1) with h | h
    · have h1 := ih k (by omega) (by omega) hx
      by_cases hn : isNew L m
      · rw [nub_new (by omega) hn, List.idxOf_append, if_pos]
        · exact h1
        · rw [mem_nub, mem_take] at hx ⊢
          obtain ⟨i, a, b, c⟩ := hx
          exact ⟨i, by omega, b, c⟩
      · rw [nub_old (by omega) hn]; exact h1
    · have : k = m + 1 := by omega
      subst this; rfl

@[simp] theorem canonI_length {L : List Int} : (canonI L).length = L.length := by simp [canonI]
theorem canonI_at {L : List Int} {k : Nat} (h : k < L.length) : (canonI L).getD k 0 = ((nub L).idxOf (L.getD k 0) : Int) := by
  simp [canonI, List.getD_eq_getElem?_getD, h]
theorem canonI_new {L : List Int} {k : Nat} (h : k < L.length) (hn : isNew L k) : (canonI L).getD k 0 = ((nub (L.take k)).length : Int) := by
  rw [canonI_at h]
  have h1 : (nub (L.take L.length)).idxOf (L.getD k 0) = (nub (L.take (k + 1))).idxOf (L.getD k 0) := idx_stay _ _ (by omega) (Nat.le_refl _) (by rw [mem_nub, mem_take]; exact ⟨k, by omega, h, rfl⟩)
  rw [List.take_length] at h1
  rw [h1, nub_new h hn, List.idxOf_append, if_neg ((new_iff h).2 hn)]
  simp
theorem canonI_old {L : List Int} {i k : Nat} (h : k < L.length) (hi : i < k) (he : L.getD i 0 = L.getD k 0) : (canonI L).getD k 0 = (canonI L).getD i 0 := by
  rw [canonI_at h, canonI_at (by omega), he]
theorem canonI_lt {L : List Int} {k : Nat} (h : k < L.length) {m : Nat} (hm : k < m) (hm2 : m ≤ L.length) : 0 ≤ (canonI L).getD k 0 ∧ (canonI L).getD k 0 < ((nub (L.take m)).length : Int) := by
  rw [canonI_at h]
  have h0 : L.getD k 0 ∈ nub (L.take m) := by rw [mem_nub, mem_take]; exact ⟨k, hm, h, rfl⟩
  have h1 : (nub (L.take L.length)).idxOf (L.getD k 0) = (nub (L.take m)).idxOf (L.getD k 0) := idx_stay _ _ hm2 (Nat.le_refl _) h0
  rw [List.take_length] at h1
  rw [h1]
  have := List.idxOf_lt_length_iff.2 h0
  omega
theorem canonI_ker {L : List Int} {i j : Nat} (hi : i < L.length) (hj : j < L.length) : (canonI L).getD i 0 = (canonI L).getD j 0 ↔ L.getD i 0 = L.getD j 0 := by
  rw [canonI_at hi, canonI_at hj]
  constructor
  · intro h
    have h' : (nub L).idxOf (L.getD i 0) = (nub L).idxOf (L.getD j 0) := by omega
    have a := List.getElem_idxOf (List.idxOf_lt_length_iff.2 (mem_nub.2 (getD_mem (d := (0 : Int)) hi)))
    have b := List.getElem_idxOf (List.idxOf_lt_length_iff.2 (mem_nub.2 (getD_mem (d := (0 : Int)) hj)))
    rw [← a, ← b]
    simp only [h']
  · intro h; rw [h]
theorem canonI_unique {A B : List Int} (hl : A.length = B.length) (h : ∀ i j, i < A.length → j < A.length → (A.getD i 0 = A.getD j 0 ↔ B.getD i 0 = B.getD j 0)) : canonI A = canonI B := by
  have hnew : ∀ k, k < A.length → (isNew A k ↔ isNew B k) := fun k hk => by
    unfold isNew
    constructor
    · intro h1 i hi e; exact h1 i hi ((h i k (by omega) hk).2 e)
    · intro h1 i hi e; exact h1 i hi ((h i k (by omega) hk).1 e)
  have hlen : ∀ k, k ≤ A.length → (nub (A.take k)).length = (nub (B.take k)).length := by
    intro k
    induction k with
    | zero => intro _; simp [nub]
    | succ k ih =>
      intro hk
      have := ih (by omega)
      by_cases hn : isNew A k
      · rw [nub_new (by omega) hn, nub_new (by omega) ((hnew k (by omega)).1 hn)]; simp [this]
      · rw [nub_old (by omega) hn, nub_old (by omega) fun h1 => hn ((hnew k (by omega)).2 h1)]; exact this
  have key : ∀ k, k < A.length → (canonI A).getD k 0 = (canonI B).getD k 0 := by
    intro k
    induction k using Nat.strongRecOn with
    | ind k ih =>
      intro hk
      by_cases hn : isNew A k
      · rw [canonI_new hk hn, canonI_new (by omega) ((hnew k hk).1 hn), hlen k (by omega)]
      · have : ∃ i, i < k ∧ A.getD i 0 = A.getD k 0 := by
          refine Classical.byContradiction fun hc => hn fun i hi e => hc ⟨i, hi, e⟩
        obtain ⟨i, hi, e⟩ := this
        rw [canonI_old hk hi e, canonI_old (by omega) hi ((h i k (by omega) hk).1 e)]
        exact ih i hi (by omega)
  exact list_ext 0 (by simp [hl]) fun i hi => key i (by simpa using hi)
theorem canonI_idem (L : List Int) : canonI (canonI L) = canonI L :=
  canonI_unique (by simp) fun i j hi hj => by simp only [canonI_length] at hi hj; exact canonI_ker hi hj

def rgGo : List Int → Nat → Bool
  | [], _ => true
  | x :: L, m => if x < 0 then false else if (m : Int) < x then false else rgGo L (if x = m then m + 1 else m)
def validP (L : List Int) : Bool := decide (L.length ≤ 4096) && rgGo L 0
theorem drop_getD {L : List Int} {k : Nat} (h : k < L.length) : L.drop k = L.getD k 0 :: L.drop (k + 1) := by
  rw [List.drop_eq_getElem_cons h]; simp [List.getD_eq_getElem?_getD, h]

theorem rg_canon (L : List Int) : ∀ (m k : Nat), k + m = L.length → rgGo ((canonI L).drop k) (nub (L.take k)).length = true := by
  intro m
  induction m with
  | zero => intro k hk; rw [List.drop_eq_nil_of_le (by simp; omega)]; rfl
  | succ m ih =>
    intro k hk
    have hkl : k < L.length := by omega
    rw [drop_getD (by simpa using hkl)]
    simp only [rgGo]
    have ih' := ih (k + 1) (by omega)
    by_cases hn : isNew L k
    · have h1 := canonI_new hkl hn
      rw [h1, if_neg (by omega), if_neg (by omega), if_pos rfl]
      rw [nub_new hkl hn] at ih'
      simpa using ih'
    · have : ∃ i, i < k ∧ L.getD i 0 = L.getD k 0 := by
        refine Classical.byContradiction fun hc => hn fun i hi e => hc ⟨i, hi, e⟩
      obtain ⟨i, hi, e⟩ := this
      have h1 := canonI_old hkl hi e
      have h2 := canonI_lt (L := L) (k := i) (by omega) hi (by omega)
      rw [h1, if_neg (by omega), if_neg (by omega), if_neg (by omega)]
      rw [nub_old hkl hn] at ih'
      exact ih'
theorem canon_rg (L : List Int) : ∀ (m k : Nat), k + m = L.length → rgGo (L.drop k) (nub (L.take k)).length = true → (∀ i, i < k → L.getD i 0 = (canonI L).getD i 0) → ∀ i, i < L.length → L.getD i 0 = (canonI L).getD i 0 := by
  intro m
  induction m with
  | zero => intro k hk _ h i hi; exact h i (by omega)
  | succ m ih =>
    intro k hk hr h
    have hkl : k < L.length := by omega
    rw [drop_getD hkl] at hr
    simp only [rgGo] at hr
    split at hr
    · cases hr
    · rename_i h0
      split at hr
      · cases hr
      · rename_i h1
        by_cases hn : isNew L k
        · have e1 := canonI_new hkl hn
          -- a smaller number was met already
          have e2 : L.getD k 0 = ((nub (L.take k)).length : Int) := by
            refine Classical.byContradiction fun hne => ?_
            have hlt : L.getD k 0 < ((nub (L.take k)).length : Int) := by omega
            have key : ∀ (q k : Nat), k ≤ L.length → (q : Int) < ((nub (L.take k)).length : Int) → (∀ i, i < k → L.getD i 0 = (canonI L).getD i 0) → ∃ i, i < k ∧ L.getD i 0 = (q : Int) := by
              intro q k
              induction k with
              | zero => intro _ h _; simp [nub] at h; omega
              | succ k ihk =>
                intro hk hq hh
                by_cases hn : isNew L k
                · rw [nub_new (by omega) hn] at hq
                  simp only [List.length_append, List.length_singleton] at hq
                  rcases Nat.lt_or_ge q (nub (L.take k)).length with h5 | h5
                  · obtain ⟨i, a, b⟩ := ihk (by omega) (by omega) fun i hi => hh i (by omega)
                    exact ⟨i, by omega, b⟩
                  · refine ⟨k, by omega, ?_⟩
                    rw [hh k (by omega), canonI_new (by omega) hn]
                    omega
                · rw [nub_old (by omega) hn] at hq
                  obtain ⟨i, a, b⟩ := ihk (by omega) hq fun i hi => hh i (by omega)
                  exact ⟨i, by omega, b⟩
            obtain ⟨i, a, b⟩ := key (L.getD k 0).toNat k (by omega) (by omega) h
            exact hn i a (by omega)
          refine ih (k + 1) (by omega) ?_ ?_
          · rw [nub_new hkl hn]
            rw [if_pos e2] at hr
            simpa using hr
          · intro i hi
            rcases Nat.lt_or_ge i k with h5 | h5
            · exact h i h5
            · have : i = k := by omega
              subst this; rw [e1, e2]
        · have : ∃ i, i < k ∧ L.getD i 0 = L.getD k 0 := by
            refine Classical.byContradiction fun hc => hn fun i hi e => hc ⟨i, hi, e⟩
          obtain ⟨i, hi, e⟩ := this
          have e1 := canonI_old hkl hi e
          have e2 := canonI_lt (L := L) (k := i) (by omega) hi (by omega)
          rw [← h i hi, e] at e1 e2
          refine ih (k + 1) (by omega) ?_ ?_
          · rw [nub_old hkl hn]
            rw [if_neg (by omega)] at hr
            exact hr
          · intro j hj
            rcases Nat.lt_or_ge j k with h5 | h5
            · exact h j h5
            · have : j = k := by omega
              subst this; exact e1.symm
theorem validP_iff {L : List Int} : validP L = true ↔ L.length ≤ 4096 ∧ canonI L = L := by
  unfold validP
  simp only [Bool.and_eq_true, decide_eq_true_eq]
  refine and_congr_right fun _ => ⟨fun h => ?_, fun h => ?_⟩
  · exact list_ext 0 (by simp) fun i hi => (canon_rg L L.length 0 (by omega) (by simpa [nub] using h) (fun i hi => by omega) i (by simpa using hi)).symm
  · have := rg_canon L L.length 0 (by omega)
    rw [h] at this
    simpa [nub] using this

theorem nub_full {L : List Int} : (nub L).length = L.length ↔ ∀ i j, i < L.length → j < L.length → L.getD i 0 = L.getD j 0 → i = j := by
  have key : ∀ k, k ≤ L.length → ((nub (L.take k)).length = k ↔ ∀ i, i < k → isNew L i) := by
    intro k
    induction k with
    | zero => intro _; simp [nub]
    | succ k ih =>
      intro hk
      have ih := ih (by omega)
      have hle := nub_le L k (by omega)
      by_cases hn : isNew L k
      · rw [nub_new (by omega) hn]
        simp only [List.length_append, List.length_singleton, Nat.add_right_cancel_iff]
        rw [ih]
        constructor
        · intro h i hi
          rcases Nat.lt_or_ge i k with h5 | h5
          · exact h i h5
          · have : i = k := by omega
            subst this; exact hn
        · intro h i hi; exact h i (by omega)
      · rw [nub_old (by omega) hn]
        constructor
        · intro h; omega
        · intro h; exact absurd (h k (by omega)) hn
  have h1 := key L.length (Nat.le_refl _)
  rw [List.take_length] at h1
  rw [h1]
  constructor
  · intro h i j hi hj e
    rcases Nat.lt_trichotomy i j with h5 | h5 | h5
    · exact absurd e (h j hj i h5)
    · exact h5
    · exact absurd e.symm (h i hi j h5)
  · intro h i hi j hj e
    have := h j i (by omega) hi e
    omega

structure IsP (n : Nat) (θ : Nat → Nat → Prop) (p : List Int) : Prop where
  len : p.length = n
  can : canonI p = p
  ker : ∀ x y, x < n → y < n → (p.getD x 0 = p.getD y 0 ↔ θ x y)
theorem IsP.of {n : Nat} {θ : Nat → Nat → Prop} {L : List Int} (hl : L.length = n) (h : ∀ x y, x < n → y < n → (L.getD x 0 = L.getD y 0 ↔ θ x y)) : IsP n θ (canonI L) :=
  ⟨by simp [hl], canonI_idem L, fun x y hx hy => by rw [canonI_ker (by omega) (by omega)]; exact h x y hx hy⟩
theorem IsP.valid {n : Nat} {θ : Nat → Nat → Prop} {p : List Int} (hp : IsP n θ p) (hn : n ≤ 4096) : validP p = true := validP_iff.2 ⟨by rw [hp.len]; exact hn, hp.can⟩
theorem IsP.self {p : List Int} (h : validP p = true) : IsP p.length (fun x y => p.getD x 0 = p.getD y 0) p := ⟨rfl, (validP_iff.1 h).2, fun _ _ _ _ => Iff.rfl⟩
theorem IsP.mono {n : Nat} {θ φ : Nat → Nat → Prop} {p : List Int} (hp : IsP n θ p) (h : ∀ x y, x < n → y < n → (θ x y ↔ φ x y)) : IsP n φ p :=
  ⟨hp.len, hp.can, fun x y hx hy => by rw [hp.ker x y hx hy, h x y hx hy]⟩
theorem IsP.bound {n : Nat} {θ : Nat → Nat → Prop} {p : List Int} (hp : IsP n θ p) {k : Nat} (hk : k < n) : 0 ≤ p.getD k 0 ∧ p.getD k 0 ≤ k := by
  have h0 := hp.len
  have h1 := canonI_lt (L := p) (k := k) (by omega) (m := k + 1) (by omega) (by omega)
  rw [hp.can] at h1
  have := nub_le p (k + 1) (by omega)
  omega
end Go.AM.Par
namespace Go.AM.Cg
open Go.AM Go.AM.Par

theorem filter_lt {α : Type} {p q : α → Bool} : ∀ {l : List α}, (∀ x ∈ l, p x = true → q x = true) → (∃ x ∈ l, q x = true ∧ p x = false) → (l.filter p).length < (l.filter q).length
  | [], _, h => by obtain ⟨x, h, _⟩ := h; cases h
  | a :: l, h1, h2 => by
    have hle : (l.filter p).length ≤ (l.filter q).length := by
      clear h2
      induction l with
      | nil => simp
      | cons b l ih =>
        have ih := ih fun x hx => h1 x (by simp only [List.mem_cons] at hx ⊢; rcases hx with h | h <;> simp [h])
        have hb := h1 b (by simp)
        simp only [List.filter_cons]
        cases hp : p b
        · cases hq : q b <;> simp <;> omega
        · rw [hb hp]; simp; omega
    obtain ⟨x, hx, hq, hp⟩ := h2
    simp only [List.filter_cons]
    rcases List.mem_cons.1 hx with rfl | hx
    · rw [hq, hp]; simp; omega
    · have ih := filter_lt (fun y hy => h1 y (by simp [hy])) ⟨x, hx, hq, hp⟩
      have ha := h1 a (by simp)
      cases hpa : p a
      · cases hqa : q a <;> simp <;> omega
      · rw [ha hpa]; simp; omega

def newB (L : List Int) (k : Nat) : Bool := (List.range k).all fun i => !(L.getD i 0 == L.getD k 0)
theorem newB_iff {L : List Int} {k : Nat} : newB L k = true ↔ isNew L k := by
  simp [newB, isNew]
def cls (n : Nat) (L : List Int) : Nat := ((List.range n).filter (newB L)).length
theorem cls_le (n : Nat) (L : List Int) : cls n L ≤ n := Nat.le_trans (List.length_filter_le _ _) (by simp)
def mrg (L : List Int) (a b : Int) : List Int := L.map fun z => if z = b then a else z
@[simp] theorem mrg_length {L : List Int} {a b : Int} : (mrg L a b).length = L.length := by simp [mrg]
theorem mrg_at {L : List Int} {a b : Int} {k : Nat} (h : k < L.length) : (mrg L a b).getD k 0 = if L.getD k 0 = b then a else L.getD k 0 := by
  simp [mrg, List.getD_eq_getElem?_getD, h]
theorem cls_mrg {n : Nat} {L : List Int} {i j : Nat} (hl : L.length = n) (hi : i < n) (hj : j < n) (hne : L.getD i 0 ≠ L.getD j 0) : cls n (mrg L (L.getD i 0) (L.getD j 0)) < cls n L := by
  have first : ∀ k, k < n → ∃ f, f ≤ k ∧ L.getD f 0 = L.getD k 0 ∧ isNew L f := by
    intro k
    induction k using Nat.strongRecOn with
    | ind k ih =>
      intro hk
      by_cases h : isNew L k
      · exact ⟨k, Nat.le_refl _, rfl, h⟩
      · have : ∃ q, q < k ∧ L.getD q 0 = L.getD k 0 := Classical.byContradiction fun hc => h fun q hq e => hc ⟨q, hq, e⟩
        obtain ⟨q, hq, e⟩ := this
        obtain ⟨f, h1, h2, h3⟩ := ih q hq (by omega)
        exact ⟨f, by omega, h2.trans e, h3⟩
  obtain ⟨a, ha1, ha2, ha3⟩ := first i hi
  obtain ⟨b, hb1, hb2, hb3⟩ := first j hj
  have key : ∀ x y, x < n → y < n → L.getD x 0 = L.getD y 0 → (mrg L (L.getD i 0) (L.getD j 0)).getD x 0 = (mrg L (L.getD i 0) (L.getD j 0)).getD y 0 := fun x y hx hy e => by
    rw [mrg_at (by omega), mrg_at (by omega), e]
  have hab : (mrg L (L.getD i 0) (L.getD j 0)).getD a 0 = (mrg L (L.getD i 0) (L.getD j 0)).getD b 0 := by
    rw [mrg_at (by omega), mrg_at (by omega), ha2, hb2, if_neg hne, if_pos rfl]
  have hne' : a ≠ b := by rintro rfl; exact hne (ha2.symm.trans hb2)
  refine filter_lt (fun x hx h => ?_) ?_
  · rw [newB_iff] at h ⊢
    intro q hq e
    exact h q hq (key q x (by have := List.mem_range.1 hx; omega) (List.mem_range.1 hx) e)
  · rcases Nat.lt_or_gt_of_ne hne' with h | h
    · refine ⟨b, List.mem_range.2 (by omega), newB_iff.2 hb3, ?_⟩
      cases hn : newB (mrg L (L.getD i 0) (L.getD j 0)) b
      · rfl
      · exact absurd hab ((newB_iff.1 hn) a h)
    · refine ⟨a, List.mem_range.2 (by omega), newB_iff.2 ha3, ?_⟩
      cases hn : newB (mrg L (L.getD i 0) (L.getD j 0)) a
      · rfl
      · exact absurd hab.symm ((newB_iff.1 hn) b h)

structure Cgr (n : Nat) (T : Nat → Nat → Nat) (sd : Int) (θ : Nat → Nat → Prop) : Prop where
  refl : ∀ x, θ x x
  symm : ∀ x y, θ x y → θ y x
  trans : ∀ x y z, θ x y → θ y z → θ x z
  left : sd ≠ 2 → ∀ s x y, s < n → x < n → y < n → θ x y → θ (T s x) (T s y)
  right : sd ≠ 1 → ∀ s x y, s < n → x < n → y < n → θ x y → θ (T x s) (T y s)

def Gen (n : Nat) (T : Nat → Nat → Nat) (sd : Int) (P0 : List (Nat × Nat)) (a b : Nat) : Prop := ∀ θ, Cgr n T sd θ → (∀ p ∈ P0, θ p.1 p.2) → θ a b
section
variable {n : Nat} {T : Nat → Nat → Nat} {sd : Int} {P0 : List (Nat × Nat)}
theorem Gen.cgr : Cgr n T sd (Gen n T sd P0) :=
  ⟨fun x θ hθ _ => hθ.refl x, fun x y h θ hθ h0 => hθ.symm _ _ (h θ hθ h0), fun x y z h k θ hθ h0 => hθ.trans _ _ _ (h θ hθ h0) (k θ hθ h0),
    fun hs s x y h1 hx hy h θ hθ h0 => hθ.left hs s x y h1 hx hy (h θ hθ h0), fun hs s x y h1 hx hy h θ hθ h0 => hθ.right hs s x y h1 hx hy (h θ hθ h0)⟩
theorem Gen.has {p : Nat × Nat} (h : p ∈ P0) : Gen n T sd P0 p.1 p.2 := fun θ _ h0 => h0 p h
def Ker (n : Nat) (L : List Int) (x y : Nat) : Prop := x = y ∨ (x < n ∧ y < n ∧ L.getD x 0 = L.getD y 0)
theorem Ker.refl (L : List Int) (x : Nat) : Ker n L x x := .inl rfl
theorem Ker.symm {L : List Int} {x y : Nat} (h : Ker n L x y) : Ker n L y x := by
  rcases h with rfl | ⟨a, b, c⟩
  · exact .inl rfl
  · exact .inr ⟨b, a, c.symm⟩
theorem Ker.trans {L : List Int} {x y z : Nat} (h : Ker n L x y) (h2 : Ker n L y z) : Ker n L x z := by
  rcases h with rfl | ⟨a, b, c⟩
  · exact h2
  · rcases h2 with rfl | ⟨a2, b2, c2⟩
    · exact .inr ⟨a, b, c⟩
    · exact .inr ⟨a, b2, c.trans c2⟩
theorem Ker.iff {L : List Int} {x y : Nat} (hx : x < n) (hy : y < n) : Ker n L x y ↔ L.getD x 0 = L.getD y 0 := by
  constructor
  · rintro (rfl | ⟨_, _, h⟩)
    · rfl
    · exact h
  · exact fun h => .inr ⟨hx, hy, h⟩

theorem ker_gen {L : List Int} (hT : ∀ x y, x < n → y < n → T x y < n) (hsound : ∀ θ, Cgr n T sd θ → (∀ p ∈ P0, θ p.1 p.2) → ∀ x y, x < n → y < n → L.getD x 0 = L.getD y 0 → θ x y)
    (hP : ∀ p ∈ P0, Ker n L p.1 p.2) (hcl : ∀ s x y, s < n → x < n → y < n → L.getD x 0 = L.getD y 0 → (sd ≠ 2 → L.getD (T s x) 0 = L.getD (T s y) 0) ∧ (sd ≠ 1 → L.getD (T x s) 0 = L.getD (T y s) 0)) {x y : Nat} (hx : x < n) (hy : y < n) :
    L.getD x 0 = L.getD y 0 ↔ Gen n T sd P0 x y := by
  constructor
  · exact fun h θ hθ h0 => hsound θ hθ h0 x y hx hy h
  · intro h
    have hc : Cgr n T sd (Ker n L) := by
      refine ⟨Ker.refl L, fun _ _ => Ker.symm, fun _ _ _ => Ker.trans, fun hs s x y h1 hx hy h => ?_, fun hs s x y h1 hx hy h => ?_⟩
      · rcases h with rfl | ⟨_, _, c⟩
        · exact .inl rfl
        · exact .inr ⟨hT _ _ h1 hx, hT _ _ h1 hy, (hcl s x y h1 hx hy c).1 hs⟩
      · rcases h with rfl | ⟨_, _, c⟩
        · exact .inl rfl
        · exact .inr ⟨hT _ _ hx h1, hT _ _ hy h1, (hcl s x y h1 hx hy c).2 hs⟩
    exact (Ker.iff hx hy).1 (h _ hc hP)
end

inductive Eqv (r : Nat → Nat → Prop) : Nat → Nat → Prop
  | base {a b : Nat} (h : r a b) : Eqv r a b
  | refl (a : Nat) : Eqv r a a
  | symm {a b : Nat} (h : Eqv r a b) : Eqv r b a
  | trans {a b c : Nat} (h : Eqv r a b) (k : Eqv r b c) : Eqv r a c
theorem Eqv.mono {r q : Nat → Nat → Prop} (h : ∀ a b, r a b → Eqv q a b) {a b : Nat} (e : Eqv r a b) : Eqv q a b := by
  induction e with
  | base h' => exact h _ _ h'
  | refl a => exact .refl a
  | symm _ ih => exact .symm ih
  | trans _ _ ih1 ih2 => exact .trans ih1 ih2

def RW (n : Nat) (R : List Int) (W : List (Nat × Nat)) (a b : Nat) : Prop := (a < n ∧ b < n ∧ R.getD a 0 = R.getD b 0) ∨ (a, b) ∈ W
structure JI (n : Nat) (T : Nat → Nat → Nat) (sd : Int) (P0 : List (Nat × Nat)) (R : List Int) (W : List (Nat × Nat)) : Prop where
  len : R.length = n
  lt : ∀ p ∈ W, p.1 < n ∧ p.2 < n
  comp : ∀ x y s, x < n → y < n → s < n → R.getD x 0 = R.getD y 0 → (sd ≠ 2 → Eqv (RW n R W) (T s x) (T s y)) ∧ (sd ≠ 1 → Eqv (RW n R W) (T x s) (T y s))
  init : ∀ p ∈ P0, Eqv (RW n R W) p.1 p.2
  sound : ∀ θ, Cgr n T sd θ → (∀ p ∈ P0, θ p.1 p.2) → (∀ x y, x < n → y < n → R.getD x 0 = R.getD y 0 → θ x y) ∧ ∀ p ∈ W, θ p.1 p.2
section
variable {n : Nat} {T : Nat → Nat → Nat} {sd : Int} {P0 : List (Nat × Nat)} {R : List Int} {W : List (Nat × Nat)}
theorem JI.start (hl : R.length = n) (hid : ∀ x y, x < n → y < n → R.getD x 0 = R.getD y 0 → x = y) (hlt : ∀ p ∈ P0, p.1 < n ∧ p.2 < n) : JI n T sd P0 R P0 :=
  ⟨hl, hlt, fun x y s hx hy _ h => by have := hid x y hx hy h; subst this; exact ⟨fun _ => .refl _, fun _ => .refl _⟩, fun p hp => .base (.inr hp), fun θ hθ h0 => ⟨fun x y hx hy h => by have := hid x y hx hy h; subst this; exact hθ.refl _, h0⟩⟩
theorem JI.drop {p : Nat × Nat} (h : JI n T sd P0 R (W ++ [p])) (hp : R.getD p.1 0 = R.getD p.2 0) : JI n T sd P0 R W := by
  have hl := h.lt p (by simp)
  have m : ∀ a b, RW n R (W ++ [p]) a b → Eqv (RW n R W) a b := by
    rintro a b (h1 | h1)
    · exact .base (.inl h1)
    · rcases List.mem_append.1 h1 with h1 | h1
      · exact .base (.inr h1)
      · simp at h1
        subst h1
        exact .base (.inl ⟨hl.1, hl.2, hp⟩)
  exact ⟨h.len, fun q hq => h.lt q (by simp [hq]), fun x y s hx hy hs e => ⟨fun h2 => ((h.comp x y s hx hy hs e).1 h2).mono m, fun h2 => ((h.comp x y s hx hy hs e).2 h2).mono m⟩, fun q hq => (h.init q hq).mono m,
    fun θ hθ h0 => ⟨(h.sound θ hθ h0).1, fun q hq => (h.sound θ hθ h0).2 q (by simp [hq])⟩⟩
theorem JI.union {p : Nat × Nat} {W' : List (Nat × Nat)} {R' : List Int} (h : JI n T sd P0 R (W ++ [p])) (hT : ∀ x y, x < n → y < n → T x y < n) (hR' : R'.length = n) (hR : ∀ z, z < n → R'.getD z 0 = if R.getD z 0 = R.getD p.1 0 then R.getD p.2 0 else R.getD z 0)
    (hW : ∀ q, q ∈ W' ↔ q ∈ W ∨ ∃ s, s < n ∧ ((sd ≠ 2 ∧ q = (T s p.1, T s p.2)) ∨ (sd ≠ 1 ∧ q = (T p.1 s, T p.2 s)))) : JI n T sd P0 R' W' := by
  have hl := h.lt p (by simp)
  have hR2 : ∀ x y, x < n → y < n → R.getD x 0 = R.getD y 0 → R'.getD x 0 = R'.getD y 0 := by
    intro x y hx hy e
    rw [hR x hx, hR y hy, e]
  have hpp : R'.getD p.1 0 = R'.getD p.2 0 := by
    rw [hR _ hl.1, hR _ hl.2, if_pos rfl]
    split <;> rfl
  have m : ∀ a b, RW n R (W ++ [p]) a b → Eqv (RW n R' W') a b := by
    rintro a b (h1 | h1)
    · exact .base (.inl ⟨h1.1, h1.2.1, hR2 a b h1.1 h1.2.1 h1.2.2⟩)
    · rcases List.mem_append.1 h1 with h1 | h1
      · exact .base (.inr ((hW _).2 (.inl h1)))
      · simp at h1
        subst h1
        exact .base (.inl ⟨hl.1, hl.2, hpp⟩)
  have pl : sd ≠ 2 → ∀ s, s < n → Eqv (RW n R' W') (T s p.1) (T s p.2) := fun h2 s hs => .base (.inr ((hW _).2 (.inr ⟨s, hs, .inl ⟨h2, rfl⟩⟩)))
  have pr : sd ≠ 1 → ∀ s, s < n → Eqv (RW n R' W') (T p.1 s) (T p.2 s) := fun h2 s hs => .base (.inr ((hW _).2 (.inr ⟨s, hs, .inr ⟨h2, rfl⟩⟩)))
  -- each is with its old class or, through p, with the other
  have key : ∀ x y, x < n → y < n → R'.getD x 0 = R'.getD y 0 → R.getD x 0 = R.getD y 0 ∨ (R.getD x 0 = R.getD p.1 0 ∧ R.getD y 0 = R.getD p.2 0) ∨ (R.getD x 0 = R.getD p.2 0 ∧ R.getD y 0 = R.getD p.1 0) := by
    intro x y hx hy e
    rw [hR x hx, hR y hy] at e
    split at e <;> split at e
    · rename_i a b; exact .inl (by rw [a, b])
    · rename_i a b; exact .inr (.inl ⟨a, e.symm⟩)
    · rename_i a b; exact .inr (.inr ⟨e, b⟩)
    · exact .inl e
  refine ⟨hR', ?_, ?_, fun q hq => (h.init q hq).mono m, ?_⟩
  · intro q hq
    rcases (hW q).1 hq with h1 | ⟨s, hs, ⟨-, rfl⟩ | ⟨-, rfl⟩⟩
    · exact h.lt q (by simp [h1])
    · exact ⟨hT _ _ hs hl.1, hT _ _ hs hl.2⟩
    · exact ⟨hT _ _ hl.1 hs, hT _ _ hl.2 hs⟩
  · intro x y s hx hy hs e
    have c : ∀ a b, a < n → b < n → R.getD a 0 = R.getD b 0 → (sd ≠ 2 → Eqv (RW n R' W') (T s a) (T s b)) ∧ (sd ≠ 1 → Eqv (RW n R' W') (T a s) (T b s)) := fun a b ha hb e => ⟨fun h2 => ((h.comp a b s ha hb hs e).1 h2).mono m, fun h2 => ((h.comp a b s ha hb hs e).2 h2).mono m⟩
    rcases key x y hx hy e with h1 | ⟨h1, h2⟩ | ⟨h1, h2⟩
    · exact c x y hx hy h1
    · have c1 := c x p.1 hx hl.1 h1
      have c2 := c y p.2 hy hl.2 h2
      exact ⟨fun q => ((c1.1 q).trans (pl q s hs)).trans (c2.1 q).symm, fun q => ((c1.2 q).trans (pr q s hs)).trans (c2.2 q).symm⟩
    · have c1 := c x p.2 hx hl.2 h1
      have c2 := c y p.1 hy hl.1 h2
      exact ⟨fun q => ((c1.1 q).trans (pl q s hs).symm).trans (c2.1 q).symm, fun q => ((c1.2 q).trans (pr q s hs).symm).trans (c2.2 q).symm⟩
  · intro θ hθ h0
    obtain ⟨s1, s2⟩ := h.sound θ hθ h0
    have hp := s2 p (by simp)
    refine ⟨fun x y hx hy e => ?_, fun q hq => ?_⟩
    · rcases key x y hx hy e with h1 | ⟨h1, h2⟩ | ⟨h1, h2⟩
      · exact s1 x y hx hy h1
      · exact hθ.trans _ _ _ (s1 x p.1 hx hl.1 h1) (hθ.trans _ _ _ hp (hθ.symm _ _ (s1 y p.2 hy hl.2 h2)))
      · exact hθ.trans _ _ _ (s1 x p.2 hx hl.2 h1) (hθ.trans _ _ _ (hθ.symm _ _ hp) (hθ.symm _ _ (s1 y p.1 hy hl.1 h2)))
    · rcases (hW q).1 hq with h1 | ⟨s, hs, ⟨h2, rfl⟩ | ⟨h2, rfl⟩⟩
      · exact s2 q (by simp [h1])
      · exact hθ.left h2 _ _ _ hs hl.1 hl.2 hp
      · exact hθ.right h2 _ _ _ hs hl.1 hl.2 hp
theorem JI.done (h : JI n T sd P0 R []) (hT : ∀ x y, x < n → y < n → T x y < n) {x y : Nat} (hx : x < n) (hy : y < n) : R.getD x 0 = R.getD y 0 ↔ Gen n T sd P0 x y := by
  have eq : ∀ a b, Eqv (RW n R []) a b → Ker n R a b := by
    intro a b e
    induction e with
    | base h' =>
      rcases h' with h' | h'
      · exact .inr h'
      · simp at h'
    | refl a => exact .refl _ _
    | symm _ ih => exact ih.symm
    | trans _ _ i1 i2 => exact i1.trans i2
  refine ker_gen hT (fun θ hθ h0 x y hx hy e => (h.sound θ hθ h0).1 x y hx hy e) (fun p hp => eq _ _ (h.init p hp)) (fun s x y hs hx hy e => ⟨fun h2 => ?_, fun h2 => ?_⟩) hx hy
  · exact (Ker.iff (hT _ _ hs hx) (hT _ _ hs hy)).1 (eq _ _ ((h.comp x y s hx hy hs e).1 h2))
  · exact (Ker.iff (hT _ _ hx hs) (hT _ _ hy hs)).1 (eq _ _ ((h.comp x y s hx hy hs e).2 h2))
end
end Go.AM.Cg
namespace Go.Proofs.Ytmdpejgnkoneoaa.Pu
open Go Go.AM Go.Proofs.Ytmdpejgnkoneoaa.Code
abbrev E0 : Env := envT tab
theorem hp0 : PrimOk E0 := envT_prim tab
theorem sy : type_of% (And.intro @List.take_succ_cons.{0} (And.intro @List.take_zero.{0} (And.intro @List.take_nil.{0} (And.intro @aop_mv (And.intro @aop_load1 (And.intro @aop_loadA (And.intro @aop_iAddr (And.intro @aop_iAddrA (And.intro @aop_lenS (And.intro @aop_lenM (And.intro @aop_bin (And.intro @aop_un (And.intro @aop_ext (And.intro @aop_pick (And.intro @aop_mkM (And.intro @aop_box (And.intro @aop_al (And.intro @aop_store (And.intro @aop_mkS (And.intro @aop_look (And.intro @aop_mset (And.intro @aop_app (And.intro @aop_lit (And.intro @aop_build (And.intro @aop_slS (And.intro @aop_eqv (And.intro @aop_max (And.intro @aop_min (And.intro @ev_t (And.intro @ev_c (And.intro @List.map_cons.{0, 0} (And.intro @List.map_nil.{0, 0} (And.intro @Option.map_some.{0, 0} (And.intro @Option.map_none.{0, 0} (And.intro @gt_same (And.intro @gt_other (And.intro @pt_length (And.intro @pt_none (And.intro @abin_lss (And.intro @abin_leq (And.intro @abin_gtr (And.intro @abin_geq (And.intro @abin_eql (And.intro @abin_neq (And.intro @abin_add (And.intro @abin_sub (And.intro @abin_mul (And.intro @aun_not (And.intro @aeq_bool (And.intro @mm2 (And.intro @mn2 (And.intro @List.getElem?_cons_zero.{0} (And.intro @List.getElem?_cons_succ.{0} (And.intro @not_false_eq_true (And.intro @and_true (And.intro @true_and (And.intro @Bool.false_eq_true (And.intro @Bool.true_eq_false (And.intro @Bool.not_true (And.intro @Bool.not_false (And.intro @List.length_cons.{0} (And.intro @List.length_nil.{0} @Nat.zero_add)))))))))))))))))))))))))))))))))))))))))))))))))))))))))))))) := And.intro @List.take_succ_cons.{0} (And.intro @List.take_zero.{0} (And.intro @List.take_nil.{0} (And.intro @aop_mv (And.intro @aop_load1 (And.intro @aop_loadA (And.intro @aop_iAddr (And.intro @aop_iAddrA (And.intro @aop_lenS (And.intro @aop_lenM (And.intro @aop_bin (And.intro @aop_un (And.intro @aop_ext (And.intro @aop_pick (And.intro @aop_mkM (And.intro @aop_box (And.intro @aop_al (And.intro @aop_store (And.intro @aop_mkS (And.intro @aop_look (And.intro @aop_mset (And.intro @aop_app (And.intro @aop_lit (And.intro @aop_build (And.intro @aop_slS (And.intro @aop_eqv (And.intro @aop_max (And.intro @aop_min (And.intro @ev_t (And.intro @ev_c (And.intro @List.map_cons.{0, 0} (And.intro @List.map_nil.{0, 0} (And.intro @Option.map_some.{0, 0} (And.intro @Option.map_none.{0, 0} (And.intro @gt_same (And.intro @gt_other (And.intro @pt_length (And.intro @pt_none (And.intro @abin_lss (And.intro @abin_leq (And.intro @abin_gtr (And.intro @abin_geq (And.intro @abin_eql (And.intro @abin_neq (And.intro @abin_add (And.intro @abin_sub (And.intro @abin_mul (And.intro @aun_not (And.intro @aeq_bool (And.intro @mm2 (And.intro @mn2 (And.intro @List.getElem?_cons_zero.{0} (And.intro @List.getElem?_cons_succ.{0} (And.intro @not_false_eq_true (And.intro @and_true (And.intro @true_and (And.intro @Bool.false_eq_true (And.intro @Bool.true_eq_false (And.intro @Bool.not_true (And.intro @Bool.not_false (And.intro @List.length_cons.{0} (And.intro @List.length_nil.{0} @Nat.zero_add)))))))))))))))))))))))))))))))))))))))))))))))))))))))))))))
end Go.Proofs.Ytmdpejgnkoneoaa.Pu
set_option maxRecDepth 100000
set_option maxHeartbeats 4000000
namespace Go.Proofs.Ytmdpejgnkoneoaa.Pu
open Go Go.AM Go.Proofs.Ytmdpejgnkoneoaa.Code

noncomputable def P_partition_Canonical_l21 (l_ : List Int) (k23 : Nat) (x29 : List Int) (x30 : List (Int × Int)) : Option ((List Int) × (List (Int × Int))) :=
 Option.bind (gi l_ (k23 : Int)) fun x36 =>
 if !((mget x30 x36).isSome) then
  Option.bind (si x29 (k23 : Int) (x30.length : Int)) fun x53 =>
  some (x53, mput x30 x36 (x30.length : Int))
 else
  Option.bind (si x29 (k23 : Int) ((mget x30 x36).getD 0)) fun x61 =>
  some (x61, x30)
noncomputable def P_partition_Canonical (l_ : List Int) : Option ((List Int)) :=
 if decide (4096 < (l_.length : Int)) then
  some []
 else
  Option.bind (mkz (α := Int) 8 (l_.length : Int) (l_.length : Int) 0) fun x12 =>
  Option.bind (forS l_.length (fun k x => P_partition_Canonical_l21 l_ k x.1 x.2) (x12, [])) fun z27 =>
  some z27.1
theorem R_partition_Canonical {G : List Frag} {W H : AH} {v_0 : AV} {l_ : List Int} (hst : St G W H) (h_0 : Rp.rv W v_0 l_) {r : (List Int)} (hp : P_partition_Canonical l_ = some r) :
  wpc E0 N_partition_Canonical [v_0] H fun rv H' => ∃ W', Wle W W' ∧ ∃ (g0 : Frag), St (g0 :: G) W' H' ∧ OwS W' rv g0 (r : List Int) := by
 refine enterN (F := f_partition_Canonical) rfl (Nat.le_of_ble_eq_true rfl) fun s hl hg => ?_;replace hl : s.length = 42 := hl;have g0 : gt s 0 = v_0 := hg 0 (Nat.le_of_ble_eq_true rfl);clear hg;unfold P_partition_Canonical at hp;show wp E0 c_partition_Canonical s H _;unfold c_partition_Canonical;refine AM.wp_seq hp0 (AM.wp_reg hp0 ?_);refine wpo_seg hp0 1 (fun s H' => s.length = 42 ∧ gt s 0 = v_0 ∧ H = H') (by simp only [↓runs, isCall, ↓reduceIte, ↓gd_true, ↓gd_false, evs, AV.cells, Nat.reduceEqDiff, Nat.reduceLT, reduceCtorEq, Nat.reduceAdd, sy, g0, hl]) ?_;rintro s _ ⟨hl, g0, rfl⟩;refine wpo_nil (then_n ?_);refine AM.wp_seq hp0 (AM.wp_seq hp0 (AM.wp_reg hp0 ?_));have f1 := fz_ln h_0;refine wpo_seg hp0 3 (fun s H' => s.length = 42 ∧ gt s 0 = v_0 ∧ gt s 11 = .bool (decide (4096 < (l_.length : Int))) ∧ H = H') (by simp only [↓runs, isCall, ↓reduceIte, ↓gd_true, ↓gd_false, evs, AV.cells, Nat.reduceEqDiff, Nat.reduceLT, reduceCtorEq, Nat.reduceAdd, sy, f1, g0, hl]) ?_;rintro s _ ⟨hl, g0, g11, rfl⟩;refine wpo_nil (then_n ?_);rcases Bool.eq_false_or_eq_true (decide (4096 < (l_.length : Int))) with c2 | c2
 ·replace hp := ifT c2 hp;refine AM.wp_condT (by simp only [ev_t, ev_c, g11, c2]) ?_;refine AM.wp_seq hp0 (AM.wp_reg hp0 ?_);refine wpo_seg hp0 1 (fun s H' => s.length = 42 ∧ gt s 2 = .nils ∧ H = H') (by simp only [↓runs, isCall, ↓reduceIte, ↓gd_true, ↓gd_false, evs, AV.cells, Nat.reduceEqDiff, Nat.reduceLT, reduceCtorEq, Nat.reduceAdd, sy, g0, g11, hl]) ?_;rintro s _ ⟨hl, g2, rfl⟩;refine wpo_nil (then_n ?_);refine AM.wp_ret ?_;refine then_r ?_;replace hst := hst.nil;have o3 := ow_nil (α := Int) W;obtain rfl := Option.some.inj hp;refine body_ret (vs := [.nils]) (by simp only [rvs, f_partition_Canonical, Option.map_some, g2]) ?_;exact ⟨W, .refl _, _, hst, o3⟩
 ·replace hp := ifF c2 hp;refine AM.wp_condF (by simp only [ev_t, ev_c, g11, c2]) ?_;refine AM.wp_skip ?_;refine then_n ?_;refine AM.wp_seq hp0 (AM.wp_reg hp0 ?_);obtain ⟨v4, H5, fg6, W, f8, f9, w7, hst, o10⟩ := om_new' Int Int hst;replace h_0 := Rp.mono w7 h_0;refine wpo_seg hp0 2 (fun s H' => s.length = 42 ∧ gt s 0 = v_0 ∧ gt s 3 = v4 ∧ H5 = H') (by simp only [↓runs, isCall, ↓reduceIte, ↓gd_true, ↓gd_false, evs, AV.cells, Nat.reduceEqDiff, Nat.reduceLT, reduceCtorEq, Nat.reduceAdd, sy, f8, f9, g0, g11, hl]) ?_;rintro s _ ⟨hl, g0, g3, rfl⟩;refine wpo_nil (then_n ?_);refine AM.wp_seq hp0 (AM.wp_reg hp0 ?_);have f11 := fz_ln h_0;obtain ⟨x12, e13, hp⟩ := bn hp;obtain ⟨v14, H15, fg16, W, f18, w17, hst, o19⟩ := ow_mk (kn := .i64) (kc := .i64) hst (show Rp.rv _ (.int .i64 0) (0 : Int) from rfl) [.int .i64 0] rfl e13;replace h_0 := Rp.mono w17 h_0;replace o10 := o10.mono w17;refine wpo_seg hp0 4 (fun s H' => s.length = 42 ∧ gt s 0 = v_0 ∧ gt s 3 = v4 ∧ gt s 4 = v14 ∧ H15 = H') (by simp only [↓runs, isCall, ↓reduceIte, ↓gd_true, ↓gd_false, evs, AV.cells, Nat.reduceEqDiff, Nat.reduceLT, reduceCtorEq, Nat.reduceAdd, sy, f11, f18, g0, g3, hl]) ?_;rintro s _ ⟨hl, g0, g3, g4, rfl⟩;refine wpo_nil (then_n ?_);refine AM.wp_seq hp0 (AM.wp_seq hp0 (AM.wp_reg hp0 ?_));have f20 := fz_ln h_0;refine wpo_seg hp0 3 (fun s H' => s.length = 42 ∧ gt s 3 = v4 ∧ gt s 4 = v14 ∧ gt s 16 = v_0 ∧ gt s 17 = .int .i64 (l_.length : Int) ∧ gt s 18 = .int .i64 0 ∧ H15 = H') (by simp only [↓runs, isCall, ↓reduceIte, ↓gd_true, ↓gd_false, evs, AV.cells, Nat.reduceEqDiff, Nat.reduceLT, reduceCtorEq, Nat.reduceAdd, sy, f20, g0, g3, g4, hl]) ?_;rintro s _ ⟨hl, g3, g4, g16, g17, g18, rfl⟩;refine wpo_nil (then_n ?_);obtain ⟨z27, e28, hp⟩ := bn hp;refine rangeS_ref hp0 42 l_.length (fun k x => P_partition_Canonical_l21 l_ k x.1 x.2) (fun _ x s H' => ∃ (W' : AH) (qo3 : Frag) (qo2 : Frag), s.length = 42 ∧ gt s 3 = v4 ∧ gt s 4 = v14 ∧ gt s 16 = v_0 ∧  Wle W W' ∧ St (qo3 :: qo2 :: G) W' H' ∧ OwS W' v14 qo3 (x.1 : List Int) ∧ OwM W' v4 qo2 (x.2 : List (Int × Int))) e28 (fz_big h_0) rfl ?_ ?_ hl g18 g17 ?_ ?_
  ·intro k x s H d v hd h; rcases hd with rfl | rfl | rfl <;> simpa only [gt_other, pt_length, Nat.reduceEqDiff, not_false_eq_true] using h
  ·replace hst := hst.p1;replace hst := hst.p1;exact ⟨W, _, _, hl, g3, g4, g16, .refl _, hst, o19, o10⟩
  ·intro k23 x22 y24 s H hk hI hl g18 g17 hy25;obtain ⟨x29, x30⟩ := x22;dsimp only at hI;change P_partition_Canonical_l21 l_ k23 x29 x30 = some y24 at hy25;unfold P_partition_Canonical_l21 at hy25;obtain ⟨W, fg32, fg34, hl, g3, g4, g16, w31, hst, o33, o35⟩ := hI;replace h_0 := Rp.mono w31 h_0;refine AM.wp_seq hp0 (AM.wp_reg hp0 ?_);obtain ⟨x36, e37, hy25⟩ := bn hy25;obtain ⟨p38, _, f40, f41, rfl⟩ := fz_at (k := .i64) hst h_0 e37 rfl;refine wpo_seg hp0 5 (fun s H' => s.length = 42 ∧ gt s 3 = v4 ∧ gt s 4 = v14 ∧ gt s 5 = .int .i64 (k23 : Int) ∧ gt s 6 = .int .i64 x36 ∧ gt s 16 = v_0 ∧ gt s 17 = .int .i64 (l_.length : Int) ∧ gt s 18 = .int .i64 (k23 : Int) ∧ H = H') (by simp only [↓runs, isCall, ↓reduceIte, ↓gd_true, ↓gd_false, evs, AV.cells, Nat.reduceEqDiff, Nat.reduceLT, reduceCtorEq, Nat.reduceAdd, sy, f40, f41, g3, g4, g16, g17, g18, hl]) ?_;rintro s _ ⟨hl, g3, g4, g5, g6, g16, g17, g18, rfl⟩;refine wpo_nil (then_n ?_);refine AM.wp_seq hp0 (AM.wp_reg hp0 ?_);obtain ⟨y43, f44, f45, h46⟩ := om_look (kk := .int) hst (.tail _ (.head _)) o35 (show (.int .i64 x36 : AV) = Ky.enc (x36 : Int) from rfl) rfl (show Rp.rv _ (.int .i64 0) (0 : Int) from rfl);obtain rfl : y43 = .int .i64 ((mget x30 x36).getD 0) := h46;refine wpo_seg hp0 8 (fun s H' => s.length = 42 ∧ gt s 3 = v4 ∧ gt s 4 = v14 ∧ gt s 5 = .int .i64 (k23 : Int) ∧ gt s 6 = .int .i64 x36 ∧ gt s 7 = .int .i64 ((mget x30 x36).getD 0) ∧ gt s 8 = .bool ((mget x30 x36).isSome) ∧ gt s 16 = v_0 ∧ gt s 17 = .int .i64 (l_.length : Int) ∧ gt s 18 = .int .i64 (k23 : Int) ∧ H = H') (by simp only [↓runs, isCall, ↓reduceIte, ↓gd_true, ↓gd_false, evs, AV.cells, Nat.reduceEqDiff, Nat.reduceLT, reduceCtorEq, Nat.reduceAdd, sy, f44, f45, g3, g4, g5, g6, g16, g17, g18, hl]) ?_;rintro s _ ⟨hl, g3, g4, g5, g6, g7, g8, g16, g17, g18, rfl⟩;refine wpo_nil (then_n ?_);refine AM.wp_seq hp0 (AM.wp_seq hp0 (AM.wp_reg hp0 ?_));refine wpo_seg hp0 2 (fun s H' => s.length = 42 ∧ gt s 3 = v4 ∧ gt s 4 = v14 ∧ gt s 5 = .int .i64 (k23 : Int) ∧ gt s 6 = .int .i64 x36 ∧ gt s 7 = .int .i64 ((mget x30 x36).getD 0) ∧ gt s 16 = v_0 ∧ gt s 17 = .int .i64 (l_.length : Int) ∧ gt s 18 = .int .i64 (k23 : Int) ∧ gt s 30 = .bool (!((mget x30 x36).isSome)) ∧ H = H') (by simp only [↓runs, isCall, ↓reduceIte, ↓gd_true, ↓gd_false, evs, AV.cells, Nat.reduceEqDiff, Nat.reduceLT, reduceCtorEq, Nat.reduceAdd, sy, g3, g4, g5, g6, g7, g8, g16, g17, g18, hl]) ?_;rintro s _ ⟨hl, g3, g4, g5, g6, g7, g16, g17, g18, g30, rfl⟩;refine wpo_nil (then_n ?_);rcases Bool.eq_false_or_eq_true (!((mget x30 x36).isSome)) with c47 | c47
   ·replace hy25 := ifT c47 hy25;refine AM.wp_condT (by simp only [ev_t, ev_c, g30, c47]) ?_;refine AM.wp_seq hp0 (AM.wp_reg hp0 ?_);have f48 := om_len hst (.tail _ (.head _)) o35;refine wpo_seg hp0 3 (fun s H' => s.length = 42 ∧ gt s 3 = v4 ∧ gt s 4 = v14 ∧ gt s 5 = .int .i64 (k23 : Int) ∧ gt s 6 = .int .i64 x36 ∧ gt s 7 = .int .i64 (x30.length : Int) ∧ gt s 16 = v_0 ∧ gt s 17 = .int .i64 (l_.length : Int) ∧ gt s 18 = .int .i64 (k23 : Int) ∧ H = H') (by simp only [↓runs, isCall, ↓reduceIte, ↓gd_true, ↓gd_false, evs, AV.cells, Nat.reduceEqDiff, Nat.reduceLT, reduceCtorEq, Nat.reduceAdd, sy, f48, g3, g4, g5, g6, g7, g16, g17, g18, g30, hl]) ?_;rintro s _ ⟨hl, g3, g4, g5, g6, g7, g16, g17, g18, rfl⟩;refine wpo_nil (then_n ?_);refine AM.wp_reg hp0 ?_;replace hst := hst.p1;obtain ⟨H49, fg50, f51, hst, o52⟩ := om_put (kk := .int) hst o35 (show (.int .i64 x36 : AV) = Ky.enc (x36 : Int) from rfl) rfl (show Rp.rv _ (.int .i64 (x30.length : Int)) ((x30.length : Int) : Int) from rfl);refine wpo_seg hp0 4 (fun s H' => s.length = 42 ∧ gt s 3 = v4 ∧ gt s 4 = v14 ∧ gt s 5 = .int .i64 (k23 : Int) ∧ gt s 7 = .int .i64 (x30.length : Int) ∧ gt s 16 = v_0 ∧ gt s 17 = .int .i64 (l_.length : Int) ∧ gt s 18 = .int .i64 (k23 : Int) ∧ H49 = H') (by simp only [↓runs, isCall, ↓reduceIte, ↓gd_true, ↓gd_false, evs, AV.cells, Nat.reduceEqDiff, Nat.reduceLT, reduceCtorEq, Nat.reduceAdd, sy, f51, g3, g4, g5, g6, g7, g16, g17, g18, hl]) ?_;rintro s _ ⟨hl, g3, g4, g5, g7, g16, g17, g18, rfl⟩;refine wpo_nil (then_n ?_);refine AM.wp_reg hp0 ?_;obtain ⟨x53, e54, hy25⟩ := bn hy25;replace hst := hst.p1;obtain ⟨p55, H56, fg57, f58, f59, hst, o60⟩ := ow_set (k := .i64) 1 rfl hst o33 (show Rp.rv W (.int .i64 (x30.length : Int)) ((x30.length : Int) : Int) from rfl) e54;refine wpo_seg hp0 5 (fun s H' => s.length = 42 ∧ gt s 3 = v4 ∧ gt s 4 = v14 ∧ gt s 16 = v_0 ∧ gt s 17 = .int .i64 (l_.length : Int) ∧ gt s 18 = .int .i64 (k23 : Int) ∧ H56 = H') (by simp only [↓runs, isCall, ↓reduceIte, ↓gd_true, ↓gd_false, evs, AV.cells, Nat.reduceEqDiff, Nat.reduceLT, reduceCtorEq, Nat.reduceAdd, sy, f58, f59, g3, g4, g5, g7, g16, g17, g18, hl]) ?_;rintro s _ ⟨hl, g3, g4, g16, g17, g18, rfl⟩;refine wpo_nil ?_;refine rnd_n ?_;obtain rfl := Option.some.inj hy25;replace hst := hst.p1;replace hst := hst.p1;exact ⟨hl, g18, g17, ⟨W, _, _, hl, g3, g4, g16, w31, hst, o60, o52⟩⟩
   ·replace hy25 := ifF c47 hy25;refine AM.wp_condF (by simp only [ev_t, ev_c, g30, c47]) ?_;refine AM.wp_skip ?_;refine then_n ?_;refine AM.wp_reg hp0 ?_;obtain ⟨x61, e62, hy25⟩ := bn hy25;obtain ⟨p63, H64, fg65, f66, f67, hst, o68⟩ := ow_set (k := .i64) 1 rfl hst o33 (show Rp.rv W (.int .i64 ((mget x30 x36).getD 0)) ((mget x30 x36).getD 0 : Int) from rfl) e62;refine wpo_seg hp0 5 (fun s H' => s.length = 42 ∧ gt s 3 = v4 ∧ gt s 4 = v14 ∧ gt s 16 = v_0 ∧ gt s 17 = .int .i64 (l_.length : Int) ∧ gt s 18 = .int .i64 (k23 : Int) ∧ H64 = H') (by simp only [↓runs, isCall, ↓reduceIte, ↓gd_true, ↓gd_false, evs, AV.cells, Nat.reduceEqDiff, Nat.reduceLT, reduceCtorEq, Nat.reduceAdd, sy, f66, f67, g3, g4, g5, g6, g7, g16, g17, g18, g30, hl]) ?_;rintro s _ ⟨hl, g3, g4, g16, g17, g18, rfl⟩;refine wpo_nil ?_;refine rnd_n ?_;obtain rfl := Option.some.inj hy25;replace hst := hst.p1;replace hst := hst.p1;exact ⟨hl, g18, g17, ⟨W, _, _, hl, g3, g4, g16, w31, hst, o68, o35⟩⟩
  ·rintro s H hI _;obtain ⟨W, fg70, fg72, hl, g3, g4, g16, w69, hst, o71, o73⟩ := hI;replace h_0 := Rp.mono w69 h_0;refine then_n ?_;refine AM.wp_seq hp0 (AM.wp_reg hp0 ?_);refine wpo_seg hp0 2 (fun s H' => s.length = 42 ∧ gt s 2 = v14 ∧ H = H') (by simp only [↓runs, isCall, ↓reduceIte, ↓gd_true, ↓gd_false, evs, AV.cells, Nat.reduceEqDiff, Nat.reduceLT, reduceCtorEq, Nat.reduceAdd, sy, g3, g4, g16, hl]) ?_;rintro s _ ⟨hl, g2, rfl⟩;refine wpo_nil (then_n ?_);refine AM.wp_ret ?_;obtain rfl := Option.some.inj hp;replace hst := hst.p1;replace hst := hst.drop;refine body_ret (vs := [v14]) (by simp only [rvs, f_partition_Canonical, Option.map_some, g2]) ?_;exact ⟨W, ((w7.trans w17).trans w69), _, hst, o71⟩

end Go.Proofs.Ytmdpejgnkoneoaa.Pu
set_option maxRecDepth 100000
set_option maxHeartbeats 4000000
namespace Go.Proofs.Ytmdpejgnkoneoaa.Pu
open Go Go.AM Go.Proofs.Ytmdpejgnkoneoaa.Code

noncomputable def P_semigroupref03_Canonical_l22 (l_ : List Int) (k24 : Nat) (next30 : Int) (x31 : List (Int × Int)) (x32 : List Int) : Option (Int × (List (Int × Int)) × (List Int)) :=
 Option.bind (gi l_ (k24 : Int)) fun x38 =>
 if !((mget x31 x38).isSome) then
  Option.bind (si x32 (k24 : Int) next30) fun x54 =>
  some (w64 (next30 + 1), mput x31 x38 next30, x54)
 else
  Option.bind (si x32 (k24 : Int) ((mget x31 x38).getD 0)) fun x62 =>
  some (next30, x31, x62)
noncomputable def P_semigroupref03_Canonical (l_ : List Int) : Option ((List Int)) :=
 if decide (4096 < (l_.length : Int)) then
  some []
 else
  Option.bind (mkz (α := Int) 8 (l_.length : Int) (l_.length : Int) 0) fun x5 =>
  Option.bind (forS l_.length (fun k x => P_semigroupref03_Canonical_l22 l_ k x.1 x.2.1 x.2.2) (0, [], x5)) fun z28 =>
  some z28.2.2
theorem R_semigroupref03_Canonical {G : List Frag} {W H : AH} {v_0 : AV} {l_ : List Int} (hst : St G W H) (h_0 : Rp.rv W v_0 l_) {r : (List Int)} (hp : P_semigroupref03_Canonical l_ = some r) :
  wpc E0 N_semigroupref03_Canonical [v_0] H fun rv H' => ∃ W', Wle W W' ∧ ∃ (g0 : Frag), St (g0 :: G) W' H' ∧ OwS W' rv g0 (r : List Int) := by
 refine enterN (F := f_semigroupref03_Canonical) rfl (Nat.le_of_ble_eq_true rfl) fun s hl hg => ?_;replace hl : s.length = 44 := hl;have g0 : gt s 0 = v_0 := hg 0 (Nat.le_of_ble_eq_true rfl);clear hg;unfold P_semigroupref03_Canonical at hp;show wp E0 c_semigroupref03_Canonical s H _;unfold c_semigroupref03_Canonical;refine AM.wp_seq hp0 (AM.wp_reg hp0 ?_);refine wpo_seg hp0 1 (fun s H' => s.length = 44 ∧ gt s 0 = v_0 ∧ H = H') (by simp only [↓runs, isCall, ↓reduceIte, ↓gd_true, ↓gd_false, evs, AV.cells, Nat.reduceEqDiff, Nat.reduceLT, reduceCtorEq, Nat.reduceAdd, sy, g0, hl]) ?_;rintro s _ ⟨hl, g0, rfl⟩;refine wpo_nil (then_n ?_);refine AM.wp_seq hp0 (AM.wp_seq hp0 (AM.wp_reg hp0 ?_));have f1 := fz_ln h_0;refine wpo_seg hp0 3 (fun s H' => s.length = 44 ∧ gt s 0 = v_0 ∧ gt s 12 = .bool (decide (4096 < (l_.length : Int))) ∧ H = H') (by simp only [↓runs, isCall, ↓reduceIte, ↓gd_true, ↓gd_false, evs, AV.cells, Nat.reduceEqDiff, Nat.reduceLT, reduceCtorEq, Nat.reduceAdd, sy, f1, g0, hl]) ?_;rintro s _ ⟨hl, g0, g12, rfl⟩;refine wpo_nil (then_n ?_);rcases Bool.eq_false_or_eq_true (decide (4096 < (l_.length : Int))) with c2 | c2
 ·replace hp := ifT c2 hp;refine AM.wp_condT (by simp only [ev_t, ev_c, g12, c2]) ?_;refine AM.wp_seq hp0 (AM.wp_reg hp0 ?_);refine wpo_seg hp0 1 (fun s H' => s.length = 44 ∧ gt s 2 = .nils ∧ H = H') (by simp only [↓runs, isCall, ↓reduceIte, ↓gd_true, ↓gd_false, evs, AV.cells, Nat.reduceEqDiff, Nat.reduceLT, reduceCtorEq, Nat.reduceAdd, sy, g0, g12, hl]) ?_;rintro s _ ⟨hl, g2, rfl⟩;refine wpo_nil (then_n ?_);refine AM.wp_ret ?_;refine then_r ?_;replace hst := hst.nil;have o3 := ow_nil (α := Int) W;obtain rfl := Option.some.inj hp;refine body_ret (vs := [.nils]) (by simp only [rvs, f_semigroupref03_Canonical, Option.map_some, g2]) ?_;exact ⟨W, .refl _, _, hst, o3⟩
 ·replace hp := ifF c2 hp;refine AM.wp_condF (by simp only [ev_t, ev_c, g12, c2]) ?_;refine AM.wp_skip ?_;refine then_n ?_;refine AM.wp_seq hp0 (AM.wp_reg hp0 ?_);have f4 := fz_ln h_0;obtain ⟨x5, e6, hp⟩ := bn hp;obtain ⟨v7, H8, fg9, W, f11, w10, hst, o12⟩ := ow_mk (kn := .i64) (kc := .i64) hst (show Rp.rv _ (.int .i64 0) (0 : Int) from rfl) [.int .i64 0] rfl e6;replace h_0 := Rp.mono w10 h_0;refine wpo_seg hp0 4 (fun s H' => s.length = 44 ∧ gt s 0 = v_0 ∧ gt s 3 = v7 ∧ H8 = H') (by simp only [↓runs, isCall, ↓reduceIte, ↓gd_true, ↓gd_false, evs, AV.cells, Nat.reduceEqDiff, Nat.reduceLT, reduceCtorEq, Nat.reduceAdd, sy, f4, f11, g0, g12, hl]) ?_;rintro s _ ⟨hl, g0, g3, rfl⟩;refine wpo_nil (then_n ?_);refine AM.wp_seq hp0 (AM.wp_reg hp0 ?_);refine wpo_seg hp0 1 (fun s H' => s.length = 44 ∧ gt s 0 = v_0 ∧ gt s 3 = v7 ∧ gt s 4 = .int .i64 0 ∧ H8 = H') (by simp only [↓runs, isCall, ↓reduceIte, ↓gd_true, ↓gd_false, evs, AV.cells, Nat.reduceEqDiff, Nat.reduceLT, reduceCtorEq, Nat.reduceAdd, sy, g0, g3, hl]) ?_;rintro s _ ⟨hl, g0, g3, g4, rfl⟩;refine wpo_nil (then_n ?_);refine AM.wp_seq hp0 (AM.wp_reg hp0 ?_);obtain ⟨v13, H14, fg15, W, f18, f19, w17, hst, o20⟩ := om_new' Int Int hst;replace h_0 := Rp.mono w17 h_0;replace o12 := o12.mono w17;refine wpo_seg hp0 2 (fun s H' => s.length = 44 ∧ gt s 0 = v_0 ∧ gt s 3 = v7 ∧ gt s 4 = .int .i64 0 ∧ gt s 5 = v13 ∧ H14 = H') (by simp only [↓runs, isCall, ↓reduceIte, ↓gd_true, ↓gd_false, evs, AV.cells, Nat.reduceEqDiff, Nat.reduceLT, reduceCtorEq, Nat.reduceAdd, sy, f18, f19, g0, g3, g4, hl]) ?_;rintro s _ ⟨hl, g0, g3, g4, g5, rfl⟩;refine wpo_nil (then_n ?_);refine AM.wp_seq hp0 (AM.wp_seq hp0 (AM.wp_reg hp0 ?_));have f21 := fz_ln h_0;refine wpo_seg hp0 3 (fun s H' => s.length = 44 ∧ gt s 3 = v7 ∧ gt s 4 = .int .i64 0 ∧ gt s 5 = v13 ∧ gt s 17 = v_0 ∧ gt s 18 = .int .i64 (l_.length : Int) ∧ gt s 19 = .int .i64 0 ∧ H14 = H') (by simp only [↓runs, isCall, ↓reduceIte, ↓gd_true, ↓gd_false, evs, AV.cells, Nat.reduceEqDiff, Nat.reduceLT, reduceCtorEq, Nat.reduceAdd, sy, f21, g0, g3, g4, g5, hl]) ?_;rintro s _ ⟨hl, g3, g4, g5, g17, g18, g19, rfl⟩;refine wpo_nil (then_n ?_);obtain ⟨z28, e29, hp⟩ := bn hp;refine rangeS_ref hp0 44 l_.length (fun k x => P_semigroupref03_Canonical_l22 l_ k x.1 x.2.1 x.2.2) (fun _ x s H' => ∃ (W' : AH) (qo3 : Frag) (qo2 : Frag), s.length = 44 ∧ gt s 4 = .int .i64 x.1 ∧ gt s 3 = v7 ∧ gt s 5 = v13 ∧ gt s 17 = v_0 ∧  Wle W W' ∧ St (qo3 :: qo2 :: G) W' H' ∧ OwM W' v13 qo3 (x.2.1 : List (Int × Int)) ∧ OwS W' v7 qo2 (x.2.2 : List Int)) e29 (fz_big h_0) rfl ?_ ?_ hl g19 g18 ?_ ?_
  ·intro k x s H d v hd h; rcases hd with rfl | rfl | rfl <;> simpa only [gt_other, pt_length, Nat.reduceEqDiff, not_false_eq_true] using h
  ·replace hst := hst.p1;replace hst := hst.p1;exact ⟨W, _, _, hl, g4, g3, g5, g17, .refl _, hst, o20, o12⟩
  ·intro k24 x23 y25 s H hk hI hl g19 g18 hy26;obtain ⟨next30, x31, x32⟩ := x23;dsimp only at hI;change P_semigroupref03_Canonical_l22 l_ k24 next30 x31 x32 = some y25 at hy26;unfold P_semigroupref03_Canonical_l22 at hy26;obtain ⟨W, fg34, fg36, hl, g4, g3, g5, g17, w33, hst, o35, o37⟩ := hI;replace h_0 := Rp.mono w33 h_0;refine AM.wp_seq hp0 (AM.wp_reg hp0 ?_);obtain ⟨x38, e39, hy26⟩ := bn hy26;obtain ⟨p40, _, f42, f43, rfl⟩ := fz_at (k := .i64) hst h_0 e39 rfl;refine wpo_seg hp0 5 (fun s H' => s.length = 44 ∧ gt s 3 = v7 ∧ gt s 4 = .int .i64 next30 ∧ gt s 5 = v13 ∧ gt s 6 = .int .i64 (k24 : Int) ∧ gt s 7 = .int .i64 x38 ∧ gt s 17 = v_0 ∧ gt s 18 = .int .i64 (l_.length : Int) ∧ gt s 19 = .int .i64 (k24 : Int) ∧ H = H') (by simp only [↓runs, isCall, ↓reduceIte, ↓gd_true, ↓gd_false, evs, AV.cells, Nat.reduceEqDiff, Nat.reduceLT, reduceCtorEq, Nat.reduceAdd, sy, f42, f43, g3, g4, g5, g17, g18, g19, hl]) ?_;rintro s _ ⟨hl, g3, g4, g5, g6, g7, g17, g18, g19, rfl⟩;refine wpo_nil (then_n ?_);refine AM.wp_seq hp0 (AM.wp_reg hp0 ?_);obtain ⟨y45, f46, f47, h48⟩ := om_look (kk := .int) hst (.head _) o35 (show (.int .i64 x38 : AV) = Ky.enc (x38 : Int) from rfl) rfl (show Rp.rv _ (.int .i64 0) (0 : Int) from rfl);obtain rfl : y45 = .int .i64 ((mget x31 x38).getD 0) := h48;refine wpo_seg hp0 8 (fun s H' => s.length = 44 ∧ gt s 3 = v7 ∧ gt s 4 = .int .i64 next30 ∧ gt s 5 = v13 ∧ gt s 6 = .int .i64 (k24 : Int) ∧ gt s 7 = .int .i64 x38 ∧ gt s 8 = .int .i64 ((mget x31 x38).getD 0) ∧ gt s 9 = .bool ((mget x31 x38).isSome) ∧ gt s 17 = v_0 ∧ gt s 18 = .int .i64 (l_.length : Int) ∧ gt s 19 = .int .i64 (k24 : Int) ∧ H = H') (by simp only [↓runs, isCall, ↓reduceIte, ↓gd_true, ↓gd_false, evs, AV.cells, Nat.reduceEqDiff, Nat.reduceLT, reduceCtorEq, Nat.reduceAdd, sy, f46, f47, g3, g4, g5, g6, g7, g17, g18, g19, hl]) ?_;rintro s _ ⟨hl, g3, g4, g5, g6, g7, g8, g9, g17, g18, g19, rfl⟩;refine wpo_nil (then_n ?_);refine AM.wp_seq hp0 (AM.wp_seq hp0 (AM.wp_reg hp0 ?_));refine wpo_seg hp0 2 (fun s H' => s.length = 44 ∧ gt s 3 = v7 ∧ gt s 4 = .int .i64 next30 ∧ gt s 5 = v13 ∧ gt s 6 = .int .i64 (k24 : Int) ∧ gt s 7 = .int .i64 x38 ∧ gt s 8 = .int .i64 ((mget x31 x38).getD 0) ∧ gt s 17 = v_0 ∧ gt s 18 = .int .i64 (l_.length : Int) ∧ gt s 19 = .int .i64 (k24 : Int) ∧ gt s 31 = .bool (!((mget x31 x38).isSome)) ∧ H = H') (by simp only [↓runs, isCall, ↓reduceIte, ↓gd_true, ↓gd_false, evs, AV.cells, Nat.reduceEqDiff, Nat.reduceLT, reduceCtorEq, Nat.reduceAdd, sy, g3, g4, g5, g6, g7, g8, g9, g17, g18, g19, hl]) ?_;rintro s _ ⟨hl, g3, g4, g5, g6, g7, g8, g17, g18, g19, g31, rfl⟩;refine wpo_nil (then_n ?_);rcases Bool.eq_false_or_eq_true (!((mget x31 x38).isSome)) with c49 | c49
   ·replace hy26 := ifT c49 hy26;refine AM.wp_condT (by simp only [ev_t, ev_c, g31, c49]) ?_;refine AM.wp_seq hp0 (AM.wp_reg hp0 ?_);refine wpo_seg hp0 2 (fun s H' => s.length = 44 ∧ gt s 3 = v7 ∧ gt s 4 = .int .i64 next30 ∧ gt s 5 = v13 ∧ gt s 6 = .int .i64 (k24 : Int) ∧ gt s 7 = .int .i64 x38 ∧ gt s 8 = .int .i64 next30 ∧ gt s 17 = v_0 ∧ gt s 18 = .int .i64 (l_.length : Int) ∧ gt s 19 = .int .i64 (k24 : Int) ∧ H = H') (by simp only [↓runs, isCall, ↓reduceIte, ↓gd_true, ↓gd_false, evs, AV.cells, Nat.reduceEqDiff, Nat.reduceLT, reduceCtorEq, Nat.reduceAdd, sy, g3, g4, g5, g6, g7, g8, g17, g18, g19, g31, hl]) ?_;rintro s _ ⟨hl, g3, g4, g5, g6, g7, g8, g17, g18, g19, rfl⟩;refine wpo_nil (then_n ?_);refine AM.wp_seq hp0 (AM.wp_reg hp0 ?_);obtain ⟨H50, fg51, f52, hst, o53⟩ := om_put (kk := .int) hst o35 (show (.int .i64 x38 : AV) = Ky.enc (x38 : Int) from rfl) rfl (show Rp.rv _ (.int .i64 next30) (next30 : Int) from rfl);refine wpo_seg hp0 4 (fun s H' => s.length = 44 ∧ gt s 3 = v7 ∧ gt s 4 = .int .i64 next30 ∧ gt s 5 = v13 ∧ gt s 6 = .int .i64 (k24 : Int) ∧ gt s 8 = .int .i64 next30 ∧ gt s 17 = v_0 ∧ gt s 18 = .int .i64 (l_.length : Int) ∧ gt s 19 = .int .i64 (k24 : Int) ∧ H50 = H') (by simp only [↓runs, isCall, ↓reduceIte, ↓gd_true, ↓gd_false, evs, AV.cells, Nat.reduceEqDiff, Nat.reduceLT, reduceCtorEq, Nat.reduceAdd, sy, f52, g3, g4, g5, g6, g7, g8, g17, g18, g19, hl]) ?_;rintro s _ ⟨hl, g3, g4, g5, g6, g8, g17, g18, g19, rfl⟩;refine wpo_nil (then_n ?_);refine AM.wp_reg hp0 ?_;refine wpo_seg hp0 3 (fun s H' => s.length = 44 ∧ gt s 3 = v7 ∧ gt s 4 = .int .i64 (w64 (next30 + 1)) ∧ gt s 5 = v13 ∧ gt s 6 = .int .i64 (k24 : Int) ∧ gt s 8 = .int .i64 next30 ∧ gt s 17 = v_0 ∧ gt s 18 = .int .i64 (l_.length : Int) ∧ gt s 19 = .int .i64 (k24 : Int) ∧ H50 = H') (by simp only [↓runs, isCall, ↓reduceIte, ↓gd_true, ↓gd_false, evs, AV.cells, Nat.reduceEqDiff, Nat.reduceLT, reduceCtorEq, Nat.reduceAdd, sy, g3, g4, g5, g6, g8, g17, g18, g19, hl]) ?_;rintro s _ ⟨hl, g3, g4, g5, g6, g8, g17, g18, g19, rfl⟩;refine wpo_nil (then_n ?_);refine AM.wp_reg hp0 ?_;obtain ⟨x54, e55, hy26⟩ := bn hy26;replace hst := hst.p1;obtain ⟨p56, H57, fg58, f59, f60, hst, o61⟩ := ow_set (k := .i64) 1 rfl hst o37 (show Rp.rv W (.int .i64 next30) (next30 : Int) from rfl) e55;refine wpo_seg hp0 5 (fun s H' => s.length = 44 ∧ gt s 3 = v7 ∧ gt s 4 = .int .i64 (w64 (next30 + 1)) ∧ gt s 5 = v13 ∧ gt s 17 = v_0 ∧ gt s 18 = .int .i64 (l_.length : Int) ∧ gt s 19 = .int .i64 (k24 : Int) ∧ H57 = H') (by simp only [↓runs, isCall, ↓reduceIte, ↓gd_true, ↓gd_false, evs, AV.cells, Nat.reduceEqDiff, Nat.reduceLT, reduceCtorEq, Nat.reduceAdd, sy, f59, f60, g3, g4, g5, g6, g8, g17, g18, g19, hl]) ?_;rintro s _ ⟨hl, g3, g4, g5, g17, g18, g19, rfl⟩;refine wpo_nil ?_;refine rnd_n ?_;obtain rfl := Option.some.inj hy26;replace hst := hst.p1;exact ⟨hl, g19, g18, ⟨W, _, _, hl, g4, g3, g5, g17, w33, hst, o53, o61⟩⟩
   ·replace hy26 := ifF c49 hy26;refine AM.wp_condF (by simp only [ev_t, ev_c, g31, c49]) ?_;refine AM.wp_skip ?_;refine then_n ?_;refine AM.wp_reg hp0 ?_;obtain ⟨x62, e63, hy26⟩ := bn hy26;replace hst := hst.p1;obtain ⟨p64, H65, fg66, f67, f68, hst, o69⟩ := ow_set (k := .i64) 1 rfl hst o37 (show Rp.rv W (.int .i64 ((mget x31 x38).getD 0)) ((mget x31 x38).getD 0 : Int) from rfl) e63;refine wpo_seg hp0 5 (fun s H' => s.length = 44 ∧ gt s 3 = v7 ∧ gt s 4 = .int .i64 next30 ∧ gt s 5 = v13 ∧ gt s 17 = v_0 ∧ gt s 18 = .int .i64 (l_.length : Int) ∧ gt s 19 = .int .i64 (k24 : Int) ∧ H65 = H') (by simp only [↓runs, isCall, ↓reduceIte, ↓gd_true, ↓gd_false, evs, AV.cells, Nat.reduceEqDiff, Nat.reduceLT, reduceCtorEq, Nat.reduceAdd, sy, f67, f68, g3, g4, g5, g6, g7, g8, g17, g18, g19, g31, hl]) ?_;rintro s _ ⟨hl, g3, g4, g5, g17, g18, g19, rfl⟩;refine wpo_nil ?_;refine rnd_n ?_;obtain rfl := Option.some.inj hy26;replace hst := hst.p1;exact ⟨hl, g19, g18, ⟨W, _, _, hl, g4, g3, g5, g17, w33, hst, o35, o69⟩⟩
  ·rintro s H hI _;obtain ⟨W, fg71, fg73, hl, g4, g3, g5, g17, w70, hst, o72, o74⟩ := hI;replace h_0 := Rp.mono w70 h_0;refine then_n ?_;refine AM.wp_seq hp0 (AM.wp_reg hp0 ?_);refine wpo_seg hp0 2 (fun s H' => s.length = 44 ∧ gt s 2 = v7 ∧ H = H') (by simp only [↓runs, isCall, ↓reduceIte, ↓gd_true, ↓gd_false, evs, AV.cells, Nat.reduceEqDiff, Nat.reduceLT, reduceCtorEq, Nat.reduceAdd, sy, g3, g4, g5, g17, hl]) ?_;rintro s _ ⟨hl, g2, rfl⟩;refine wpo_nil (then_n ?_);refine AM.wp_ret ?_;obtain rfl := Option.some.inj hp;replace hst := hst.drop;refine body_ret (vs := [v7]) (by simp only [rvs, f_semigroupref03_Canonical, Option.map_some, g2]) ?_;exact ⟨W, ((w10.trans w17).trans w70), _, hst, o74⟩

end Go.Proofs.Ytmdpejgnkoneoaa.Pu
set_option maxRecDepth 100000
set_option maxHeartbeats 4000000
namespace Go.Proofs.Ytmdpejgnkoneoaa.Pu
open Go Go.AM Go.Proofs.Ytmdpejgnkoneoaa.Code

noncomputable def P_semigroupref03_Same_l5 (a : List Int) (b_ : List Int) (k7 : Nat) : Option (Lp (Unit) (Bool)) :=
 Option.bind (gi a (k7 : Int)) fun x14 =>
 Option.bind (gi b_ (k7 : Int)) fun x21 =>
 if !decide (x14 = x21) then
  some (.ex false)
 else
  some (.go ())
noncomputable def P_semigroupref03_Same (a : List Int) (b_ : List Int) : Option (Bool) :=
 if !decide ((a.length : Int) = (b_.length : Int)) then
  some false
 else
  Option.bind (forR a.length (fun k x => P_semigroupref03_Same_l5 a b_ k) ()) fun z11 =>
  match z11 with
  | .inl x29 =>
   some true
  | .inr b => some b
theorem R_semigroupref03_Same {G : List Frag} {W H : AH} {v_0 v_1 : AV} {a : List Int} {b_ : List Int} (hst : St G W H) (h_0 : Rp.rv W v_0 a) (h_1 : Rp.rv W v_1 b_) {r : Bool} (hp : P_semigroupref03_Same a b_ = some r) :
  wpc E0 N_semigroupref03_Same [v_0, v_1] H fun rv H' => ∃ W', Wle W W' ∧ St G W' H' ∧ rv = .bool r := by
 refine enterN (F := f_semigroupref03_Same) rfl (Nat.le_of_ble_eq_true rfl) fun s hl hg => ?_;replace hl : s.length = 26 := hl;have g0 : gt s 0 = v_0 := hg 0 (Nat.le_of_ble_eq_true rfl);have g1 : gt s 1 = v_1 := hg 1 (Nat.le_of_ble_eq_true rfl);clear hg;unfold P_semigroupref03_Same at hp;show wp E0 c_semigroupref03_Same s H _;unfold c_semigroupref03_Same;refine AM.wp_seq hp0 (AM.wp_reg hp0 ?_);refine wpo_seg hp0 1 (fun s H' => s.length = 26 ∧ gt s 0 = v_0 ∧ gt s 1 = v_1 ∧ H = H') (by simp only [↓runs, isCall, ↓reduceIte, ↓gd_true, ↓gd_false, evs, AV.cells, Nat.reduceEqDiff, Nat.reduceLT, reduceCtorEq, Nat.reduceAdd, sy, g0, g1, hl]) ?_;rintro s _ ⟨hl, g0, g1, rfl⟩;refine wpo_nil (then_n ?_);refine AM.wp_seq hp0 (AM.wp_seq hp0 (AM.wp_reg hp0 ?_));have f1 := fz_ln h_0;have f2 := fz_ln h_1;refine wpo_seg hp0 5 (fun s H' => s.length = 26 ∧ gt s 0 = v_0 ∧ gt s 1 = v_1 ∧ gt s 10 = .bool (!decide ((a.length : Int) = (b_.length : Int))) ∧ H = H') (by simp only [↓runs, isCall, ↓reduceIte, ↓gd_true, ↓gd_false, evs, AV.cells, Nat.reduceEqDiff, Nat.reduceLT, reduceCtorEq, Nat.reduceAdd, sy, f1, f2, g0, g1, hl]) ?_;rintro s _ ⟨hl, g0, g1, g10, rfl⟩;refine wpo_nil (then_n ?_);rcases Bool.eq_false_or_eq_true (!decide ((a.length : Int) = (b_.length : Int))) with c3 | c3
 ·replace hp := ifT c3 hp;refine AM.wp_condT (by simp only [ev_t, ev_c, g10, c3]) ?_;refine AM.wp_seq hp0 (AM.wp_reg hp0 ?_);refine wpo_seg hp0 1 (fun s H' => s.length = 26 ∧ gt s 4 = .bool false ∧ H = H') (by simp only [↓runs, isCall, ↓reduceIte, ↓gd_true, ↓gd_false, evs, AV.cells, Nat.reduceEqDiff, Nat.reduceLT, reduceCtorEq, Nat.reduceAdd, sy, g0, g1, g10, hl]) ?_;rintro s _ ⟨hl, g4, rfl⟩;refine wpo_nil (then_n ?_);refine AM.wp_ret ?_;refine then_r ?_;obtain rfl := Option.some.inj hp;refine body_ret (vs := [.bool false]) (by simp only [rvs, f_semigroupref03_Same, Option.map_some, g4]) ?_;exact ⟨W, .refl _, hst, rfl⟩
 ·replace hp := ifF c3 hp;refine AM.wp_condF (by simp only [ev_t, ev_c, g10, c3]) ?_;refine AM.wp_skip ?_;refine then_n ?_;refine AM.wp_seq hp0 (AM.wp_seq hp0 (AM.wp_reg hp0 ?_));have f4 := fz_ln h_0;refine wpo_seg hp0 3 (fun s H' => s.length = 26 ∧ gt s 0 = v_0 ∧ gt s 1 = v_1 ∧ gt s 12 = .int .i64 (a.length : Int) ∧ gt s 13 = .int .i64 0 ∧ H = H') (by simp only [↓runs, isCall, ↓reduceIte, ↓gd_true, ↓gd_false, evs, AV.cells, Nat.reduceEqDiff, Nat.reduceLT, reduceCtorEq, Nat.reduceAdd, sy, f4, g0, g1, g10, hl]) ?_;rintro s _ ⟨hl, g0, g1, g12, g13, rfl⟩;refine wpo_nil (then_n ?_);obtain ⟨z11, e12, hp⟩ := bn hp;refine range_ref hp0 26 a.length (fun k x => P_semigroupref03_Same_l5 a b_ k) (fun _ x s H' => s.length = 26 ∧ gt s 0 = v_0 ∧ gt s 1 = v_1 ∧ H = H') (fun _ x s H' => s.length = 26 ∧ H = H') e12 (fz_big h_0) rfl ?_ ?_ hl g13 g12 ?_ ?_
  ·intro k x s H d v hd h; rcases hd with rfl | rfl | rfl <;> simpa only [gt_other, pt_length, Nat.reduceEqDiff, not_false_eq_true] using h
  ·exact ⟨hl, g0, g1, rfl⟩
  ·intro k7 x6 y8 s H hk hI hl g13 g12 hy9 hx10;change P_semigroupref03_Same_l5 a b_ k7 = some y8 at hy9;unfold P_semigroupref03_Same_l5 at hy9;obtain ⟨hl, g0, g1, rfl⟩ := hI;refine AM.wp_seq hp0 (AM.wp_reg hp0 ?_);refine wpo_seg hp0 2 (fun s H' => s.length = 26 ∧ gt s 0 = v_0 ∧ gt s 1 = v_1 ∧ gt s 5 = .int .i64 (k7 : Int) ∧ gt s 12 = .int .i64 (a.length : Int) ∧ gt s 13 = .int .i64 (k7 : Int) ∧ H = H') (by simp only [↓runs, isCall, ↓reduceIte, ↓gd_true, ↓gd_false, evs, AV.cells, Nat.reduceEqDiff, Nat.reduceLT, reduceCtorEq, Nat.reduceAdd, sy, g0, g1, g12, g13, hl]) ?_;rintro s _ ⟨hl, g0, g1, g5, g12, g13, rfl⟩;refine wpo_nil (then_n ?_);refine AM.wp_seq hp0 (AM.wp_reg hp0 ?_);obtain ⟨x14, e15, hy9⟩ := bn hy9;obtain ⟨p16, _, f18, f19, rfl⟩ := fz_at (k := .i64) hst h_0 e15 rfl;obtain ⟨x21, e22, hy9⟩ := bn hy9;obtain ⟨p23, _, f25, f26, rfl⟩ := fz_at (k := .i64) hst h_1 e22 rfl;refine wpo_seg hp0 9 (fun s H' => s.length = 26 ∧ gt s 0 = v_0 ∧ gt s 1 = v_1 ∧ gt s 12 = .int .i64 (a.length : Int) ∧ gt s 13 = .int .i64 (k7 : Int) ∧ gt s 24 = .bool (!decide (x14 = x21)) ∧ H = H') (by simp only [↓runs, isCall, ↓reduceIte, ↓gd_true, ↓gd_false, evs, AV.cells, Nat.reduceEqDiff, Nat.reduceLT, reduceCtorEq, Nat.reduceAdd, sy, f18, f19, f25, f26, g0, g1, g5, g12, g13, hl]) ?_;rintro s _ ⟨hl, g0, g1, g12, g13, g24, rfl⟩;refine wpo_nil (then_n ?_);rcases Bool.eq_false_or_eq_true (!decide (x14 = x21)) with c28 | c28
   ·replace hy9 := ifT c28 hy9;refine AM.wp_condT (by simp only [ev_t, ev_c, g24, c28]) ?_;refine AM.wp_seq hp0 (AM.wp_reg hp0 ?_);refine wpo_seg hp0 1 (fun s H' => s.length = 26 ∧ gt s 4 = .bool false ∧ H = H') (by simp only [↓runs, isCall, ↓reduceIte, ↓gd_true, ↓gd_false, evs, AV.cells, Nat.reduceEqDiff, Nat.reduceLT, reduceCtorEq, Nat.reduceAdd, sy, g0, g1, g12, g13, g24, hl]) ?_;rintro s _ ⟨hl, g4, rfl⟩;refine wpo_nil (then_n ?_);refine AM.wp_ret ?_;refine rnd_r ?_;refine then_r ?_;obtain rfl := Option.some.inj hy9;have hx := hx10 _ rfl;subst hx;dsimp only at hp;obtain rfl := Option.some.inj hp;refine body_ret (vs := [.bool false]) (by simp only [rvs, f_semigroupref03_Same, Option.map_some, g4]) ?_;exact ⟨W, .refl _, hst, rfl⟩
   ·replace hy9 := ifF c28 hy9;refine AM.wp_condF (by simp only [ev_t, ev_c, g24, c28]) ?_;refine AM.wp_skip ?_;refine rnd_n ?_;obtain rfl := Option.some.inj hy9;exact ⟨_, rfl, hl, g13, g12, ⟨hl, g0, g1, rfl⟩⟩
  ·rintro x29 s Hn hz hI;replace hI : (fun s H' => s.length = 26 ∧ H = H') s Hn := by
    rcases hI with ⟨hI, -⟩ | ⟨_, hI⟩
    ·obtain ⟨hl, g0, g1, e2⟩ := hI;exact ⟨hl, e2⟩
    ·exact hI
   subst hz;dsimp only at hp hI;obtain ⟨hl, rfl⟩ := hI;refine then_n ?_;refine AM.wp_seq hp0 (AM.wp_reg hp0 ?_);refine wpo_seg hp0 1 (fun s H' => s.length = 26 ∧ gt s 4 = .bool true ∧ H = H') (by simp only [↓runs, isCall, ↓reduceIte, ↓gd_true, ↓gd_false, evs, AV.cells, Nat.reduceEqDiff, Nat.reduceLT, reduceCtorEq, Nat.reduceAdd, sy, hl]) ?_;rintro s _ ⟨hl, g4, rfl⟩;refine wpo_nil (then_n ?_);refine AM.wp_ret ?_;obtain rfl := Option.some.inj hp;refine body_ret (vs := [.bool true]) (by simp only [rvs, f_semigroupref03_Same, Option.map_some, g4]) ?_;exact ⟨W, .refl _, hst, rfl⟩

end Go.Proofs.Ytmdpejgnkoneoaa.Pu
set_option maxRecDepth 100000
set_option maxHeartbeats 4000000
namespace Go.Proofs.Ytmdpejgnkoneoaa.Pu
open Go Go.AM Go.Proofs.Ytmdpejgnkoneoaa.Code

noncomputable def P_semigroupref03_Valid (p_ : List Int) : Option (Bool) :=
 Option.bind (
  if decide ((p_.length : Int) ≤ 4096) then
   Option.bind (P_semigroupref03_Canonical p_) fun r5 =>
   Option.bind (P_semigroupref03_Same p_ r5) fun r14 =>
   some r14
  else
   some false) fun z1 =>
 some z1
theorem R_semigroupref03_Valid {G : List Frag} {W H : AH} {v_0 : AV} {p_ : List Int} (hst : St G W H) (h_0 : Rp.rv W v_0 p_) {r : Bool} (hp : P_semigroupref03_Valid p_ = some r) :
  wpc E0 N_semigroupref03_Valid [v_0] H fun rv H' => ∃ W', Wle W W' ∧ St G W' H' ∧ rv = .bool r := by
 refine enterN (F := f_semigroupref03_Valid) rfl (Nat.le_of_ble_eq_true rfl) fun s hl hg => ?_;replace hl : s.length = 12 := hl;have g0 : gt s 0 = v_0 := hg 0 (Nat.le_of_ble_eq_true rfl);clear hg;unfold P_semigroupref03_Valid at hp;show wp E0 c_semigroupref03_Valid s H _;unfold c_semigroupref03_Valid;refine AM.wp_seq hp0 (AM.wp_reg hp0 ?_);refine wpo_seg hp0 1 (fun s H' => s.length = 12 ∧ gt s 0 = v_0 ∧ H = H') (by simp only [↓runs, isCall, ↓reduceIte, ↓gd_true, ↓gd_false, evs, AV.cells, Nat.reduceEqDiff, Nat.reduceLT, reduceCtorEq, Nat.reduceAdd, sy, g0, hl]) ?_;rintro s _ ⟨hl, g0, rfl⟩;refine wpo_nil (then_n ?_);refine AM.wp_seq hp0 ?_;obtain ⟨z1, hj2, hp⟩ := bn hp;refine AM.wp_regK hp0 (fun s H' => ∃ (W' : AH), s.length = 12 ∧ gt s 2 = .bool z1 ∧  Wle W W' ∧ St G W' H') ?_ ?_
 ·have f3 := fz_ln h_0;rcases Bool.eq_false_or_eq_true (decide ((p_.length : Int) ≤ 4096)) with c4 | c4
  ·replace hj2 := ifT c4 hj2;refine wpo_seg hp0 6 (fun s H' => s.length = 12 ∧ gt s 6 = .bool true ∧ gt s 7 = v_0 ∧ gt s 8 = v_0 ∧ H = H') (by simp only [↓runs, isCall, ↓reduceIte, ↓gd_true, ↓gd_false, evs, AV.cells, Nat.reduceEqDiff, Nat.reduceLT, reduceCtorEq, Nat.reduceAdd, sy, f3, c4, g0, hl]) ?_;rintro s _ ⟨hl, g6, g7, g8, rfl⟩;obtain ⟨r5, e6, hj2⟩ := bn hj2;refine wpo_callK hp0 (by simp only [wanted, g6, beq_self_eq_true]) (ys := [v_0]) (by simp only [evs, List.map_cons, List.map_nil, ev_t, ev_c, g8]) (R_semigroupref03_Canonical hst h_0 e6) ?_;rintro rv7 H ⟨W, w9, fg10, hst, o11⟩;replace h_0 := Rp.mono w9 h_0;refine wpo_seg hp0 0 (fun s H' => s.length = 12 ∧ gt s 6 = .bool true ∧ gt s 7 = v_0 ∧ gt s 9 = rv7 ∧ H = H') (by simp only [↓runs, isCall, ↓reduceIte, ↓gd_true, ↓gd_false, evs, AV.cells, Nat.reduceEqDiff, Nat.reduceLT, reduceCtorEq, Nat.reduceAdd, sy, gt_other, g6, g7, g8, hl]) ?_;rintro s _ ⟨hl, g6, g7, g9, rfl⟩;obtain ⟨W, w13, hst, h12⟩ := ow_frz hst o11;replace h_0 := Rp.mono w13 h_0;obtain ⟨r14, e15, hj2⟩ := bn hj2;refine wpo_callK hp0 (by simp only [wanted, g6, beq_self_eq_true]) (ys := [v_0, rv7]) (by simp only [evs, List.map_cons, List.map_nil, ev_t, ev_c, g7, g9]) (R_semigroupref03_Same hst h_0 h12 e15) ?_;rintro rv16 H ⟨W, w17, hst, rfl⟩;replace h_0 := Rp.mono w17 h_0;replace h12 := Rp.mono w17 h12;refine wpo_seg hp0 2 (fun s H' => s.length = 12 ∧ gt s 2 = .bool r14 ∧ H = H') (by simp only [↓runs, isCall, ↓reduceIte, ↓gd_true, ↓gd_false, evs, AV.cells, Nat.reduceEqDiff, Nat.reduceLT, reduceCtorEq, Nat.reduceAdd, sy, gt_other, g6, g7, g9, hl]) ?_;rintro s _ ⟨hl, g2, rfl⟩;refine wpo_nil ?_;obtain rfl := Option.some.inj hj2;exact ⟨W, hl, g2, ((w9.trans w13).trans w17), hst⟩
  ·replace hj2 := ifF c4 hj2;refine wpo_seg hp0 10 (fun s H' => s.length = 12 ∧ gt s 2 = .bool false ∧ H = H') (by simp only [↓runs, isCall, ↓reduceIte, ↓gd_true, ↓gd_false, evs, AV.cells, Nat.reduceEqDiff, Nat.reduceLT, reduceCtorEq, Nat.reduceAdd, sy, f3, c4, g0, hl]) ?_;rintro s _ ⟨hl, g2, rfl⟩;refine wpo_nil ?_;obtain rfl := Option.some.inj hj2;exact ⟨W, hl, g2, .refl _, hst⟩
 ·rintro s H ⟨W, hl, g2, w18, hst⟩;refine then_n ?_;refine AM.wp_ret ?_;obtain rfl := Option.some.inj hp;refine body_ret (vs := [.bool z1]) (by simp only [rvs, f_semigroupref03_Valid, Option.map_some, g2]) ?_;exact ⟨W, w18, hst, rfl⟩

end Go.Proofs.Ytmdpejgnkoneoaa.Pu
set_option maxRecDepth 100000
set_option maxHeartbeats 4000000
namespace Go.Proofs.Ytmdpejgnkoneoaa.Pu
open Go Go.AM Go.Proofs.Ytmdpejgnkoneoaa.Code

end Go.Proofs.Ytmdpejgnkoneoaa.Pu
set_option maxRecDepth 100000
set_option maxHeartbeats 4000000
namespace Go.Proofs.Ytmdpejgnkoneoaa.Pu
open Go Go.AM Go.Proofs.Ytmdpejgnkoneoaa.Code

end Go.Proofs.Ytmdpejgnkoneoaa.Pu
set_option maxRecDepth 100000
set_option maxHeartbeats 4000000
namespace Go.Proofs.Ytmdpejgnkoneoaa.Pu
open Go Go.AM Go.Proofs.Ytmdpejgnkoneoaa.Code

end Go.Proofs.Ytmdpejgnkoneoaa.Pu
set_option maxRecDepth 100000
set_option maxHeartbeats 4000000
namespace Go.Proofs.Ytmdpejgnkoneoaa.Pu
open Go Go.AM Go.Proofs.Ytmdpejgnkoneoaa.Code

end Go.Proofs.Ytmdpejgnkoneoaa.Pu
set_option maxRecDepth 100000
set_option maxHeartbeats 4000000
namespace Go.Proofs.Ytmdpejgnkoneoaa.Pu
open Go Go.AM Go.Proofs.Ytmdpejgnkoneoaa.Code

noncomputable def P_partition_Trivial (n : Int) : Option ((List Int)) :=
 Option.bind (
  if decide (n < 0) then
   some true
  else
   some (decide (4096 < n))) fun z1 =>
 if z1 then
  some []
 else
  Option.bind (mkz (α := Int) 8 n n 0) fun x7 =>
  some x7
theorem R_partition_Trivial {G : List Frag} {W H : AH} {n : Int} (hst : St G W H) {r : (List Int)} (hp : P_partition_Trivial n = some r) :
  wpc E0 N_partition_Trivial [.int .i64 n] H fun rv H' => ∃ W', Wle W W' ∧ ∃ (g0 : Frag), St (g0 :: G) W' H' ∧ OwS W' rv g0 (r : List Int) := by
 refine enterN (F := f_partition_Trivial) rfl (Nat.le_of_ble_eq_true rfl) fun s hl hg => ?_;replace hl : s.length = 11 := hl;have g0 : gt s 0 = .int .i64 n := hg 0 (Nat.le_of_ble_eq_true rfl);clear hg;unfold P_partition_Trivial at hp;show wp E0 c_partition_Trivial s H _;unfold c_partition_Trivial;refine AM.wp_seq hp0 (AM.wp_reg hp0 ?_);refine wpo_seg hp0 1 (fun s H' => s.length = 11 ∧ gt s 0 = .int .i64 n ∧ H = H') (by simp only [↓runs, isCall, ↓reduceIte, ↓gd_true, ↓gd_false, evs, AV.cells, Nat.reduceEqDiff, Nat.reduceLT, reduceCtorEq, Nat.reduceAdd, sy, g0, hl]) ?_;rintro s _ ⟨hl, g0, rfl⟩;refine wpo_nil (then_n ?_);refine AM.wp_seq hp0 (AM.wp_seq hp0 ?_);obtain ⟨z1, hj2, hp⟩ := bn hp;refine AM.wp_regK hp0 (fun s H' => s.length = 11 ∧ gt s 8 = .bool z1 ∧ gt s 0 = .int .i64 n ∧ H = H') ?_ ?_
 ·rcases Bool.eq_false_or_eq_true (decide (n < 0)) with c3 | c3
  ·replace hj2 := ifT c3 hj2;refine wpo_seg hp0 6 (fun s H' => s.length = 11 ∧ gt s 0 = .int .i64 n ∧ gt s 8 = .bool true ∧ H = H') (by simp only [↓runs, isCall, ↓reduceIte, ↓gd_true, ↓gd_false, evs, AV.cells, Nat.reduceEqDiff, Nat.reduceLT, reduceCtorEq, Nat.reduceAdd, sy, c3, g0, hl]) ?_;rintro s _ ⟨hl, g0, g8, rfl⟩;refine wpo_nil ?_;obtain rfl := Option.some.inj hj2;exact ⟨hl, g8, g0, rfl⟩
  ·replace hj2 := ifF c3 hj2;refine wpo_seg hp0 6 (fun s H' => s.length = 11 ∧ gt s 0 = .int .i64 n ∧ gt s 8 = .bool (decide (4096 < n)) ∧ H = H') (by simp only [↓runs, isCall, ↓reduceIte, ↓gd_true, ↓gd_false, evs, AV.cells, Nat.reduceEqDiff, Nat.reduceLT, reduceCtorEq, Nat.reduceAdd, sy, c3, g0, hl]) ?_;rintro s _ ⟨hl, g0, g8, rfl⟩;refine wpo_nil ?_;obtain rfl := Option.some.inj hj2;exact ⟨hl, g8, g0, rfl⟩
 ·rintro s _ ⟨hl, g8, g0, rfl⟩;refine then_n ?_;rcases Bool.eq_false_or_eq_true (z1) with c5 | c5
  ·replace hp := ifT c5 hp;refine AM.wp_condT (by simp only [ev_t, ev_c, g8, c5]) ?_;refine AM.wp_seq hp0 (AM.wp_reg hp0 ?_);refine wpo_seg hp0 1 (fun s H' => s.length = 11 ∧ gt s 2 = .nils ∧ H = H') (by simp only [↓runs, isCall, ↓reduceIte, ↓gd_true, ↓gd_false, evs, AV.cells, Nat.reduceEqDiff, Nat.reduceLT, reduceCtorEq, Nat.reduceAdd, sy, g0, g8, hl]) ?_;rintro s _ ⟨hl, g2, rfl⟩;refine wpo_nil (then_n ?_);refine AM.wp_ret ?_;refine then_r ?_;replace hst := hst.nil;have o6 := ow_nil (α := Int) W;obtain rfl := Option.some.inj hp;refine body_ret (vs := [.nils]) (by simp only [rvs, f_partition_Trivial, Option.map_some, g2]) ?_;exact ⟨W, .refl _, _, hst, o6⟩
  ·replace hp := ifF c5 hp;refine AM.wp_condF (by simp only [ev_t, ev_c, g8, c5]) ?_;refine AM.wp_skip ?_;refine then_n ?_;refine AM.wp_seq hp0 (AM.wp_reg hp0 ?_);obtain ⟨x7, e8, hp⟩ := bn hp;obtain ⟨v9, H10, fg11, W, f13, w12, hst, o14⟩ := ow_mk (kn := .i64) (kc := .i64) hst (show Rp.rv _ (.int .i64 0) (0 : Int) from rfl) [.int .i64 0] rfl e8;refine wpo_seg hp0 3 (fun s H' => s.length = 11 ∧ gt s 2 = v9 ∧ H10 = H') (by simp only [↓runs, isCall, ↓reduceIte, ↓gd_true, ↓gd_false, evs, AV.cells, Nat.reduceEqDiff, Nat.reduceLT, reduceCtorEq, Nat.reduceAdd, sy, f13, g0, g8, hl]) ?_;rintro s _ ⟨hl, g2, rfl⟩;refine wpo_nil (then_n ?_);refine AM.wp_ret ?_;obtain rfl := Option.some.inj hp;refine body_ret (vs := [v9]) (by simp only [rvs, f_partition_Trivial, Option.map_some, g2]) ?_;exact ⟨W, w12, _, hst, o14⟩

end Go.Proofs.Ytmdpejgnkoneoaa.Pu
set_option maxRecDepth 100000
set_option maxHeartbeats 4000000
namespace Go.Proofs.Ytmdpejgnkoneoaa.Pu
open Go Go.AM Go.Proofs.Ytmdpejgnkoneoaa.Code

noncomputable def P_partition_Discrete_l17 (k19 : Nat) (x18 : List Int) : Option ((List Int)) :=
 Option.bind (si x18 (k19 : Int) (k19 : Int)) fun x29 =>
 some x29
noncomputable def P_partition_Discrete (n : Int) : Option ((List Int)) :=
 Option.bind (
  if decide (n < 0) then
   some true
  else
   some (decide (4096 < n))) fun z1 =>
 if z1 then
  some []
 else
  Option.bind (mkz (α := Int) 8 n n 0) fun x7 =>
  Option.bind (forS x7.length (fun k x => P_partition_Discrete_l17 k x) x7) fun z23 =>
  some z23
theorem R_partition_Discrete {G : List Frag} {W H : AH} {n : Int} (hst : St G W H) {r : (List Int)} (hp : P_partition_Discrete n = some r) :
  wpc E0 N_partition_Discrete [.int .i64 n] H fun rv H' => ∃ W', Wle W W' ∧ ∃ (g0 : Frag), St (g0 :: G) W' H' ∧ OwS W' rv g0 (r : List Int) := by
 refine enterN (F := f_partition_Discrete) rfl (Nat.le_of_ble_eq_true rfl) fun s hl hg => ?_;replace hl : s.length = 24 := hl;have g0 : gt s 0 = .int .i64 n := hg 0 (Nat.le_of_ble_eq_true rfl);clear hg;unfold P_partition_Discrete at hp;show wp E0 c_partition_Discrete s H _;unfold c_partition_Discrete;refine AM.wp_seq hp0 (AM.wp_reg hp0 ?_);refine wpo_seg hp0 1 (fun s H' => s.length = 24 ∧ gt s 0 = .int .i64 n ∧ H = H') (by simp only [↓runs, isCall, ↓reduceIte, ↓gd_true, ↓gd_false, evs, AV.cells, Nat.reduceEqDiff, Nat.reduceLT, reduceCtorEq, Nat.reduceAdd, sy, g0, hl]) ?_;rintro s _ ⟨hl, g0, rfl⟩;refine wpo_nil (then_n ?_);refine AM.wp_seq hp0 (AM.wp_seq hp0 ?_);obtain ⟨z1, hj2, hp⟩ := bn hp;refine AM.wp_regK hp0 (fun s H' => s.length = 24 ∧ gt s 10 = .bool z1 ∧ gt s 0 = .int .i64 n ∧ H = H') ?_ ?_
 ·rcases Bool.eq_false_or_eq_true (decide (n < 0)) with c3 | c3
  ·replace hj2 := ifT c3 hj2;refine wpo_seg hp0 6 (fun s H' => s.length = 24 ∧ gt s 0 = .int .i64 n ∧ gt s 10 = .bool true ∧ H = H') (by simp only [↓runs, isCall, ↓reduceIte, ↓gd_true, ↓gd_false, evs, AV.cells, Nat.reduceEqDiff, Nat.reduceLT, reduceCtorEq, Nat.reduceAdd, sy, c3, g0, hl]) ?_;rintro s _ ⟨hl, g0, g10, rfl⟩;refine wpo_nil ?_;obtain rfl := Option.some.inj hj2;exact ⟨hl, g10, g0, rfl⟩
  ·replace hj2 := ifF c3 hj2;refine wpo_seg hp0 6 (fun s H' => s.length = 24 ∧ gt s 0 = .int .i64 n ∧ gt s 10 = .bool (decide (4096 < n)) ∧ H = H') (by simp only [↓runs, isCall, ↓reduceIte, ↓gd_true, ↓gd_false, evs, AV.cells, Nat.reduceEqDiff, Nat.reduceLT, reduceCtorEq, Nat.reduceAdd, sy, c3, g0, hl]) ?_;rintro s _ ⟨hl, g0, g10, rfl⟩;refine wpo_nil ?_;obtain rfl := Option.some.inj hj2;exact ⟨hl, g10, g0, rfl⟩
 ·rintro s _ ⟨hl, g10, g0, rfl⟩;refine then_n ?_;rcases Bool.eq_false_or_eq_true (z1) with c5 | c5
  ·replace hp := ifT c5 hp;refine AM.wp_condT (by simp only [ev_t, ev_c, g10, c5]) ?_;refine AM.wp_seq hp0 (AM.wp_reg hp0 ?_);refine wpo_seg hp0 1 (fun s H' => s.length = 24 ∧ gt s 2 = .nils ∧ H = H') (by simp only [↓runs, isCall, ↓reduceIte, ↓gd_true, ↓gd_false, evs, AV.cells, Nat.reduceEqDiff, Nat.reduceLT, reduceCtorEq, Nat.reduceAdd, sy, g0, g10, hl]) ?_;rintro s _ ⟨hl, g2, rfl⟩;refine wpo_nil (then_n ?_);refine AM.wp_ret ?_;refine then_r ?_;replace hst := hst.nil;have o6 := ow_nil (α := Int) W;obtain rfl := Option.some.inj hp;refine body_ret (vs := [.nils]) (by simp only [rvs, f_partition_Discrete, Option.map_some, g2]) ?_;exact ⟨W, .refl _, _, hst, o6⟩
  ·replace hp := ifF c5 hp;refine AM.wp_condF (by simp only [ev_t, ev_c, g10, c5]) ?_;refine AM.wp_skip ?_;refine then_n ?_;refine AM.wp_seq hp0 (AM.wp_reg hp0 ?_);obtain ⟨x7, e8, hp⟩ := bn hp;obtain ⟨v9, H10, fg11, W, f13, w12, hst, o14⟩ := ow_mk (kn := .i64) (kc := .i64) hst (show Rp.rv _ (.int .i64 0) (0 : Int) from rfl) [.int .i64 0] rfl e8;refine wpo_seg hp0 3 (fun s H' => s.length = 24 ∧ gt s 3 = v9 ∧ H10 = H') (by simp only [↓runs, isCall, ↓reduceIte, ↓gd_true, ↓gd_false, evs, AV.cells, Nat.reduceEqDiff, Nat.reduceLT, reduceCtorEq, Nat.reduceAdd, sy, f13, g0, g10, hl]) ?_;rintro s _ ⟨hl, g3, rfl⟩;refine wpo_nil (then_n ?_);refine AM.wp_seq hp0 (AM.wp_seq hp0 (AM.wp_reg hp0 ?_));have f15 := ow_ln o14;have b16 := ow_big o14;refine wpo_seg hp0 3 (fun s H' => s.length = 24 ∧ gt s 3 = v9 ∧ gt s 14 = .int .i64 (x7.length : Int) ∧ gt s 15 = .int .i64 0 ∧ H10 = H') (by simp only [↓runs, isCall, ↓reduceIte, ↓gd_true, ↓gd_false, evs, AV.cells, Nat.reduceEqDiff, Nat.reduceLT, reduceCtorEq, Nat.reduceAdd, sy, f15, g3, hl]) ?_;rintro s _ ⟨hl, g3, g14, g15, rfl⟩;refine wpo_nil (then_n ?_);obtain ⟨z23, e24, hp⟩ := bn hp;refine rangeS_ref hp0 24 x7.length (fun k x => P_partition_Discrete_l17 k x) (fun _ x s H' => ∃ (W' : AH) (qo2 : Frag), s.length = 24 ∧ gt s 3 = v9 ∧  Wle W W' ∧ St (qo2 :: G) W' H' ∧ OwS W' v9 qo2 (x : List Int)) e24 (b16) rfl ?_ ?_ hl g15 g14 ?_ ?_
   ·intro k x s H d v hd h; rcases hd with rfl | rfl | rfl <;> simpa only [gt_other, pt_length, Nat.reduceEqDiff, not_false_eq_true] using h
   ·exact ⟨W, _, hl, g3, .refl _, hst, o14⟩
   ·intro k19 x18 y20 s H hk hI hl g15 g14 hy21;change P_partition_Discrete_l17 k19 x18 = some y20 at hy21;unfold P_partition_Discrete_l17 at hy21;obtain ⟨W, fg27, hl, g3, w26, hst, o28⟩ := hI;refine AM.wp_seq hp0 (AM.wp_reg hp0 ?_);refine wpo_seg hp0 2 (fun s H' => s.length = 24 ∧ gt s 3 = v9 ∧ gt s 4 = .int .i64 (k19 : Int) ∧ gt s 14 = .int .i64 (x7.length : Int) ∧ gt s 15 = .int .i64 (k19 : Int) ∧ H = H') (by simp only [↓runs, isCall, ↓reduceIte, ↓gd_true, ↓gd_false, evs, AV.cells, Nat.reduceEqDiff, Nat.reduceLT, reduceCtorEq, Nat.reduceAdd, sy, g3, g14, g15, hl]) ?_;rintro s _ ⟨hl, g3, g4, g14, g15, rfl⟩;refine wpo_nil (then_n ?_);refine AM.wp_reg hp0 ?_;obtain ⟨x29, e30, hy21⟩ := bn hy21;obtain ⟨p31, H32, fg33, f34, f35, hst, o36⟩ := ow_set (k := .i64) 1 rfl hst o28 (show Rp.rv W (.int .i64 (k19 : Int)) ((k19 : Int) : Int) from rfl) e30;refine wpo_seg hp0 5 (fun s H' => s.length = 24 ∧ gt s 3 = v9 ∧ gt s 14 = .int .i64 (x7.length : Int) ∧ gt s 15 = .int .i64 (k19 : Int) ∧ H32 = H') (by simp only [↓runs, isCall, ↓reduceIte, ↓gd_true, ↓gd_false, evs, AV.cells, Nat.reduceEqDiff, Nat.reduceLT, reduceCtorEq, Nat.reduceAdd, sy, f34, f35, g3, g4, g14, g15, hl]) ?_;rintro s _ ⟨hl, g3, g14, g15, rfl⟩;refine wpo_nil ?_;refine rnd_n ?_;obtain rfl := Option.some.inj hy21;exact ⟨hl, g15, g14, ⟨W, _, hl, g3, w26, hst, o36⟩⟩
   ·rintro s H hI _;obtain ⟨W, fg38, hl, g3, w37, hst, o39⟩ := hI;refine then_n ?_;refine AM.wp_seq hp0 (AM.wp_reg hp0 ?_);refine wpo_seg hp0 2 (fun s H' => s.length = 24 ∧ gt s 2 = v9 ∧ H = H') (by simp only [↓runs, isCall, ↓reduceIte, ↓gd_true, ↓gd_false, evs, AV.cells, Nat.reduceEqDiff, Nat.reduceLT, reduceCtorEq, Nat.reduceAdd, sy, g3, hl]) ?_;rintro s _ ⟨hl, g2, rfl⟩;refine wpo_nil (then_n ?_);refine AM.wp_ret ?_;obtain rfl := Option.some.inj hp;refine body_ret (vs := [v9]) (by simp only [rvs, f_partition_Discrete, Option.map_some, g2]) ?_;exact ⟨W, (w12.trans w37), _, hst, o39⟩

end Go.Proofs.Ytmdpejgnkoneoaa.Pu
set_option maxRecDepth 100000
set_option maxHeartbeats 4000000
namespace Go.Proofs.Ytmdpejgnkoneoaa.Pu
open Go Go.AM Go.Proofs.Ytmdpejgnkoneoaa.Code

noncomputable def P_partition_Valid_l4 (p_ : List Int) (k6 : Nat) (x5 : Int) : Option (Lp (Int) (Bool)) :=
 Option.bind (gi p_ (k6 : Int)) fun x14 =>
 Option.bind (
  if decide (x14 < 0) then
   some true
  else
   some (decide (x5 < x14))) fun z21 =>
 if z21 then
  some (.ex false)
 else
  if decide (x14 = x5) then
   some (.go (w64 (x5 + 1)))
  else
   some (.go x5)
noncomputable def P_partition_Valid (p_ : List Int) : Option (Bool) :=
 if decide (4096 < (p_.length : Int)) then
  some false
 else
  Option.bind (forR p_.length (fun k x => P_partition_Valid_l4 p_ k x) 0) fun z10 =>
  match z10 with
  | .inl x27 =>
   some true
  | .inr b => some b
theorem R_partition_Valid {G : List Frag} {W H : AH} {v_0 : AV} {p_ : List Int} (hst : St G W H) (h_0 : Rp.rv W v_0 p_) {r : Bool} (hp : P_partition_Valid p_ = some r) :
  wpc E0 N_partition_Valid [v_0] H fun rv H' => ∃ W', Wle W W' ∧ St G W' H' ∧ rv = .bool r := by
 refine enterN (F := f_partition_Valid) rfl (Nat.le_of_ble_eq_true rfl) fun s hl hg => ?_;replace hl : s.length = 28 := hl;have g0 : gt s 0 = v_0 := hg 0 (Nat.le_of_ble_eq_true rfl);clear hg;unfold P_partition_Valid at hp;show wp E0 c_partition_Valid s H _;unfold c_partition_Valid;refine AM.wp_seq hp0 (AM.wp_reg hp0 ?_);refine wpo_seg hp0 1 (fun s H' => s.length = 28 ∧ gt s 0 = v_0 ∧ H = H') (by simp only [↓runs, isCall, ↓reduceIte, ↓gd_true, ↓gd_false, evs, AV.cells, Nat.reduceEqDiff, Nat.reduceLT, reduceCtorEq, Nat.reduceAdd, sy, g0, hl]) ?_;rintro s _ ⟨hl, g0, rfl⟩;refine wpo_nil (then_n ?_);refine AM.wp_seq hp0 (AM.wp_seq hp0 (AM.wp_reg hp0 ?_));have f1 := fz_ln h_0;refine wpo_seg hp0 3 (fun s H' => s.length = 28 ∧ gt s 0 = v_0 ∧ gt s 8 = .bool (decide (4096 < (p_.length : Int))) ∧ H = H') (by simp only [↓runs, isCall, ↓reduceIte, ↓gd_true, ↓gd_false, evs, AV.cells, Nat.reduceEqDiff, Nat.reduceLT, reduceCtorEq, Nat.reduceAdd, sy, f1, g0, hl]) ?_;rintro s _ ⟨hl, g0, g8, rfl⟩;refine wpo_nil (then_n ?_);rcases Bool.eq_false_or_eq_true (decide (4096 < (p_.length : Int))) with c2 | c2
 ·replace hp := ifT c2 hp;refine AM.wp_condT (by simp only [ev_t, ev_c, g8, c2]) ?_;refine AM.wp_seq hp0 (AM.wp_reg hp0 ?_);refine wpo_seg hp0 1 (fun s H' => s.length = 28 ∧ gt s 2 = .bool false ∧ H = H') (by simp only [↓runs, isCall, ↓reduceIte, ↓gd_true, ↓gd_false, evs, AV.cells, Nat.reduceEqDiff, Nat.reduceLT, reduceCtorEq, Nat.reduceAdd, sy, g0, g8, hl]) ?_;rintro s _ ⟨hl, g2, rfl⟩;refine wpo_nil (then_n ?_);refine AM.wp_ret ?_;refine then_r ?_;obtain rfl := Option.some.inj hp;refine body_ret (vs := [.bool false]) (by simp only [rvs, f_partition_Valid, Option.map_some, g2]) ?_;exact ⟨W, .refl _, hst, rfl⟩
 ·replace hp := ifF c2 hp;refine AM.wp_condF (by simp only [ev_t, ev_c, g8, c2]) ?_;refine AM.wp_skip ?_;refine then_n ?_;refine AM.wp_seq hp0 (AM.wp_reg hp0 ?_);refine wpo_seg hp0 1 (fun s H' => s.length = 28 ∧ gt s 0 = v_0 ∧ gt s 3 = .int .i64 0 ∧ H = H') (by simp only [↓runs, isCall, ↓reduceIte, ↓gd_true, ↓gd_false, evs, AV.cells, Nat.reduceEqDiff, Nat.reduceLT, reduceCtorEq, Nat.reduceAdd, sy, g0, g8, hl]) ?_;rintro s _ ⟨hl, g0, g3, rfl⟩;refine wpo_nil (then_n ?_);refine AM.wp_seq hp0 (AM.wp_seq hp0 (AM.wp_reg hp0 ?_));have f3 := fz_ln h_0;refine wpo_seg hp0 3 (fun s H' => s.length = 28 ∧ gt s 3 = .int .i64 0 ∧ gt s 9 = v_0 ∧ gt s 10 = .int .i64 (p_.length : Int) ∧ gt s 11 = .int .i64 0 ∧ H = H') (by simp only [↓runs, isCall, ↓reduceIte, ↓gd_true, ↓gd_false, evs, AV.cells, Nat.reduceEqDiff, Nat.reduceLT, reduceCtorEq, Nat.reduceAdd, sy, f3, g0, g3, hl]) ?_;rintro s _ ⟨hl, g3, g9, g10, g11, rfl⟩;refine wpo_nil (then_n ?_);obtain ⟨z10, e11, hp⟩ := bn hp;refine range_ref hp0 28 p_.length (fun k x => P_partition_Valid_l4 p_ k x) (fun _ x s H' => s.length = 28 ∧ gt s 3 = .int .i64 x ∧ gt s 9 = v_0 ∧ H = H') (fun _ x s H' => s.length = 28 ∧ H = H') e11 (fz_big h_0) rfl ?_ ?_ hl g11 g10 ?_ ?_
  ·intro k x s H d v hd h; rcases hd with rfl | rfl | rfl <;> simpa only [gt_other, pt_length, Nat.reduceEqDiff, not_false_eq_true] using h
  ·exact ⟨hl, g3, g9, rfl⟩
  ·intro k6 x5 y7 s H hk hI hl g11 g10 hy8 hx9;change P_partition_Valid_l4 p_ k6 x5 = some y7 at hy8;unfold P_partition_Valid_l4 at hy8;obtain ⟨hl, g3, g9, rfl⟩ := hI;refine AM.wp_seq hp0 (AM.wp_reg hp0 ?_);obtain ⟨x14, e15, hy8⟩ := bn hy8;obtain ⟨p16, _, f18, f19, rfl⟩ := fz_at (k := .i64) hst h_0 e15 rfl;refine wpo_seg hp0 3 (fun s H' => s.length = 28 ∧ gt s 3 = .int .i64 x5 ∧ gt s 5 = .int .i64 x14 ∧ gt s 9 = v_0 ∧ gt s 10 = .int .i64 (p_.length : Int) ∧ gt s 11 = .int .i64 (k6 : Int) ∧ H = H') (by simp only [↓runs, isCall, ↓reduceIte, ↓gd_true, ↓gd_false, evs, AV.cells, Nat.reduceEqDiff, Nat.reduceLT, reduceCtorEq, Nat.reduceAdd, sy, f18, f19, g3, g9, g10, g11, hl]) ?_;rintro s _ ⟨hl, g3, g5, g9, g10, g11, rfl⟩;refine wpo_nil (then_n ?_);refine AM.wp_seq hp0 (AM.wp_seq hp0 ?_);obtain ⟨z21, hj22, hy8⟩ := bn hy8;refine AM.wp_regK hp0 (fun s H' => s.length = 28 ∧ gt s 21 = .bool z21 ∧ gt s 3 = .int .i64 x5 ∧ gt s 5 = .int .i64 x14 ∧ gt s 9 = v_0 ∧ gt s 10 = .int .i64 (p_.length : Int) ∧ gt s 11 = .int .i64 (k6 : Int) ∧ H = H') ?_ ?_
   ·rcases Bool.eq_false_or_eq_true (decide (x14 < 0)) with c23 | c23
    ·replace hj22 := ifT c23 hj22;refine wpo_seg hp0 7 (fun s H' => s.length = 28 ∧ gt s 3 = .int .i64 x5 ∧ gt s 5 = .int .i64 x14 ∧ gt s 9 = v_0 ∧ gt s 10 = .int .i64 (p_.length : Int) ∧ gt s 11 = .int .i64 (k6 : Int) ∧ gt s 21 = .bool true ∧ H = H') (by simp only [↓runs, isCall, ↓reduceIte, ↓gd_true, ↓gd_false, evs, AV.cells, Nat.reduceEqDiff, Nat.reduceLT, reduceCtorEq, Nat.reduceAdd, sy, c23, g3, g5, g9, g10, g11, hl]) ?_;rintro s _ ⟨hl, g3, g5, g9, g10, g11, g21, rfl⟩;refine wpo_nil ?_;obtain rfl := Option.some.inj hj22;exact ⟨hl, g21, g3, g5, g9, g10, g11, rfl⟩
    ·replace hj22 := ifF c23 hj22;refine wpo_seg hp0 7 (fun s H' => s.length = 28 ∧ gt s 3 = .int .i64 x5 ∧ gt s 5 = .int .i64 x14 ∧ gt s 9 = v_0 ∧ gt s 10 = .int .i64 (p_.length : Int) ∧ gt s 11 = .int .i64 (k6 : Int) ∧ gt s 21 = .bool (decide (x5 < x14)) ∧ H = H') (by simp only [↓runs, isCall, ↓reduceIte, ↓gd_true, ↓gd_false, evs, AV.cells, Nat.reduceEqDiff, Nat.reduceLT, reduceCtorEq, Nat.reduceAdd, sy, c23, g3, g5, g9, g10, g11, hl]) ?_;rintro s _ ⟨hl, g3, g5, g9, g10, g11, g21, rfl⟩;refine wpo_nil ?_;obtain rfl := Option.some.inj hj22;exact ⟨hl, g21, g3, g5, g9, g10, g11, rfl⟩
   ·rintro s _ ⟨hl, g21, g3, g5, g9, g10, g11, rfl⟩;refine then_n ?_;rcases Bool.eq_false_or_eq_true (z21) with c25 | c25
    ·replace hy8 := ifT c25 hy8;refine AM.wp_condT (by simp only [ev_t, ev_c, g21, c25]) ?_;refine AM.wp_seq hp0 (AM.wp_reg hp0 ?_);refine wpo_seg hp0 1 (fun s H' => s.length = 28 ∧ gt s 2 = .bool false ∧ H = H') (by simp only [↓runs, isCall, ↓reduceIte, ↓gd_true, ↓gd_false, evs, AV.cells, Nat.reduceEqDiff, Nat.reduceLT, reduceCtorEq, Nat.reduceAdd, sy, g3, g5, g9, g10, g11, g21, hl]) ?_;rintro s _ ⟨hl, g2, rfl⟩;refine wpo_nil (then_n ?_);refine AM.wp_ret ?_;refine then_r ?_;refine rnd_r ?_;refine then_r ?_;obtain rfl := Option.some.inj hy8;have hx := hx9 _ rfl;subst hx;dsimp only at hp;obtain rfl := Option.some.inj hp;refine body_ret (vs := [.bool false]) (by simp only [rvs, f_partition_Valid, Option.map_some, g2]) ?_;exact ⟨W, .refl _, hst, rfl⟩
    ·replace hy8 := ifF c25 hy8;refine AM.wp_condF (by simp only [ev_t, ev_c, g21, c25]) ?_;refine AM.wp_skip ?_;refine then_n ?_;refine AM.wp_seq hp0 (AM.wp_reg hp0 ?_);refine wpo_seg hp0 3 (fun s H' => s.length = 28 ∧ gt s 3 = .int .i64 x5 ∧ gt s 9 = v_0 ∧ gt s 10 = .int .i64 (p_.length : Int) ∧ gt s 11 = .int .i64 (k6 : Int) ∧ gt s 24 = .bool (decide (x14 = x5)) ∧ H = H') (by simp only [↓runs, isCall, ↓reduceIte, ↓gd_true, ↓gd_false, evs, AV.cells, Nat.reduceEqDiff, Nat.reduceLT, reduceCtorEq, Nat.reduceAdd, sy, g3, g5, g9, g10, g11, g21, hl]) ?_;rintro s _ ⟨hl, g3, g9, g10, g11, g24, rfl⟩;refine wpo_nil (then_n ?_);rcases Bool.eq_false_or_eq_true (decide (x14 = x5)) with c26 | c26
     ·replace hy8 := ifT c26 hy8;refine AM.wp_condT (by simp only [ev_t, ev_c, g24, c26]) ?_;refine AM.wp_reg hp0 ?_;refine wpo_seg hp0 3 (fun s H' => s.length = 28 ∧ gt s 3 = .int .i64 (w64 (x5 + 1)) ∧ gt s 9 = v_0 ∧ gt s 10 = .int .i64 (p_.length : Int) ∧ gt s 11 = .int .i64 (k6 : Int) ∧ H = H') (by simp only [↓runs, isCall, ↓reduceIte, ↓gd_true, ↓gd_false, evs, AV.cells, Nat.reduceEqDiff, Nat.reduceLT, reduceCtorEq, Nat.reduceAdd, sy, g3, g9, g10, g11, g24, hl]) ?_;rintro s _ ⟨hl, g3, g9, g10, g11, rfl⟩;refine wpo_nil ?_;refine rnd_n ?_;obtain rfl := Option.some.inj hy8;exact ⟨_, rfl, hl, g11, g10, ⟨hl, g3, g9, rfl⟩⟩
     ·replace hy8 := ifF c26 hy8;refine AM.wp_condF (by simp only [ev_t, ev_c, g24, c26]) ?_;refine AM.wp_skip ?_;refine rnd_n ?_;obtain rfl := Option.some.inj hy8;exact ⟨_, rfl, hl, g11, g10, ⟨hl, g3, g9, rfl⟩⟩
  ·rintro x27 s Hn hz hI;replace hI : (fun s H' => s.length = 28 ∧ H = H') s Hn := by
    rcases hI with ⟨hI, -⟩ | ⟨_, hI⟩
    ·obtain ⟨hl, g3, g9, e2⟩ := hI;exact ⟨hl, e2⟩
    ·exact hI
   subst hz;dsimp only at hp hI;obtain ⟨hl, rfl⟩ := hI;refine then_n ?_;refine AM.wp_seq hp0 (AM.wp_reg hp0 ?_);refine wpo_seg hp0 1 (fun s H' => s.length = 28 ∧ gt s 2 = .bool true ∧ H = H') (by simp only [↓runs, isCall, ↓reduceIte, ↓gd_true, ↓gd_false, evs, AV.cells, Nat.reduceEqDiff, Nat.reduceLT, reduceCtorEq, Nat.reduceAdd, sy, hl]) ?_;rintro s _ ⟨hl, g2, rfl⟩;refine wpo_nil (then_n ?_);refine AM.wp_ret ?_;obtain rfl := Option.some.inj hp;refine body_ret (vs := [.bool true]) (by simp only [rvs, f_partition_Valid, Option.map_some, g2]) ?_;exact ⟨W, .refl _, hst, rfl⟩

end Go.Proofs.Ytmdpejgnkoneoaa.Pu
set_option maxRecDepth 100000
set_option maxHeartbeats 4000000
namespace Go.Proofs.Ytmdpejgnkoneoaa.Pu
open Go Go.AM Go.Proofs.Ytmdpejgnkoneoaa.Code

noncomputable def P_partition_both (p_ : List Int) (q : List Int) : Option (Bool) :=
 Option.bind (
  if decide ((p_.length : Int) = (q.length : Int)) then
   Option.bind (P_partition_Valid p_) fun r6 =>
   if r6 then
    Option.bind (P_partition_Valid q) fun r11 =>
    some r11
   else
    some false
  else
   some false) fun z1 =>
 some z1
theorem R_partition_both {G : List Frag} {W H : AH} {v_0 v_1 : AV} {p_ : List Int} {q : List Int} (hst : St G W H) (h_0 : Rp.rv W v_0 p_) (h_1 : Rp.rv W v_1 q) {r : Bool} (hp : P_partition_both p_ q = some r) :
  wpc E0 N_partition_both [v_0, v_1] H fun rv H' => ∃ W', Wle W W' ∧ St G W' H' ∧ rv = .bool r := by
 refine enterN (F := f_partition_both) rfl (Nat.le_of_ble_eq_true rfl) fun s hl hg => ?_;replace hl : s.length = 18 := hl;have g0 : gt s 0 = v_0 := hg 0 (Nat.le_of_ble_eq_true rfl);have g1 : gt s 1 = v_1 := hg 1 (Nat.le_of_ble_eq_true rfl);clear hg;unfold P_partition_both at hp;show wp E0 c_partition_both s H _;unfold c_partition_both;refine AM.wp_seq hp0 (AM.wp_reg hp0 ?_);refine wpo_seg hp0 1 (fun s H' => s.length = 18 ∧ gt s 0 = v_0 ∧ gt s 1 = v_1 ∧ H = H') (by simp only [↓runs, isCall, ↓reduceIte, ↓gd_true, ↓gd_false, evs, AV.cells, Nat.reduceEqDiff, Nat.reduceLT, reduceCtorEq, Nat.reduceAdd, sy, g0, g1, hl]) ?_;rintro s _ ⟨hl, g0, g1, rfl⟩;refine wpo_nil (then_n ?_);refine AM.wp_seq hp0 ?_;obtain ⟨z1, hj2, hp⟩ := bn hp;refine AM.wp_regK hp0 (fun s H' => ∃ (W' : AH), s.length = 18 ∧ gt s 4 = .bool z1 ∧  Wle W W' ∧ St G W' H') ?_ ?_
 ·have f3 := fz_ln h_0;have f4 := fz_ln h_1;rcases Bool.eq_false_or_eq_true (decide ((p_.length : Int) = (q.length : Int))) with c5 | c5
  ·replace hj2 := ifT c5 hj2;refine wpo_seg hp0 7 (fun s H' => s.length = 18 ∧ gt s 1 = v_1 ∧ gt s 10 = .bool true ∧ gt s 11 = v_0 ∧ H = H') (by simp only [↓runs, isCall, ↓reduceIte, ↓gd_true, ↓gd_false, evs, AV.cells, Nat.reduceEqDiff, Nat.reduceLT, reduceCtorEq, Nat.reduceAdd, sy, f3, f4, c5, g0, g1, hl]) ?_;rintro s _ ⟨hl, g1, g10, g11, rfl⟩;obtain ⟨r6, e7, hj2⟩ := bn hj2;refine wpo_callK hp0 (by simp only [wanted, g10, beq_self_eq_true]) (ys := [v_0]) (by simp only [evs, List.map_cons, List.map_nil, ev_t, ev_c, g11]) (R_partition_Valid hst h_0 e7) ?_;rintro rv8 H ⟨W, w9, hst, rfl⟩;replace h_0 := Rp.mono w9 h_0;replace h_1 := Rp.mono w9 h_1;rcases Bool.eq_false_or_eq_true (r6) with c10 | c10
   ·replace hj2 := ifT c10 hj2;refine wpo_seg hp0 3 (fun s H' => s.length = 18 ∧ gt s 14 = .bool true ∧ gt s 15 = v_1 ∧ H = H') (by simp only [↓runs, isCall, ↓reduceIte, ↓gd_true, ↓gd_false, evs, AV.cells, Nat.reduceEqDiff, Nat.reduceLT, reduceCtorEq, Nat.reduceAdd, sy, gt_other, c10, g1, g10, g11, hl]) ?_;rintro s _ ⟨hl, g14, g15, rfl⟩;obtain ⟨r11, e12, hj2⟩ := bn hj2;refine wpo_callK hp0 (by simp only [wanted, g14, beq_self_eq_true]) (ys := [v_1]) (by simp only [evs, List.map_cons, List.map_nil, ev_t, ev_c, g15]) (R_partition_Valid hst h_1 e12) ?_;rintro rv13 H ⟨W, w14, hst, rfl⟩;replace h_0 := Rp.mono w14 h_0;replace h_1 := Rp.mono w14 h_1;refine wpo_seg hp0 2 (fun s H' => s.length = 18 ∧ gt s 4 = .bool r11 ∧ H = H') (by simp only [↓runs, isCall, ↓reduceIte, ↓gd_true, ↓gd_false, evs, AV.cells, Nat.reduceEqDiff, Nat.reduceLT, reduceCtorEq, Nat.reduceAdd, sy, gt_other, g14, g15, hl]) ?_;rintro s _ ⟨hl, g4, rfl⟩;refine wpo_nil ?_;obtain rfl := Option.some.inj hj2;exact ⟨W, hl, g4, (w9.trans w14), hst⟩
   ·replace hj2 := ifF c10 hj2;refine wpo_seg hp0 6 (fun s H' => s.length = 18 ∧ gt s 4 = .bool false ∧ H = H') (by simp only [↓runs, isCall, ↓reduceIte, ↓gd_true, ↓gd_false, evs, AV.cells, Nat.reduceEqDiff, Nat.reduceLT, reduceCtorEq, Nat.reduceAdd, sy, gt_other, c10, g1, g10, g11, hl]) ?_;rintro s _ ⟨hl, g4, rfl⟩;refine wpo_nil ?_;obtain rfl := Option.some.inj hj2;exact ⟨W, hl, g4, w9, hst⟩
  ·replace hj2 := ifF c5 hj2;refine wpo_seg hp0 14 (fun s H' => s.length = 18 ∧ gt s 4 = .bool false ∧ H = H') (by simp (maxSteps := 1000000) only [↓runs, isCall, ↓reduceIte, ↓gd_true, ↓gd_false, evs, AV.cells, Nat.reduceEqDiff, Nat.reduceLT, reduceCtorEq, Nat.reduceAdd, sy, f3, f4, c5, g0, g1, hl]) ?_;rintro s _ ⟨hl, g4, rfl⟩;refine wpo_nil ?_;obtain rfl := Option.some.inj hj2;exact ⟨W, hl, g4, .refl _, hst⟩
 ·rintro s H ⟨W, hl, g4, w15, hst⟩;refine then_n ?_;refine AM.wp_ret ?_;obtain rfl := Option.some.inj hp;refine body_ret (vs := [.bool z1]) (by simp only [rvs, f_partition_both, Option.map_some, g4]) ?_;exact ⟨W, w15, hst, rfl⟩

end Go.Proofs.Ytmdpejgnkoneoaa.Pu
set_option maxRecDepth 100000
set_option maxHeartbeats 4000000
namespace Go.Proofs.Ytmdpejgnkoneoaa.Pu
open Go Go.AM Go.Proofs.Ytmdpejgnkoneoaa.Code

noncomputable def P_partition_Meet_l17 (p_ : List Int) (q : List Int) (k19 : Nat) (x18 : List Int) : Option ((List Int)) :=
 Option.bind (gi p_ (k19 : Int)) fun x29 =>
 Option.bind (gi q (k19 : Int)) fun x36 =>
 Option.bind (si x18 (k19 : Int) (w64 ((w64 (x29 * 4096)) + x36))) fun x43 =>
 some x43
noncomputable def P_partition_Meet (p_ : List Int) (q : List Int) : Option ((List Int)) :=
 Option.bind (P_partition_both p_ q) fun r1 =>
 if !r1 then
  some []
 else
  Option.bind (mkz (α := Int) 8 (p_.length : Int) (p_.length : Int) 0) fun x8 =>
  Option.bind (forS p_.length (fun k x => P_partition_Meet_l17 p_ q k x) x8) fun z23 =>
  Option.bind (P_partition_Canonical z23) fun r56 =>
  some r56
theorem R_partition_Meet {G : List Frag} {W H : AH} {v_0 v_1 : AV} {p_ : List Int} {q : List Int} (hst : St G W H) (h_0 : Rp.rv W v_0 p_) (h_1 : Rp.rv W v_1 q) {r : (List Int)} (hp : P_partition_Meet p_ q = some r) :
  wpc E0 N_partition_Meet [v_0, v_1] H fun rv H' => ∃ W', Wle W W' ∧ ∃ (g0 : Frag), St (g0 :: G) W' H' ∧ OwS W' rv g0 (r : List Int) := by
 refine enterN (F := f_partition_Meet) rfl (Nat.le_of_ble_eq_true rfl) fun s hl hg => ?_;replace hl : s.length = 35 := hl;have g0 : gt s 0 = v_0 := hg 0 (Nat.le_of_ble_eq_true rfl);have g1 : gt s 1 = v_1 := hg 1 (Nat.le_of_ble_eq_true rfl);clear hg;unfold P_partition_Meet at hp;show wp E0 c_partition_Meet s H _;unfold c_partition_Meet;refine AM.wp_seq hp0 (AM.wp_reg hp0 ?_);refine wpo_seg hp0 1 (fun s H' => s.length = 35 ∧ gt s 0 = v_0 ∧ gt s 1 = v_1 ∧ H = H') (by simp only [↓runs, isCall, ↓reduceIte, ↓gd_true, ↓gd_false, evs, AV.cells, Nat.reduceEqDiff, Nat.reduceLT, reduceCtorEq, Nat.reduceAdd, sy, g0, g1, hl]) ?_;rintro s _ ⟨hl, g0, g1, rfl⟩;refine wpo_nil (then_n ?_);refine AM.wp_seq hp0 (AM.wp_seq hp0 (AM.wp_reg hp0 ?_));refine wpo_seg hp0 2 (fun s H' => s.length = 35 ∧ gt s 0 = v_0 ∧ gt s 1 = v_1 ∧ gt s 7 = v_0 ∧ gt s 8 = v_1 ∧ H = H') (by simp only [↓runs, isCall, ↓reduceIte, ↓gd_true, ↓gd_false, evs, AV.cells, Nat.reduceEqDiff, Nat.reduceLT, reduceCtorEq, Nat.reduceAdd, sy, g0, g1, hl]) ?_;rintro s _ ⟨hl, g0, g1, g7, g8, rfl⟩;obtain ⟨r1, e2, hp⟩ := bn hp;refine wpo_callK hp0 rfl (ys := [v_0, v_1]) (by simp only [evs, List.map_cons, List.map_nil, ev_t, ev_c, g7, g8]) (R_partition_both hst h_0 h_1 e2) ?_;rintro rv3 H ⟨W, w4, hst, rfl⟩;replace h_0 := Rp.mono w4 h_0;replace h_1 := Rp.mono w4 h_1;refine wpo_seg hp0 1 (fun s H' => s.length = 35 ∧ gt s 0 = v_0 ∧ gt s 1 = v_1 ∧ gt s 10 = .bool (!r1) ∧ H = H') (by simp only [↓runs, isCall, ↓reduceIte, ↓gd_true, ↓gd_false, evs, AV.cells, Nat.reduceEqDiff, Nat.reduceLT, reduceCtorEq, Nat.reduceAdd, sy, gt_other, g0, g1, g7, g8, hl]) ?_;rintro s _ ⟨hl, g0, g1, g10, rfl⟩;refine wpo_nil (then_n ?_);rcases Bool.eq_false_or_eq_true (!r1) with c5 | c5
 ·replace hp := ifT c5 hp;refine AM.wp_condT (by simp only [ev_t, ev_c, g10, c5]) ?_;refine AM.wp_seq hp0 (AM.wp_reg hp0 ?_);refine wpo_seg hp0 1 (fun s H' => s.length = 35 ∧ gt s 4 = .nils ∧ H = H') (by simp only [↓runs, isCall, ↓reduceIte, ↓gd_true, ↓gd_false, evs, AV.cells, Nat.reduceEqDiff, Nat.reduceLT, reduceCtorEq, Nat.reduceAdd, sy, g0, g1, g10, hl]) ?_;rintro s _ ⟨hl, g4, rfl⟩;refine wpo_nil (then_n ?_);refine AM.wp_ret ?_;refine then_r ?_;replace hst := hst.nil;have o6 := ow_nil (α := Int) W;obtain rfl := Option.some.inj hp;refine body_ret (vs := [.nils]) (by simp only [rvs, f_partition_Meet, Option.map_some, g4]) ?_;exact ⟨W, w4, _, hst, o6⟩
 ·replace hp := ifF c5 hp;refine AM.wp_condF (by simp only [ev_t, ev_c, g10, c5]) ?_;refine AM.wp_skip ?_;refine then_n ?_;refine AM.wp_seq hp0 (AM.wp_reg hp0 ?_);have f7 := fz_ln h_0;obtain ⟨x8, e9, hp⟩ := bn hp;obtain ⟨v10, H11, fg12, W, f14, w13, hst, o15⟩ := ow_mk (kn := .i64) (kc := .i64) hst (show Rp.rv _ (.int .i64 0) (0 : Int) from rfl) [.int .i64 0] rfl e9;replace h_0 := Rp.mono w13 h_0;replace h_1 := Rp.mono w13 h_1;refine wpo_seg hp0 4 (fun s H' => s.length = 35 ∧ gt s 0 = v_0 ∧ gt s 1 = v_1 ∧ gt s 5 = v10 ∧ H11 = H') (by simp only [↓runs, isCall, ↓reduceIte, ↓gd_true, ↓gd_false, evs, AV.cells, Nat.reduceEqDiff, Nat.reduceLT, reduceCtorEq, Nat.reduceAdd, sy, f7, f14, g0, g1, g10, hl]) ?_;rintro s _ ⟨hl, g0, g1, g5, rfl⟩;refine wpo_nil (then_n ?_);refine AM.wp_seq hp0 (AM.wp_seq hp0 (AM.wp_reg hp0 ?_));have f16 := fz_ln h_0;refine wpo_seg hp0 3 (fun s H' => s.length = 35 ∧ gt s 0 = v_0 ∧ gt s 1 = v_1 ∧ gt s 5 = v10 ∧ gt s 15 = .int .i64 (p_.length : Int) ∧ gt s 16 = .int .i64 0 ∧ H11 = H') (by simp only [↓runs, isCall, ↓reduceIte, ↓gd_true, ↓gd_false, evs, AV.cells, Nat.reduceEqDiff, Nat.reduceLT, reduceCtorEq, Nat.reduceAdd, sy, f16, g0, g1, g5, hl]) ?_;rintro s _ ⟨hl, g0, g1, g5, g15, g16, rfl⟩;refine wpo_nil (then_n ?_);obtain ⟨z23, e24, hp⟩ := bn hp;refine rangeS_ref hp0 35 p_.length (fun k x => P_partition_Meet_l17 p_ q k x) (fun _ x s H' => ∃ (W' : AH) (qo2 : Frag), s.length = 35 ∧ gt s 0 = v_0 ∧ gt s 1 = v_1 ∧ gt s 5 = v10 ∧  Wle W W' ∧ St (qo2 :: G) W' H' ∧ OwS W' v10 qo2 (x : List Int)) e24 (fz_big h_0) rfl ?_ ?_ hl g16 g15 ?_ ?_
  ·intro k x s H d v hd h; rcases hd with rfl | rfl | rfl <;> simpa only [gt_other, pt_length, Nat.reduceEqDiff, not_false_eq_true] using h
  ·exact ⟨W, _, hl, g0, g1, g5, .refl _, hst, o15⟩
  ·intro k19 x18 y20 s H hk hI hl g16 g15 hy21;change P_partition_Meet_l17 p_ q k19 x18 = some y20 at hy21;unfold P_partition_Meet_l17 at hy21;obtain ⟨W, fg27, hl, g0, g1, g5, w26, hst, o28⟩ := hI;replace h_0 := Rp.mono w26 h_0;replace h_1 := Rp.mono w26 h_1;refine AM.wp_seq hp0 (AM.wp_reg hp0 ?_);refine wpo_seg hp0 2 (fun s H' => s.length = 35 ∧ gt s 0 = v_0 ∧ gt s 1 = v_1 ∧ gt s 5 = v10 ∧ gt s 6 = .int .i64 (k19 : Int) ∧ gt s 15 = .int .i64 (p_.length : Int) ∧ gt s 16 = .int .i64 (k19 : Int) ∧ H = H') (by simp only [↓runs, isCall, ↓reduceIte, ↓gd_true, ↓gd_false, evs, AV.cells, Nat.reduceEqDiff, Nat.reduceLT, reduceCtorEq, Nat.reduceAdd, sy, g0, g1, g5, g15, g16, hl]) ?_;rintro s _ ⟨hl, g0, g1, g5, g6, g15, g16, rfl⟩;refine wpo_nil (then_n ?_);refine AM.wp_reg hp0 ?_;obtain ⟨x29, e30, hy21⟩ := bn hy21;obtain ⟨p31, _, f33, f34, rfl⟩ := fz_at (k := .i64) hst h_0 e30 rfl;obtain ⟨x36, e37, hy21⟩ := bn hy21;obtain ⟨p38, _, f40, f41, rfl⟩ := fz_at (k := .i64) hst h_1 e37 rfl;obtain ⟨x43, e44, hy21⟩ := bn hy21;obtain ⟨p45, H46, fg47, f48, f49, hst, o50⟩ := ow_set (k := .i64) 1 rfl hst o28 (show Rp.rv W (.int .i64 (w64 ((w64 (x29 * 4096)) + x36))) (w64 ((w64 (x29 * 4096)) + x36) : Int) from rfl) e44;refine wpo_seg hp0 14 (fun s H' => s.length = 35 ∧ gt s 0 = v_0 ∧ gt s 1 = v_1 ∧ gt s 5 = v10 ∧ gt s 15 = .int .i64 (p_.length : Int) ∧ gt s 16 = .int .i64 (k19 : Int) ∧ H46 = H') (by simp (maxSteps := 1000000) only [↓runs, isCall, ↓reduceIte, ↓gd_true, ↓gd_false, evs, AV.cells, Nat.reduceEqDiff, Nat.reduceLT, reduceCtorEq, Nat.reduceAdd, sy, f33, f34, f40, f41, f48, f49, g0, g1, g5, g6, g15, g16, hl]) ?_;rintro s _ ⟨hl, g0, g1, g5, g15, g16, rfl⟩;refine wpo_nil ?_;refine rnd_n ?_;obtain rfl := Option.some.inj hy21;exact ⟨hl, g16, g15, ⟨W, _, hl, g0, g1, g5, w26, hst, o50⟩⟩
  ·rintro s H hI _;obtain ⟨W, fg52, hl, g0, g1, g5, w51, hst, o53⟩ := hI;replace h_0 := Rp.mono w51 h_0;replace h_1 := Rp.mono w51 h_1;refine then_n ?_;refine AM.wp_seq hp0 (AM.wp_reg hp0 ?_);refine wpo_seg hp0 1 (fun s H' => s.length = 35 ∧ gt s 33 = v10 ∧ H = H') (by simp only [↓runs, isCall, ↓reduceIte, ↓gd_true, ↓gd_false, evs, AV.cells, Nat.reduceEqDiff, Nat.reduceLT, reduceCtorEq, Nat.reduceAdd, sy, g0, g1, g5, hl]) ?_;rintro s _ ⟨hl, g33, rfl⟩;obtain ⟨W, w55, hst, h54⟩ := ow_frz hst o53;obtain ⟨r56, e57, hp⟩ := bn hp;refine wpo_callK hp0 rfl (ys := [v10]) (by simp only [evs, List.map_cons, List.map_nil, ev_t, ev_c, g33]) (R_partition_Canonical hst h54 e57) ?_;rintro rv58 H ⟨W, w59, fg60, hst, o61⟩;replace h54 := Rp.mono w59 h54;refine wpo_seg hp0 1 (fun s H' => s.length = 35 ∧ gt s 4 = rv58 ∧ H = H') (by simp only [↓runs, isCall, ↓reduceIte, ↓gd_true, ↓gd_false, evs, AV.cells, Nat.reduceEqDiff, Nat.reduceLT, reduceCtorEq, Nat.reduceAdd, sy, gt_other, g33, hl]) ?_;rintro s _ ⟨hl, g4, rfl⟩;refine wpo_nil (then_n ?_);refine AM.wp_ret ?_;obtain rfl := Option.some.inj hp;refine body_ret (vs := [rv58]) (by simp only [rvs, f_partition_Meet, Option.map_some, g4]) ?_;exact ⟨W, ((((w4.trans w13).trans w51).trans w55).trans w59), _, hst, o61⟩

end Go.Proofs.Ytmdpejgnkoneoaa.Pu
set_option maxRecDepth 100000
set_option maxHeartbeats 4000000
namespace Go.Proofs.Ytmdpejgnkoneoaa.Pu
open Go Go.AM Go.Proofs.Ytmdpejgnkoneoaa.Code

noncomputable def P_partition_Count_l7 (p_ : List Int) (k9 : Nat) (x8 : Int) : Option (Int) :=
 Option.bind (gi p_ (k9 : Int)) fun x18 =>
 some (if w64 (x18 + 1) > x8 then w64 (x18 + 1) else x8)
noncomputable def P_partition_Count (p_ : List Int) : Option (Int) :=
 Option.bind (P_partition_Valid p_) fun r1 =>
 if !r1 then
  some 0
 else
  Option.bind (forS p_.length (fun k x => P_partition_Count_l7 p_ k x) 0) fun z13 =>
  some z13
theorem R_partition_Count {G : List Frag} {W H : AH} {v_0 : AV} {p_ : List Int} (hst : St G W H) (h_0 : Rp.rv W v_0 p_) {r : Int} (hp : P_partition_Count p_ = some r) :
  wpc E0 N_partition_Count [v_0] H fun rv H' => ∃ W', Wle W W' ∧ St G W' H' ∧ rv = .int .i64 r := by
 refine enterN (F := f_partition_Count) rfl (Nat.le_of_ble_eq_true rfl) fun s hl hg => ?_;replace hl : s.length = 21 := hl;have g0 : gt s 0 = v_0 := hg 0 (Nat.le_of_ble_eq_true rfl);clear hg;unfold P_partition_Count at hp;show wp E0 c_partition_Count s H _;unfold c_partition_Count;refine AM.wp_seq hp0 (AM.wp_reg hp0 ?_);refine wpo_seg hp0 1 (fun s H' => s.length = 21 ∧ gt s 0 = v_0 ∧ H = H') (by simp only [↓runs, isCall, ↓reduceIte, ↓gd_true, ↓gd_false, evs, AV.cells, Nat.reduceEqDiff, Nat.reduceLT, reduceCtorEq, Nat.reduceAdd, sy, g0, hl]) ?_;rintro s _ ⟨hl, g0, rfl⟩;refine wpo_nil (then_n ?_);refine AM.wp_seq hp0 (AM.wp_seq hp0 (AM.wp_reg hp0 ?_));refine wpo_seg hp0 1 (fun s H' => s.length = 21 ∧ gt s 0 = v_0 ∧ gt s 6 = v_0 ∧ H = H') (by simp only [↓runs, isCall, ↓reduceIte, ↓gd_true, ↓gd_false, evs, AV.cells, Nat.reduceEqDiff, Nat.reduceLT, reduceCtorEq, Nat.reduceAdd, sy, g0, hl]) ?_;rintro s _ ⟨hl, g0, g6, rfl⟩;obtain ⟨r1, e2, hp⟩ := bn hp;refine wpo_callK hp0 rfl (ys := [v_0]) (by simp only [evs, List.map_cons, List.map_nil, ev_t, ev_c, g6]) (R_partition_Valid hst h_0 e2) ?_;rintro rv3 H ⟨W, w4, hst, rfl⟩;replace h_0 := Rp.mono w4 h_0;refine wpo_seg hp0 1 (fun s H' => s.length = 21 ∧ gt s 0 = v_0 ∧ gt s 8 = .bool (!r1) ∧ H = H') (by simp only [↓runs, isCall, ↓reduceIte, ↓gd_true, ↓gd_false, evs, AV.cells, Nat.reduceEqDiff, Nat.reduceLT, reduceCtorEq, Nat.reduceAdd, sy, gt_other, g0, g6, hl]) ?_;rintro s _ ⟨hl, g0, g8, rfl⟩;refine wpo_nil (then_n ?_);rcases Bool.eq_false_or_eq_true (!r1) with c5 | c5
 ·replace hp := ifT c5 hp;refine AM.wp_condT (by simp only [ev_t, ev_c, g8, c5]) ?_;refine AM.wp_seq hp0 (AM.wp_reg hp0 ?_);refine wpo_seg hp0 1 (fun s H' => s.length = 21 ∧ gt s 2 = .int .i64 0 ∧ H = H') (by simp only [↓runs, isCall, ↓reduceIte, ↓gd_true, ↓gd_false, evs, AV.cells, Nat.reduceEqDiff, Nat.reduceLT, reduceCtorEq, Nat.reduceAdd, sy, g0, g8, hl]) ?_;rintro s _ ⟨hl, g2, rfl⟩;refine wpo_nil (then_n ?_);refine AM.wp_ret ?_;refine then_r ?_;obtain rfl := Option.some.inj hp;refine body_ret (vs := [.int .i64 0]) (by simp only [rvs, f_partition_Count, Option.map_some, g2]) ?_;exact ⟨W, w4, hst, rfl⟩
 ·replace hp := ifF c5 hp;refine AM.wp_condF (by simp only [ev_t, ev_c, g8, c5]) ?_;refine AM.wp_skip ?_;refine then_n ?_;refine AM.wp_seq hp0 (AM.wp_reg hp0 ?_);refine wpo_seg hp0 1 (fun s H' => s.length = 21 ∧ gt s 0 = v_0 ∧ gt s 3 = .int .i64 0 ∧ H = H') (by simp only [↓runs, isCall, ↓reduceIte, ↓gd_true, ↓gd_false, evs, AV.cells, Nat.reduceEqDiff, Nat.reduceLT, reduceCtorEq, Nat.reduceAdd, sy, g0, g8, hl]) ?_;rintro s _ ⟨hl, g0, g3, rfl⟩;refine wpo_nil (then_n ?_);refine AM.wp_seq hp0 (AM.wp_seq hp0 (AM.wp_reg hp0 ?_));have f6 := fz_ln h_0;refine wpo_seg hp0 3 (fun s H' => s.length = 21 ∧ gt s 3 = .int .i64 0 ∧ gt s 9 = v_0 ∧ gt s 10 = .int .i64 (p_.length : Int) ∧ gt s 11 = .int .i64 0 ∧ H = H') (by simp only [↓runs, isCall, ↓reduceIte, ↓gd_true, ↓gd_false, evs, AV.cells, Nat.reduceEqDiff, Nat.reduceLT, reduceCtorEq, Nat.reduceAdd, sy, f6, g0, g3, hl]) ?_;rintro s _ ⟨hl, g3, g9, g10, g11, rfl⟩;refine wpo_nil (then_n ?_);obtain ⟨z13, e14, hp⟩ := bn hp;refine rangeS_ref hp0 21 p_.length (fun k x => P_partition_Count_l7 p_ k x) (fun _ x s H' => s.length = 21 ∧ gt s 3 = .int .i64 x ∧ gt s 9 = v_0 ∧ H = H') e14 (fz_big h_0) rfl ?_ ?_ hl g11 g10 ?_ ?_
  ·intro k x s H d v hd h; rcases hd with rfl | rfl | rfl <;> simpa only [gt_other, pt_length, Nat.reduceEqDiff, not_false_eq_true] using h
  ·exact ⟨hl, g3, g9, rfl⟩
  ·intro k9 x8 y10 s H hk hI hl g11 g10 hy11;change P_partition_Count_l7 p_ k9 x8 = some y10 at hy11;unfold P_partition_Count_l7 at hy11;obtain ⟨hl, g3, g9, rfl⟩ := hI;refine AM.wp_seq hp0 (AM.wp_reg hp0 ?_);obtain ⟨x18, e19, hy11⟩ := bn hy11;obtain ⟨p20, _, f22, f23, rfl⟩ := fz_at (k := .i64) hst h_0 e19 rfl;refine wpo_seg hp0 3 (fun s H' => s.length = 21 ∧ gt s 3 = .int .i64 x8 ∧ gt s 5 = .int .i64 x18 ∧ gt s 9 = v_0 ∧ gt s 10 = .int .i64 (p_.length : Int) ∧ gt s 11 = .int .i64 (k9 : Int) ∧ H = H') (by simp only [↓runs, isCall, ↓reduceIte, ↓gd_true, ↓gd_false, evs, AV.cells, Nat.reduceEqDiff, Nat.reduceLT, reduceCtorEq, Nat.reduceAdd, sy, f22, f23, g3, g9, g10, g11, hl]) ?_;rintro s _ ⟨hl, g3, g5, g9, g10, g11, rfl⟩;refine wpo_nil (then_n ?_);refine AM.wp_reg hp0 ?_;refine wpo_seg hp0 5 (fun s H' => s.length = 21 ∧ gt s 3 = .int .i64 (if w64 (x18 + 1) > x8 then w64 (x18 + 1) else x8) ∧ gt s 9 = v_0 ∧ gt s 10 = .int .i64 (p_.length : Int) ∧ gt s 11 = .int .i64 (k9 : Int) ∧ H = H') (by simp only [↓runs, isCall, ↓reduceIte, ↓gd_true, ↓gd_false, evs, AV.cells, Nat.reduceEqDiff, Nat.reduceLT, reduceCtorEq, Nat.reduceAdd, sy, g3, g5, g9, g10, g11, hl]) ?_;rintro s _ ⟨hl, g3, g9, g10, g11, rfl⟩;refine wpo_nil ?_;refine rnd_n ?_;obtain rfl := Option.some.inj hy11;exact ⟨hl, g11, g10, ⟨hl, g3, g9, rfl⟩⟩
  ·rintro s H hI _;obtain ⟨hl, g3, g9, rfl⟩ := hI;refine then_n ?_;refine AM.wp_seq hp0 (AM.wp_reg hp0 ?_);refine wpo_seg hp0 2 (fun s H' => s.length = 21 ∧ gt s 2 = .int .i64 z13 ∧ H = H') (by simp only [↓runs, isCall, ↓reduceIte, ↓gd_true, ↓gd_false, evs, AV.cells, Nat.reduceEqDiff, Nat.reduceLT, reduceCtorEq, Nat.reduceAdd, sy, g3, g9, hl]) ?_;rintro s _ ⟨hl, g2, rfl⟩;refine wpo_nil (then_n ?_);refine AM.wp_ret ?_;obtain rfl := Option.some.inj hp;refine body_ret (vs := [.int .i64 z13]) (by simp only [rvs, f_partition_Count, Option.map_some, g2]) ?_;exact ⟨W, w4, hst, rfl⟩

end Go.Proofs.Ytmdpejgnkoneoaa.Pu
set_option maxRecDepth 100000
set_option maxHeartbeats 4000000
namespace Go.Proofs.Ytmdpejgnkoneoaa.Pu
open Go Go.AM Go.Proofs.Ytmdpejgnkoneoaa.Code

noncomputable def P_subdirect_discrete (p_ : List Int) : Option (Bool) :=
 Option.bind (P_partition_Count p_) fun r1 =>
 some (decide (r1 = (p_.length : Int)))
theorem R_subdirect_discrete {G : List Frag} {W H : AH} {v_0 : AV} {p_ : List Int} (hst : St G W H) (h_0 : Rp.rv W v_0 p_) {r : Bool} (hp : P_subdirect_discrete p_ = some r) :
  wpc E0 N_subdirect_discrete [v_0] H fun rv H' => ∃ W', Wle W W' ∧ St G W' H' ∧ rv = .bool r := by
 refine enterN (F := f_subdirect_discrete) rfl (Nat.le_of_ble_eq_true rfl) fun s hl hg => ?_;replace hl : s.length = 8 := hl;have g0 : gt s 0 = v_0 := hg 0 (Nat.le_of_ble_eq_true rfl);clear hg;unfold P_subdirect_discrete at hp;show wp E0 c_subdirect_discrete s H _;unfold c_subdirect_discrete;refine AM.wp_seq hp0 (AM.wp_reg hp0 ?_);refine wpo_seg hp0 1 (fun s H' => s.length = 8 ∧ gt s 0 = v_0 ∧ H = H') (by simp only [↓runs, isCall, ↓reduceIte, ↓gd_true, ↓gd_false, evs, AV.cells, Nat.reduceEqDiff, Nat.reduceLT, reduceCtorEq, Nat.reduceAdd, sy, g0, hl]) ?_;rintro s _ ⟨hl, g0, rfl⟩;refine wpo_nil (then_n ?_);refine AM.wp_seq hp0 (AM.wp_reg hp0 ?_);refine wpo_seg hp0 1 (fun s H' => s.length = 8 ∧ gt s 0 = v_0 ∧ gt s 3 = v_0 ∧ H = H') (by simp only [↓runs, isCall, ↓reduceIte, ↓gd_true, ↓gd_false, evs, AV.cells, Nat.reduceEqDiff, Nat.reduceLT, reduceCtorEq, Nat.reduceAdd, sy, g0, hl]) ?_;rintro s _ ⟨hl, g0, g3, rfl⟩;obtain ⟨r1, e2, hp⟩ := bn hp;refine wpo_callK hp0 rfl (ys := [v_0]) (by simp only [evs, List.map_cons, List.map_nil, ev_t, ev_c, g3]) (R_partition_Count hst h_0 e2) ?_;rintro rv3 H ⟨W, w4, hst, rfl⟩;replace h_0 := Rp.mono w4 h_0;have f5 := fz_ln h_0;refine wpo_seg hp0 4 (fun s H' => s.length = 8 ∧ gt s 2 = .bool (decide (r1 = (p_.length : Int))) ∧ H = H') (by simp only [↓runs, isCall, ↓reduceIte, ↓gd_true, ↓gd_false, evs, AV.cells, Nat.reduceEqDiff, Nat.reduceLT, reduceCtorEq, Nat.reduceAdd, sy, gt_other, f5, g0, g3, hl]) ?_;rintro s _ ⟨hl, g2, rfl⟩;refine wpo_nil (then_n ?_);refine AM.wp_ret ?_;obtain rfl := Option.some.inj hp;refine body_ret (vs := [.bool (decide (r1 = (p_.length : Int)))]) (by simp only [rvs, f_subdirect_discrete, Option.map_some, g2]) ?_;exact ⟨W, w4, hst, rfl⟩

end Go.Proofs.Ytmdpejgnkoneoaa.Pu
