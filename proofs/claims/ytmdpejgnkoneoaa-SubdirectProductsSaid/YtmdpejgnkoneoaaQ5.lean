/- Part 5 of the proof that the law SubdirectProducts holds: words and lemmas it rests on. No condition. -/
import Derived.Test.YtmdpejgnkoneoaaQ4
import Derived.Test.YtmdpejgnkoneoaaQ3
set_option linter.unusedSimpArgs false
set_option linter.unusedVariables false
set_option linter.unnecessarySimpa false
set_option linter.unusedSectionVars false
namespace Go.AM.Cg
open Go.AM Go.AM.Par

theorem filter_lt {α : Type} {p q : α → Bool} : ∀ {l : List α}, (∀ x ∈ l, p x = true → q x = true) → (∃ x ∈ l, q x = true ∧ p x = false) → (l.filter p).length < (l.filter q).length
  | [], _, h => by obtain ⟨x, h, _⟩ := h; cases h
  | a :: l, h1, h2 => by
    have hle : (l.filter p).length ≤ (l.filter q).length := by
      clear h2
      induction l with
      | nil => simp
      | cons b l ih =>
        have ih := ih fun x hx => h1 x (by simp only [List.mem_cons] at hx ⊢; rcases hx with h | h <;> simp [h])
        have hb := h1 b (by simp)
        simp only [List.filter_cons]
        cases hp : p b
        · cases hq : q b <;> simp <;> omega
        · rw [hb hp]; simp; omega
    obtain ⟨x, hx, hq, hp⟩ := h2
    simp only [List.filter_cons]
    rcases List.mem_cons.1 hx with rfl | hx
    · rw [hq, hp]; simp; omega
    · have ih := filter_lt (fun y hy => h1 y (by simp [hy])) ⟨x, hx, hq, hp⟩
      have ha := h1 a (by simp)
      cases hpa : p a
      · cases hqa : q a <;> simp <;> omega
      · rw [ha hpa]; simp; omega

def newB (L : List Int) (k : Nat) : Bool := (List.range k).all fun i => !(L.getD i 0 == L.getD k 0)
theorem newB_iff {L : List Int} {k : Nat} : newB L k = true ↔ isNew L k := by
  simp [newB, isNew]
def cls (n : Nat) (L : List Int) : Nat := ((List.range n).filter (newB L)).length
theorem cls_le (n : Nat) (L : List Int) : cls n L ≤ n := Nat.le_trans (List.length_filter_le _ _) (by simp)
def mrg (L : List Int) (a b : Int) : List Int := L.map fun z => if z = b then a else z
@[simp] theorem mrg_length {L : List Int} {a b : Int} : (mrg L a b).length = L.length := by simp [mrg]
theorem mrg_at {L : List Int} {a b : Int} {k : Nat} (h : k < L.length) : (mrg L a b).getD k 0 = if L.getD k 0 = b then a else L.getD k 0 := by
  simp [mrg, List.getD_eq_getElem?_getD, h]
theorem cls_mrg {n : Nat} {L : List Int} {i j : Nat} (hl : L.length = n) (hi : i < n) (hj : j < n) (hne : L.getD i 0 ≠ L.getD j 0) : cls n (mrg L (L.getD i 0) (L.getD j 0)) < cls n L := by
  have first : ∀ k, k < n → ∃ f, f ≤ k ∧ L.getD f 0 = L.getD k 0 ∧ isNew L f := by
    intro k
    induction k using Nat.strongRecOn with
    | ind k ih =>
      intro hk
      by_cases h : isNew L k
      · exact ⟨k, Nat.le_refl _, rfl, h⟩
      · have : ∃ q, q < k ∧ L.getD q 0 = L.getD k 0 := Classical.byContradiction fun hc => h fun q hq e => hc ⟨q, hq, e⟩
        obtain ⟨q, hq, e⟩ := this
        obtain ⟨f, h1, h2, h3⟩ := ih q hq (by omega)
        exact ⟨f, by omega, h2.trans e, h3⟩
  obtain ⟨a, ha1, ha2, ha3⟩ := first i hi
  obtain ⟨b, hb1, hb2, hb3⟩ := first j hj
  have key : ∀ x y, x < n → y < n → L.getD x 0 = L.getD y 0 → (mrg L (L.getD i 0) (L.getD j 0)).getD x 0 = (mrg L (L.getD i 0) (L.getD j 0)).getD y 0 := fun x y hx hy e => by
    rw [mrg_at (by omega), mrg_at (by omega), e]
  have hab : (mrg L (L.getD i 0) (L.getD j 0)).getD a 0 = (mrg L (L.getD i 0) (L.getD j 0)).getD b 0 := by
    rw [mrg_at (by omega), mrg_at (by omega), ha2, hb2, if_neg hne, if_pos rfl]
  have hne' : a ≠ b := by rintro rfl; exact hne (ha2.symm.trans hb2)
  refine filter_lt (fun x hx h => ?_) ?_
  · rw [newB_iff] at h ⊢
    intro q hq e
    exact h q hq (key q x (by have := List.mem_range.1 hx; omega) (List.mem_range.1 hx) e)
  · rcases Nat.lt_or_gt_of_ne hne' with h | h
    · refine ⟨b, List.mem_range.2 (by omega), newB_iff.2 hb3, ?_⟩
      cases hn : newB (mrg L (L.getD i 0) (L.getD j 0)) b
      · rfl
      · exact absurd hab ((newB_iff.1 hn) a h)
    · refine ⟨a, List.mem_range.2 (by omega), newB_iff.2 ha3, ?_⟩
      cases hn : newB (mrg L (L.getD i 0) (L.getD j 0)) a
      · rfl
      · exact absurd hab.symm ((newB_iff.1 hn) b h)

structure Cgr (n : Nat) (T : Nat → Nat → Nat) (sd : Int) (θ : Nat → Nat → Prop) : Prop where
  refl : ∀ x, θ x x
  symm : ∀ x y, θ x y → θ y x
  trans : ∀ x y z, θ x y → θ y z → θ x z
  left : sd ≠ 2 → ∀ s x y, s < n → x < n → y < n → θ x y → θ (T s x) (T s y)
  right : sd ≠ 1 → ∀ s x y, s < n → x < n → y < n → θ x y → θ (T x s) (T y s)

def Gen (n : Nat) (T : Nat → Nat → Nat) (sd : Int) (P0 : List (Nat × Nat)) (a b : Nat) : Prop := ∀ θ, Cgr n T sd θ → (∀ p ∈ P0, θ p.1 p.2) → θ a b
section
variable {n : Nat} {T : Nat → Nat → Nat} {sd : Int} {P0 : List (Nat × Nat)}
theorem Gen.cgr : Cgr n T sd (Gen n T sd P0) :=
  ⟨fun x θ hθ _ => hθ.refl x, fun x y h θ hθ h0 => hθ.symm _ _ (h θ hθ h0), fun x y z h k θ hθ h0 => hθ.trans _ _ _ (h θ hθ h0) (k θ hθ h0),
    fun hs s x y h1 hx hy h θ hθ h0 => hθ.left hs s x y h1 hx hy (h θ hθ h0), fun hs s x y h1 hx hy h θ hθ h0 => hθ.right hs s x y h1 hx hy (h θ hθ h0)⟩
theorem Gen.has {p : Nat × Nat} (h : p ∈ P0) : Gen n T sd P0 p.1 p.2 := fun θ _ h0 => h0 p h
def Ker (n : Nat) (L : List Int) (x y : Nat) : Prop := x = y ∨ (x < n ∧ y < n ∧ L.getD x 0 = L.getD y 0)
theorem Ker.refl (L : List Int) (x : Nat) : Ker n L x x := .inl rfl
theorem Ker.symm {L : List Int} {x y : Nat} (h : Ker n L x y) : Ker n L y x := by
  rcases h with rfl | ⟨a, b, c⟩
  · exact .inl rfl
  · exact .inr ⟨b, a, c.symm⟩
theorem Ker.trans {L : List Int} {x y z : Nat} (h : Ker n L x y) (h2 : Ker n L y z) : Ker n L x z := by
  rcases h with rfl | ⟨a, b, c⟩
  · exact h2
  · rcases h2 with rfl | ⟨a2, b2, c2⟩
    · exact .inr ⟨a, b, c⟩
    · exact .inr ⟨a, b2, c.trans c2⟩
theorem Ker.iff {L : List Int} {x y : Nat} (hx : x < n) (hy : y < n) : Ker n L x y ↔ L.getD x 0 = L.getD y 0 := by
  constructor
  · rintro (rfl | ⟨_, _, h⟩)
    · rfl
    · exact h
  · exact fun h => .inr ⟨hx, hy, h⟩

theorem ker_gen {L : List Int} (hT : ∀ x y, x < n → y < n → T x y < n) (hsound : ∀ θ, Cgr n T sd θ → (∀ p ∈ P0, θ p.1 p.2) → ∀ x y, x < n → y < n → L.getD x 0 = L.getD y 0 → θ x y)
    (hP : ∀ p ∈ P0, Ker n L p.1 p.2) (hcl : ∀ s x y, s < n → x < n → y < n → L.getD x 0 = L.getD y 0 → (sd ≠ 2 → L.getD (T s x) 0 = L.getD (T s y) 0) ∧ (sd ≠ 1 → L.getD (T x s) 0 = L.getD (T y s) 0)) {x y : Nat} (hx : x < n) (hy : y < n) :
    L.getD x 0 = L.getD y 0 ↔ Gen n T sd P0 x y := by
  constructor
  · exact fun h θ hθ h0 => hsound θ hθ h0 x y hx hy h
  · intro h
    have hc : Cgr n T sd (Ker n L) := by
      refine ⟨Ker.refl L, fun _ _ => Ker.symm, fun _ _ _ => Ker.trans, fun hs s x y h1 hx hy h => ?_, fun hs s x y h1 hx hy h => ?_⟩
      · rcases h with rfl | ⟨_, _, c⟩
        · exact .inl rfl
        · exact .inr ⟨hT _ _ h1 hx, hT _ _ h1 hy, (hcl s x y h1 hx hy c).1 hs⟩
      · rcases h with rfl | ⟨_, _, c⟩
        · exact .inl rfl
        · exact .inr ⟨hT _ _ hx h1, hT _ _ hy h1, (hcl s x y h1 hx hy c).2 hs⟩
    exact (Ker.iff hx hy).1 (h _ hc hP)
end

inductive Eqv (r : Nat → Nat → Prop) : Nat → Nat → Prop
  | base {a b : Nat} (h : r a b) : Eqv r a b
  | refl (a : Nat) : Eqv r a a
  | symm {a b : Nat} (h : Eqv r a b) : Eqv r b a
  | trans {a b c : Nat} (h : Eqv r a b) (k : Eqv r b c) : Eqv r a c
theorem Eqv.mono {r q : Nat → Nat → Prop} (h : ∀ a b, r a b → Eqv q a b) {a b : Nat} (e : Eqv r a b) : Eqv q a b := by
  induction e with
  | base h' => exact h _ _ h'
  | refl a => exact .refl a
  | symm _ ih => exact .symm ih
  | trans _ _ ih1 ih2 => exact .trans ih1 ih2

def RW (n : Nat) (R : List Int) (W : List (Nat × Nat)) (a b : Nat) : Prop := (a < n ∧ b < n ∧ R.getD a 0 = R.getD b 0) ∨ (a, b) ∈ W
structure JI (n : Nat) (T : Nat → Nat → Nat) (sd : Int) (P0 : List (Nat × Nat)) (R : List Int) (W : List (Nat × Nat)) : Prop where
  len : R.length = n
  lt : ∀ p ∈ W, p.1 < n ∧ p.2 < n
  comp : ∀ x y s, x < n → y < n → s < n → R.getD x 0 = R.getD y 0 → (sd ≠ 2 → Eqv (RW n R W) (T s x) (T s y)) ∧ (sd ≠ 1 → Eqv (RW n R W) (T x s) (T y s))
  init : ∀ p ∈ P0, Eqv (RW n R W) p.1 p.2
  sound : ∀ θ, Cgr n T sd θ → (∀ p ∈ P0, θ p.1 p.2) → (∀ x y, x < n → y < n → R.getD x 0 = R.getD y 0 → θ x y) ∧ ∀ p ∈ W, θ p.1 p.2
section
variable {n : Nat} {T : Nat → Nat → Nat} {sd : Int} {P0 : List (Nat × Nat)} {R : List Int} {W : List (Nat × Nat)}
theorem JI.start (hl : R.length = n) (hid : ∀ x y, x < n → y < n → R.getD x 0 = R.getD y 0 → x = y) (hlt : ∀ p ∈ P0, p.1 < n ∧ p.2 < n) : JI n T sd P0 R P0 :=
  ⟨hl, hlt, fun x y s hx hy _ h => by have := hid x y hx hy h; subst this; exact ⟨fun _ => .refl _, fun _ => .refl _⟩, fun p hp => .base (.inr hp), fun θ hθ h0 => ⟨fun x y hx hy h => by have := hid x y hx hy h; subst this; exact hθ.refl _, h0⟩⟩
theorem JI.drop {p : Nat × Nat} (h : JI n T sd P0 R (W ++ [p])) (hp : R.getD p.1 0 = R.getD p.2 0) : JI n T sd P0 R W := by
  have hl := h.lt p (by simp)
  have m : ∀ a b, RW n R (W ++ [p]) a b → Eqv (RW n R W) a b := by
    rintro a b (h1 | h1)
    · exact .base (.inl h1)
    · rcases List.mem_append.1 h1 with h1 | h1
      · exact .base (.inr h1)
      · simp at h1
        subst h1
        exact .base (.inl ⟨hl.1, hl.2, hp⟩)
  exact ⟨h.len, fun q hq => h.lt q (by simp [hq]), fun x y s hx hy hs e => ⟨fun h2 => ((h.comp x y s hx hy hs e).1 h2).mono m, fun h2 => ((h.comp x y s hx hy hs e).2 h2).mono m⟩, fun q hq => (h.init q hq).mono m,
    fun θ hθ h0 => ⟨(h.sound θ hθ h0).1, fun q hq => (h.sound θ hθ h0).2 q (by simp [hq])⟩⟩
theorem JI.union {p : Nat × Nat} {W' : List (Nat × Nat)} {R' : List Int} (h : JI n T sd P0 R (W ++ [p])) (hT : ∀ x y, x < n → y < n → T x y < n) (hR' : R'.length = n) (hR : ∀ z, z < n → R'.getD z 0 = if R.getD z 0 = R.getD p.1 0 then R.getD p.2 0 else R.getD z 0)
    (hW : ∀ q, q ∈ W' ↔ q ∈ W ∨ ∃ s, s < n ∧ ((sd ≠ 2 ∧ q = (T s p.1, T s p.2)) ∨ (sd ≠ 1 ∧ q = (T p.1 s, T p.2 s)))) : JI n T sd P0 R' W' := by
  have hl := h.lt p (by simp)
  have hR2 : ∀ x y, x < n → y < n → R.getD x 0 = R.getD y 0 → R'.getD x 0 = R'.getD y 0 := by
    intro x y hx hy e
    rw [hR x hx, hR y hy, e]
  have hpp : R'.getD p.1 0 = R'.getD p.2 0 := by
    rw [hR _ hl.1, hR _ hl.2, if_pos rfl]
    split <;> rfl
  have m : ∀ a b, RW n R (W ++ [p]) a b → Eqv (RW n R' W') a b := by
    rintro a b (h1 | h1)
    · exact .base (.inl ⟨h1.1, h1.2.1, hR2 a b h1.1 h1.2.1 h1.2.2⟩)
    · rcases List.mem_append.1 h1 with h1 | h1
      · exact .base (.inr ((hW _).2 (.inl h1)))
      · simp at h1
        subst h1
        exact .base (.inl ⟨hl.1, hl.2, hpp⟩)
  have pl : sd ≠ 2 → ∀ s, s < n → Eqv (RW n R' W') (T s p.1) (T s p.2) := fun h2 s hs => .base (.inr ((hW _).2 (.inr ⟨s, hs, .inl ⟨h2, rfl⟩⟩)))
  have pr : sd ≠ 1 → ∀ s, s < n → Eqv (RW n R' W') (T p.1 s) (T p.2 s) := fun h2 s hs => .base (.inr ((hW _).2 (.inr ⟨s, hs, .inr ⟨h2, rfl⟩⟩)))
  -- each is with its old class or, through p, with the other
  have key : ∀ x y, x < n → y < n → R'.getD x 0 = R'.getD y 0 → R.getD x 0 = R.getD y 0 ∨ (R.getD x 0 = R.getD p.1 0 ∧ R.getD y 0 = R.getD p.2 0) ∨ (R.getD x 0 = R.getD p.2 0 ∧ R.getD y 0 = R.getD p.1 0) := by
    intro x y hx hy e
    rw [hR x hx, hR y hy] at e
    split at e <;> split at e
    · rename_i a b; exact .inl (by rw [a, b])
    · rename_i a b; exact .inr (.inl ⟨a, e.symm⟩)
    · rename_i a b; exact .inr (.inr ⟨e, b⟩)
    · exact .inl e
  refine ⟨hR', ?_, ?_, fun q hq => (h.init q hq).mono m, ?_⟩
  · intro q hq
    rcases (hW q).1 hq with h1 | ⟨s, hs, ⟨-, rfl⟩ | ⟨-, rfl⟩⟩
    · exact h.lt q (by simp [h1])
    · exact ⟨hT _ _ hs hl.1, hT _ _ hs hl.2⟩
    · exact ⟨hT _ _ hl.1 hs, hT _ _ hl.2 hs⟩
  · intro x y s hx hy hs e
    have c : ∀ a b, a < n → b < n → R.getD a 0 = R.getD b 0 → (sd ≠ 2 → Eqv (RW n R' W') (T s a) (T s b)) ∧ (sd ≠ 1 → Eqv (RW n R' W') (T a s) (T b s)) := fun a b ha hb e => ⟨fun h2 => ((h.comp a b s ha hb hs e).1 h2).mono m, fun h2 => ((h.comp a b s ha hb hs e).2 h2).mono m⟩
    rcases key x y hx hy e with h1 | ⟨h1, h2⟩ | ⟨h1, h2⟩
    · exact c x y hx hy h1
    · have c1 := c x p.1 hx hl.1 h1
      have c2 := c y p.2 hy hl.2 h2
      exact ⟨fun q => ((c1.1 q).trans (pl q s hs)).trans (c2.1 q).symm, fun q => ((c1.2 q).trans (pr q s hs)).trans (c2.2 q).symm⟩
    · have c1 := c x p.2 hx hl.2 h1
      have c2 := c y p.1 hy hl.1 h2
      exact ⟨fun q => ((c1.1 q).trans (pl q s hs).symm).trans (c2.1 q).symm, fun q => ((c1.2 q).trans (pr q s hs).symm).trans (c2.2 q).symm⟩
  · intro θ hθ h0
    obtain ⟨s1, s2⟩ := h.sound θ hθ h0
    have hp := s2 p (by simp)
    refine ⟨fun x y hx hy e => ?_, fun q hq => ?_⟩
    · rcases key x y hx hy e with h1 | ⟨h1, h2⟩ | ⟨h1, h2⟩
      · exact s1 x y hx hy h1
      · exact hθ.trans _ _ _ (s1 x p.1 hx hl.1 h1) (hθ.trans _ _ _ hp (hθ.symm _ _ (s1 y p.2 hy hl.2 h2)))
      · exact hθ.trans _ _ _ (s1 x p.2 hx hl.2 h1) (hθ.trans _ _ _ (hθ.symm _ _ hp) (hθ.symm _ _ (s1 y p.1 hy hl.1 h2)))
    · rcases (hW q).1 hq with h1 | ⟨s, hs, ⟨h2, rfl⟩ | ⟨h2, rfl⟩⟩
      · exact s2 q (by simp [h1])
      · exact hθ.left h2 _ _ _ hs hl.1 hl.2 hp
      · exact hθ.right h2 _ _ _ hs hl.1 hl.2 hp
theorem JI.done (h : JI n T sd P0 R []) (hT : ∀ x y, x < n → y < n → T x y < n) {x y : Nat} (hx : x < n) (hy : y < n) : R.getD x 0 = R.getD y 0 ↔ Gen n T sd P0 x y := by
  have eq : ∀ a b, Eqv (RW n R []) a b → Ker n R a b := by
    intro a b e
    induction e with
    | base h' =>
      rcases h' with h' | h'
      · exact .inr h'
      · simp at h'
    | refl a => exact .refl _ _
    | symm _ ih => exact ih.symm
    | trans _ _ i1 i2 => exact i1.trans i2
  refine ker_gen hT (fun θ hθ h0 x y hx hy e => (h.sound θ hθ h0).1 x y hx hy e) (fun p hp => eq _ _ (h.init p hp)) (fun s x y hs hx hy e => ⟨fun h2 => ?_, fun h2 => ?_⟩) hx hy
  · exact (Ker.iff (hT _ _ hs hx) (hT _ _ hs hy)).1 (eq _ _ ((h.comp x y s hx hy hs e).1 h2))
  · exact (Ker.iff (hT _ _ hx hs) (hT _ _ hy hs)).1 (eq _ _ ((h.comp x y s hx hy hs e).2 h2))
end
end Go.AM.Cg
namespace Go.Proofs.Ytmdpejgnkoneoaa.Pu
open Go Go.AM Go.Proofs.Ytmdpejgnkoneoaa.Code
abbrev E0 : Env := envT tab
theorem hp0 : PrimOk E0 := envT_prim tab
theorem sy : type_of% (And.intro @List.take_succ_cons.{0} (And.intro @List.take_zero.{0} (And.intro @List.take_nil.{0} (And.intro @aop_mv (And.intro @aop_load1 (And.intro @aop_loadA (And.intro @aop_iAddr (And.intro @aop_iAddrA (And.intro @aop_lenS (And.intro @aop_lenM (And.intro @aop_bin (And.intro @aop_un (And.intro @aop_ext (And.intro @aop_pick (And.intro @aop_mkM (And.intro @aop_box (And.intro @aop_al (And.intro @aop_store (And.intro @aop_mkS (And.intro @aop_look (And.intro @aop_mset (And.intro @aop_app (And.intro @aop_lit (And.intro @aop_build (And.intro @aop_slS (And.intro @aop_eqv (And.intro @aop_max (And.intro @aop_min (And.intro @ev_t (And.intro @ev_c (And.intro @List.map_cons.{0, 0} (And.intro @List.map_nil.{0, 0} (And.intro @Option.map_some.{0, 0} (And.intro @Option.map_none.{0, 0} (And.intro @gt_same (And.intro @gt_other (And.intro @pt_length (And.intro @pt_none (And.intro @abin_lss (And.intro @abin_leq (And.intro @abin_gtr (And.intro @abin_geq (And.intro @abin_eql (And.intro @abin_neq (And.intro @abin_add (And.intro @abin_sub (And.intro @abin_mul (And.intro @aun_not (And.intro @aeq_bool (And.intro @mm2 (And.intro @mn2 (And.intro @List.getElem?_cons_zero.{0} (And.intro @List.getElem?_cons_succ.{0} (And.intro @not_false_eq_true (And.intro @and_true (And.intro @true_and (And.intro @Bool.false_eq_true (And.intro @Bool.true_eq_false (And.intro @Bool.not_true (And.intro @Bool.not_false (And.intro @List.length_cons.{0} (And.intro @List.length_nil.{0} @Nat.zero_add)))))))))))))))))))))))))))))))))))))))))))))))))))))))))))))) := And.intro @List.take_succ_cons.{0} (And.intro @List.take_zero.{0} (And.intro @List.take_nil.{0} (And.intro @aop_mv (And.intro @aop_load1 (And.intro @aop_loadA (And.intro @aop_iAddr (And.intro @aop_iAddrA (And.intro @aop_lenS (And.intro @aop_lenM (And.intro @aop_bin (And.intro @aop_un (And.intro @aop_ext (And.intro @aop_pick (And.intro @aop_mkM (And.intro @aop_box (And.intro @aop_al (And.intro @aop_store (And.intro @aop_mkS (And.intro @aop_look (And.intro @aop_mset (And.intro @aop_app (And.intro @aop_lit (And.intro @aop_build (And.intro @aop_slS (And.intro @aop_eqv (And.intro @aop_max (And.intro @aop_min (And.intro @ev_t (And.intro @ev_c (And.intro @List.map_cons.{0, 0} (And.intro @List.map_nil.{0, 0} (And.intro @Option.map_some.{0, 0} (And.intro @Option.map_none.{0, 0} (And.intro @gt_same (And.intro @gt_other (And.intro @pt_length (And.intro @pt_none (And.intro @abin_lss (And.intro @abin_leq (And.intro @abin_gtr (And.intro @abin_geq (And.intro @abin_eql (And.intro @abin_neq (And.intro @abin_add (And.intro @abin_sub (And.intro @abin_mul (And.intro @aun_not (And.intro @aeq_bool (And.intro @mm2 (And.intro @mn2 (And.intro @List.getElem?_cons_zero.{0} (And.intro @List.getElem?_cons_succ.{0} (And.intro @not_false_eq_true (And.intro @and_true (And.intro @true_and (And.intro @Bool.false_eq_true (And.intro @Bool.true_eq_false (And.intro @Bool.not_true (And.intro @Bool.not_false (And.intro @List.length_cons.{0} (And.intro @List.length_nil.{0} @Nat.zero_add)))))))))))))))))))))))))))))))))))))))))))))))))))))))))))))
end Go.Proofs.Ytmdpejgnkoneoaa.Pu
set_option maxRecDepth 100000
set_option maxHeartbeats 4000000
namespace Go.Proofs.Ytmdpejgnkoneoaa.Pu
open Go Go.AM Go.Proofs.Ytmdpejgnkoneoaa.Code

noncomputable def P_partition_Canonical_l21 (l_ : List Int) (k23 : Nat) (x29 : List Int) (x30 : List (Int × Int)) : Option ((List Int) × (List (Int × Int))) :=
 Option.bind (gi l_ (k23 : Int)) fun x36 =>
 if !((mget x30 x36).isSome) then
  Option.bind (si x29 (k23 : Int) (x30.length : Int)) fun x53 =>
  some (x53, mput x30 x36 (x30.length : Int))
 else
  Option.bind (si x29 (k23 : Int) ((mget x30 x36).getD 0)) fun x61 =>
  some (x61, x30)
noncomputable def P_partition_Canonical (l_ : List Int) : Option ((List Int)) :=
 if decide (4096 < (l_.length : Int)) then
  some []
 else
  Option.bind (mkz (α := Int) 8 (l_.length : Int) (l_.length : Int) 0) fun x12 =>
  Option.bind (forS l_.length (fun k x => P_partition_Canonical_l21 l_ k x.1 x.2) (x12, [])) fun z27 =>
  some z27.1
theorem R_partition_Canonical {G : List Frag} {W H : AH} {v_0 : AV} {l_ : List Int} (hst : St G W H) (h_0 : Rp.rv W v_0 l_) {r : (List Int)} (hp : P_partition_Canonical l_ = some r) :
  wpc E0 N_partition_Canonical [v_0] H fun rv H' => ∃ W', Wle W W' ∧ ∃ (g0 : Frag), St (g0 :: G) W' H' ∧ OwS W' rv g0 (r : List Int) := by
 refine enterN (F := f_partition_Canonical) rfl (Nat.le_of_ble_eq_true rfl) fun s hl hg => ?_
 replace hl : s.length = 42 := hl
 have g0 : gt s 0 = v_0 := hg 0 (Nat.le_of_ble_eq_true rfl)
 clear hg
 unfold P_partition_Canonical at hp
 show wp E0 c_partition_Canonical s H _
 unfold c_partition_Canonical
 refine AM.wp_seq hp0 (AM.wp_reg hp0 ?_)
 refine wpo_seg hp0 1 (fun s H' => s.length = 42 ∧ gt s 0 = v_0 ∧ H = H') (by simp only [↓runs, isCall, ↓reduceIte, ↓gd_true, ↓gd_false, evs, AV.cells, Nat.reduceEqDiff, Nat.reduceLT, reduceCtorEq, Nat.reduceAdd, sy, g0, hl]) ?_
 rintro s _ ⟨hl, g0, rfl⟩
 refine wpo_nil (then_n ?_)
 refine AM.wp_seq hp0 (AM.wp_seq hp0 (AM.wp_reg hp0 ?_))
 have f1 := fz_ln h_0
 refine wpo_seg hp0 3 (fun s H' => s.length = 42 ∧ gt s 0 = v_0 ∧ gt s 11 = .bool (decide (4096 < (l_.length : Int))) ∧ H = H') (by simp only [↓runs, isCall, ↓reduceIte, ↓gd_true, ↓gd_false, evs, AV.cells, Nat.reduceEqDiff, Nat.reduceLT, reduceCtorEq, Nat.reduceAdd, sy, f1, g0, hl]) ?_
 rintro s _ ⟨hl, g0, g11, rfl⟩
 refine wpo_nil (then_n ?_)
 rcases Bool.eq_false_or_eq_true (decide (4096 < (l_.length : Int))) with c2 | c2
 ·replace hp := ifT c2 hp
  refine AM.wp_condT (by simp only [ev_t, ev_c, g11, c2]) ?_
  refine AM.wp_seq hp0 (AM.wp_reg hp0 ?_)
  refine wpo_seg hp0 1 (fun s H' => s.length = 42 ∧ gt s 2 = .nils ∧ H = H') (by simp only [↓runs, isCall, ↓reduceIte, ↓gd_true, ↓gd_false, evs, AV.cells, Nat.reduceEqDiff, Nat.reduceLT, reduceCtorEq, Nat.reduceAdd, sy, g0, g11, hl]) ?_
  rintro s _ ⟨hl, g2, rfl⟩
  refine wpo_nil (then_n ?_)
  refine AM.wp_ret ?_
  refine then_r ?_
  replace hst := hst.nil
  have o3 := ow_nil (α := Int) W
  obtain rfl := Option.some.inj hp
  refine body_ret (vs := [.nils]) (by simp only [rvs, f_partition_Canonical, Option.map_some, g2]) ?_
  exact ⟨W, .refl _, _, hst, o3⟩
 ·replace hp := ifF c2 hp
  refine AM.wp_condF (by simp only [ev_t, ev_c, g11, c2]) ?_
  refine AM.wp_skip ?_
  refine then_n ?_
  refine AM.wp_seq hp0 (AM.wp_reg hp0 ?_)
  obtain ⟨v4, H5, fg6, W, f8, f9, w7, hst, o10⟩ := om_new' Int Int hst
  replace h_0 := Rp.mono w7 h_0
  refine wpo_seg hp0 2 (fun s H' => s.length = 42 ∧ gt s 0 = v_0 ∧ gt s 3 = v4 ∧ H5 = H') (by simp only [↓runs, isCall, ↓reduceIte, ↓gd_true, ↓gd_false, evs, AV.cells, Nat.reduceEqDiff, Nat.reduceLT, reduceCtorEq, Nat.reduceAdd, sy, f8, f9, g0, g11, hl]) ?_
  rintro s _ ⟨hl, g0, g3, rfl⟩
  refine wpo_nil (then_n ?_)
  refine AM.wp_seq hp0 (AM.wp_reg hp0 ?_)
  have f11 := fz_ln h_0
  obtain ⟨x12, e13, hp⟩ := bn hp
  obtain ⟨v14, H15, fg16, W, f18, w17, hst, o19⟩ := ow_mk (kn := .i64) (kc := .i64) hst (show Rp.rv _ (.int .i64 0) (0 : Int) from rfl) [.int .i64 0] rfl e13
  replace h_0 := Rp.mono w17 h_0
  replace o10 := o10.mono w17
  refine wpo_seg hp0 4 (fun s H' => s.length = 42 ∧ gt s 0 = v_0 ∧ gt s 3 = v4 ∧ gt s 4 = v14 ∧ H15 = H') (by simp only [↓runs, isCall, ↓reduceIte, ↓gd_true, ↓gd_false, evs, AV.cells, Nat.reduceEqDiff, Nat.reduceLT, reduceCtorEq, Nat.reduceAdd, sy, f11, f18, g0, g3, hl]) ?_
  rintro s _ ⟨hl, g0, g3, g4, rfl⟩
  refine wpo_nil (then_n ?_)
  refine AM.wp_seq hp0 (AM.wp_seq hp0 (AM.wp_reg hp0 ?_))
  have f20 := fz_ln h_0
  refine wpo_seg hp0 3 (fun s H' => s.length = 42 ∧ gt s 3 = v4 ∧ gt s 4 = v14 ∧ gt s 16 = v_0 ∧ gt s 17 = .int .i64 (l_.length : Int) ∧ gt s 18 = .int .i64 0 ∧ H15 = H') (by simp only [↓runs, isCall, ↓reduceIte, ↓gd_true, ↓gd_false, evs, AV.cells, Nat.reduceEqDiff, Nat.reduceLT, reduceCtorEq, Nat.reduceAdd, sy, f20, g0, g3, g4, hl]) ?_
  rintro s _ ⟨hl, g3, g4, g16, g17, g18, rfl⟩
  refine wpo_nil (then_n ?_)
  obtain ⟨z27, e28, hp⟩ := bn hp
  refine rangeS_ref hp0 42 l_.length (fun k x => P_partition_Canonical_l21 l_ k x.1 x.2) (fun _ x s H' => ∃ (W' : AH) (qo3 : Frag) (qo2 : Frag), s.length = 42 ∧ gt s 3 = v4 ∧ gt s 4 = v14 ∧ gt s 16 = v_0 ∧  Wle W W' ∧ St (qo3 :: qo2 :: G) W' H' ∧ OwS W' v14 qo3 (x.1 : List Int) ∧ OwM W' v4 qo2 (x.2 : List (Int × Int))) e28 (fz_big h_0) rfl ?_ ?_ hl g18 g17 ?_ ?_
  ·intro k x s H d v hd h; rcases hd with rfl | rfl | rfl <;> simpa only [gt_other, pt_length, Nat.reduceEqDiff, not_false_eq_true] using h
  ·replace hst := hst.p1
   replace hst := hst.p1
   exact ⟨W, _, _, hl, g3, g4, g16, .refl _, hst, o19, o10⟩
  ·intro k23 x22 y24 s H hk hI hl g18 g17 hy25
   obtain ⟨x29, x30⟩ := x22
   dsimp only at hI
   change P_partition_Canonical_l21 l_ k23 x29 x30 = some y24 at hy25
   unfold P_partition_Canonical_l21 at hy25
   obtain ⟨W, fg32, fg34, hl, g3, g4, g16, w31, hst, o33, o35⟩ := hI
   replace h_0 := Rp.mono w31 h_0
   refine AM.wp_seq hp0 (AM.wp_reg hp0 ?_)
   obtain ⟨x36, e37, hy25⟩ := bn hy25
   obtain ⟨p38, _, f40, f41, rfl⟩ := fz_at (k := .i64) hst h_0 e37 rfl
   refine wpo_seg hp0 5 (fun s H' => s.length = 42 ∧ gt s 3 = v4 ∧ gt s 4 = v14 ∧ gt s 5 = .int .i64 (k23 : Int) ∧ gt s 6 = .int .i64 x36 ∧ gt s 16 = v_0 ∧ gt s 17 = .int .i64 (l_.length : Int) ∧ gt s 18 = .int .i64 (k23 : Int) ∧ H = H') (by simp only [↓runs, isCall, ↓reduceIte, ↓gd_true, ↓gd_false, evs, AV.cells, Nat.reduceEqDiff, Nat.reduceLT, reduceCtorEq, Nat.reduceAdd, sy, f40, f41, g3, g4, g16, g17, g18, hl]) ?_
   rintro s _ ⟨hl, g3, g4, g5, g6, g16, g17, g18, rfl⟩
   refine wpo_nil (then_n ?_)
   refine AM.wp_seq hp0 (AM.wp_reg hp0 ?_)
   obtain ⟨y43, f44, f45, h46⟩ := om_look (kk := .int) hst (.tail _ (.head _)) o35 (show (.int .i64 x36 : AV) = Ky.enc (x36 : Int) from rfl) rfl (show Rp.rv _ (.int .i64 0) (0 : Int) from rfl)
   obtain rfl : y43 = .int .i64 ((mget x30 x36).getD 0) := h46
   refine wpo_seg hp0 8 (fun s H' => s.length = 42 ∧ gt s 3 = v4 ∧ gt s 4 = v14 ∧ gt s 5 = .int .i64 (k23 : Int) ∧ gt s 6 = .int .i64 x36 ∧ gt s 7 = .int .i64 ((mget x30 x36).getD 0) ∧ gt s 8 = .bool ((mget x30 x36).isSome) ∧ gt s 16 = v_0 ∧ gt s 17 = .int .i64 (l_.length : Int) ∧ gt s 18 = .int .i64 (k23 : Int) ∧ H = H') (by simp only [↓runs, isCall, ↓reduceIte, ↓gd_true, ↓gd_false, evs, AV.cells, Nat.reduceEqDiff, Nat.reduceLT, reduceCtorEq, Nat.reduceAdd, sy, f44, f45, g3, g4, g5, g6, g16, g17, g18, hl]) ?_
   rintro s _ ⟨hl, g3, g4, g5, g6, g7, g8, g16, g17, g18, rfl⟩
   refine wpo_nil (then_n ?_)
   refine AM.wp_seq hp0 (AM.wp_seq hp0 (AM.wp_reg hp0 ?_))
   refine wpo_seg hp0 2 (fun s H' => s.length = 42 ∧ gt s 3 = v4 ∧ gt s 4 = v14 ∧ gt s 5 = .int .i64 (k23 : Int) ∧ gt s 6 = .int .i64 x36 ∧ gt s 7 = .int .i64 ((mget x30 x36).getD 0) ∧ gt s 16 = v_0 ∧ gt s 17 = .int .i64 (l_.length : Int) ∧ gt s 18 = .int .i64 (k23 : Int) ∧ gt s 30 = .bool (!((mget x30 x36).isSome)) ∧ H = H') (by simp only [↓runs, isCall, ↓reduceIte, ↓gd_true, ↓gd_false, evs, AV.cells, Nat.reduceEqDiff, Nat.reduceLT, reduceCtorEq, Nat.reduceAdd, sy, g3, g4, g5, g6, g7, g8, g16, g17, g18, hl]) ?_
   rintro s _ ⟨hl, g3, g4, g5, g6, g7, g16, g17, g18, g30, rfl⟩
   refine wpo_nil (then_n ?_)
   rcases Bool.eq_false_or_eq_true (!((mget x30 x36).isSome)) with c47 | c47
   ·replace hy25 := ifT c47 hy25
    refine AM.wp_condT (by simp only [ev_t, ev_c, g30, c47]) ?_
    refine AM.wp_seq hp0 (AM.wp_reg hp0 ?_)
    have f48 := om_len hst (.tail _ (.head _)) o35
    refine wpo_seg hp0 3 (fun s H' => s.length = 42 ∧ gt s 3 = v4 ∧ gt s 4 = v14 ∧ gt s 5 = .int .i64 (k23 : Int) ∧ gt s 6 = .int .i64 x36 ∧ gt s 7 = .int .i64 (x30.length : Int) ∧ gt s 16 = v_0 ∧ gt s 17 = .int .i64 (l_.length : Int) ∧ gt s 18 = .int .i64 (k23 : Int) ∧ H = H') (by simp only [↓runs, isCall, ↓reduceIte, ↓gd_true, ↓gd_false, evs, AV.cells, Nat.reduceEqDiff, Nat.reduceLT, reduceCtorEq, Nat.reduceAdd, sy, f48, g3, g4, g5, g6, g7, g16, g17, g18, g30, hl]) ?_
    rintro s _ ⟨hl, g3, g4, g5, g6, g7, g16, g17, g18, rfl⟩
    refine wpo_nil (then_n ?_)
    refine AM.wp_reg hp0 ?_
    replace hst := hst.p1
    obtain ⟨H49, fg50, f51, hst, o52⟩ := om_put (kk := .int) hst o35 (show (.int .i64 x36 : AV) = Ky.enc (x36 : Int) from rfl) rfl (show Rp.rv _ (.int .i64 (x30.length : Int)) ((x30.length : Int) : Int) from rfl)
    refine wpo_seg hp0 4 (fun s H' => s.length = 42 ∧ gt s 3 = v4 ∧ gt s 4 = v14 ∧ gt s 5 = .int .i64 (k23 : Int) ∧ gt s 7 = .int .i64 (x30.length : Int) ∧ gt s 16 = v_0 ∧ gt s 17 = .int .i64 (l_.length : Int) ∧ gt s 18 = .int .i64 (k23 : Int) ∧ H49 = H') (by simp only [↓runs, isCall, ↓reduceIte, ↓gd_true, ↓gd_false, evs, AV.cells, Nat.reduceEqDiff, Nat.reduceLT, reduceCtorEq, Nat.reduceAdd, sy, f51, g3, g4, g5, g6, g7, g16, g17, g18, hl]) ?_
    rintro s _ ⟨hl, g3, g4, g5, g7, g16, g17, g18, rfl⟩
    refine wpo_nil (then_n ?_)
    refine AM.wp_reg hp0 ?_
    obtain ⟨x53, e54, hy25⟩ := bn hy25
    replace hst := hst.p1
    obtain ⟨p55, H56, fg57, f58, f59, hst, o60⟩ := ow_set (k := .i64) 1 rfl hst o33 (show Rp.rv W (.int .i64 (x30.length : Int)) ((x30.length : Int) : Int) from rfl) e54
    refine wpo_seg hp0 5 (fun s H' => s.length = 42 ∧ gt s 3 = v4 ∧ gt s 4 = v14 ∧ gt s 16 = v_0 ∧ gt s 17 = .int .i64 (l_.length : Int) ∧ gt s 18 = .int .i64 (k23 : Int) ∧ H56 = H') (by simp only [↓runs, isCall, ↓reduceIte, ↓gd_true, ↓gd_false, evs, AV.cells, Nat.reduceEqDiff, Nat.reduceLT, reduceCtorEq, Nat.reduceAdd, sy, f58, f59, g3, g4, g5, g7, g16, g17, g18, hl]) ?_
    rintro s _ ⟨hl, g3, g4, g16, g17, g18, rfl⟩
    refine wpo_nil ?_
    refine rnd_n ?_
    obtain rfl := Option.some.inj hy25
    replace hst := hst.p1
    replace hst := hst.p1
    exact ⟨hl, g18, g17, ⟨W, _, _, hl, g3, g4, g16, w31, hst, o60, o52⟩⟩
   ·replace hy25 := ifF c47 hy25
    refine AM.wp_condF (by simp only [ev_t, ev_c, g30, c47]) ?_
    refine AM.wp_skip ?_
    refine then_n ?_
    refine AM.wp_reg hp0 ?_
    obtain ⟨x61, e62, hy25⟩ := bn hy25
    obtain ⟨p63, H64, fg65, f66, f67, hst, o68⟩ := ow_set (k := .i64) 1 rfl hst o33 (show Rp.rv W (.int .i64 ((mget x30 x36).getD 0)) ((mget x30 x36).getD 0 : Int) from rfl) e62
    refine wpo_seg hp0 5 (fun s H' => s.length = 42 ∧ gt s 3 = v4 ∧ gt s 4 = v14 ∧ gt s 16 = v_0 ∧ gt s 17 = .int .i64 (l_.length : Int) ∧ gt s 18 = .int .i64 (k23 : Int) ∧ H64 = H') (by simp only [↓runs, isCall, ↓reduceIte, ↓gd_true, ↓gd_false, evs, AV.cells, Nat.reduceEqDiff, Nat.reduceLT, reduceCtorEq, Nat.reduceAdd, sy, f66, f67, g3, g4, g5, g6, g7, g16, g17, g18, g30, hl]) ?_
    rintro s _ ⟨hl, g3, g4, g16, g17, g18, rfl⟩
    refine wpo_nil ?_
    refine rnd_n ?_
    obtain rfl := Option.some.inj hy25
    replace hst := hst.p1
    replace hst := hst.p1
    exact ⟨hl, g18, g17, ⟨W, _, _, hl, g3, g4, g16, w31, hst, o68, o35⟩⟩
  ·rintro s H hI _
   obtain ⟨W, fg70, fg72, hl, g3, g4, g16, w69, hst, o71, o73⟩ := hI
   replace h_0 := Rp.mono w69 h_0
   refine then_n ?_
   refine AM.wp_seq hp0 (AM.wp_reg hp0 ?_)
   refine wpo_seg hp0 2 (fun s H' => s.length = 42 ∧ gt s 2 = v14 ∧ H = H') (by simp only [↓runs, isCall, ↓reduceIte, ↓gd_true, ↓gd_false, evs, AV.cells, Nat.reduceEqDiff, Nat.reduceLT, reduceCtorEq, Nat.reduceAdd, sy, g3, g4, g16, hl]) ?_
   rintro s _ ⟨hl, g2, rfl⟩
   refine wpo_nil (then_n ?_)
   refine AM.wp_ret ?_
   obtain rfl := Option.some.inj hp
   replace hst := hst.p1
   replace hst := hst.drop
   refine body_ret (vs := [v14]) (by simp only [rvs, f_partition_Canonical, Option.map_some, g2]) ?_
   exact ⟨W, ((w7.trans w17).trans w69), _, hst, o71⟩

end Go.Proofs.Ytmdpejgnkoneoaa.Pu
set_option maxRecDepth 100000
set_option maxHeartbeats 4000000
namespace Go.Proofs.Ytmdpejgnkoneoaa.Pu
open Go Go.AM Go.Proofs.Ytmdpejgnkoneoaa.Code

end Go.Proofs.Ytmdpejgnkoneoaa.Pu
set_option maxRecDepth 100000
set_option maxHeartbeats 4000000
namespace Go.Proofs.Ytmdpejgnkoneoaa.Pu
open Go Go.AM Go.Proofs.Ytmdpejgnkoneoaa.Code

noncomputable def P_semigroupref03_Same_l5 (a : List Int) (b_ : List Int) (k7 : Nat) : Option (Lp (Unit) (Bool)) :=
 Option.bind (gi a (k7 : Int)) fun x14 =>
 Option.bind (gi b_ (k7 : Int)) fun x21 =>
 if !decide (x14 = x21) then
  some (.ex false)
 else
  some (.go ())
noncomputable def P_semigroupref03_Same (a : List Int) (b_ : List Int) : Option (Bool) :=
 if !decide ((a.length : Int) = (b_.length : Int)) then
  some false
 else
  Option.bind (forR a.length (fun k x => P_semigroupref03_Same_l5 a b_ k) ()) fun z11 =>
  match z11 with
  | .inl x29 =>
   some true
  | .inr b => some b
end Go.Proofs.Ytmdpejgnkoneoaa.Pu
set_option maxRecDepth 100000
set_option maxHeartbeats 4000000
namespace Go.Proofs.Ytmdpejgnkoneoaa.Pu
open Go Go.AM Go.Proofs.Ytmdpejgnkoneoaa.Code

end Go.Proofs.Ytmdpejgnkoneoaa.Pu
set_option maxRecDepth 100000
set_option maxHeartbeats 4000000
namespace Go.Proofs.Ytmdpejgnkoneoaa.Pu
open Go Go.AM Go.Proofs.Ytmdpejgnkoneoaa.Code

end Go.Proofs.Ytmdpejgnkoneoaa.Pu
set_option maxRecDepth 100000
set_option maxHeartbeats 4000000
namespace Go.Proofs.Ytmdpejgnkoneoaa.Pu
open Go Go.AM Go.Proofs.Ytmdpejgnkoneoaa.Code

end Go.Proofs.Ytmdpejgnkoneoaa.Pu
set_option maxRecDepth 100000
set_option maxHeartbeats 4000000
namespace Go.Proofs.Ytmdpejgnkoneoaa.Pu
open Go Go.AM Go.Proofs.Ytmdpejgnkoneoaa.Code

end Go.Proofs.Ytmdpejgnkoneoaa.Pu
set_option maxRecDepth 100000
set_option maxHeartbeats 4000000
namespace Go.Proofs.Ytmdpejgnkoneoaa.Pu
open Go Go.AM Go.Proofs.Ytmdpejgnkoneoaa.Code

end Go.Proofs.Ytmdpejgnkoneoaa.Pu
set_option maxRecDepth 100000
set_option maxHeartbeats 4000000
namespace Go.Proofs.Ytmdpejgnkoneoaa.Pu
open Go Go.AM Go.Proofs.Ytmdpejgnkoneoaa.Code

noncomputable def P_partition_Trivial (n : Int) : Option ((List Int)) :=
 Option.bind (
  if decide (n < 0) then
   some true
  else
   some (decide (4096 < n))) fun z1 =>
 if z1 then
  some []
 else
  Option.bind (mkz (α := Int) 8 n n 0) fun x7 =>
  some x7
theorem R_partition_Trivial {G : List Frag} {W H : AH} {n : Int} (hst : St G W H) {r : (List Int)} (hp : P_partition_Trivial n = some r) :
  wpc E0 N_partition_Trivial [.int .i64 n] H fun rv H' => ∃ W', Wle W W' ∧ ∃ (g0 : Frag), St (g0 :: G) W' H' ∧ OwS W' rv g0 (r : List Int) := by
 refine enterN (F := f_partition_Trivial) rfl (Nat.le_of_ble_eq_true rfl) fun s hl hg => ?_
 replace hl : s.length = 11 := hl
 have g0 : gt s 0 = .int .i64 n := hg 0 (Nat.le_of_ble_eq_true rfl)
 clear hg
 unfold P_partition_Trivial at hp
 show wp E0 c_partition_Trivial s H _
 unfold c_partition_Trivial
 refine AM.wp_seq hp0 (AM.wp_reg hp0 ?_)
 refine wpo_seg hp0 1 (fun s H' => s.length = 11 ∧ gt s 0 = .int .i64 n ∧ H = H') (by simp only [↓runs, isCall, ↓reduceIte, ↓gd_true, ↓gd_false, evs, AV.cells, Nat.reduceEqDiff, Nat.reduceLT, reduceCtorEq, Nat.reduceAdd, sy, g0, hl]) ?_
 rintro s _ ⟨hl, g0, rfl⟩
 refine wpo_nil (then_n ?_)
 refine AM.wp_seq hp0 (AM.wp_seq hp0 ?_)
 obtain ⟨z1, hj2, hp⟩ := bn hp
 refine AM.wp_regK hp0 (fun s H' => s.length = 11 ∧ gt s 8 = .bool z1 ∧ gt s 0 = .int .i64 n ∧ H = H') ?_ ?_
 ·rcases Bool.eq_false_or_eq_true (decide (n < 0)) with c3 | c3
  ·replace hj2 := ifT c3 hj2
   refine wpo_seg hp0 6 (fun s H' => s.length = 11 ∧ gt s 0 = .int .i64 n ∧ gt s 8 = .bool true ∧ H = H') (by simp only [↓runs, isCall, ↓reduceIte, ↓gd_true, ↓gd_false, evs, AV.cells, Nat.reduceEqDiff, Nat.reduceLT, reduceCtorEq, Nat.reduceAdd, sy, c3, g0, hl]) ?_
   rintro s _ ⟨hl, g0, g8, rfl⟩
   refine wpo_nil ?_
   obtain rfl := Option.some.inj hj2
   exact ⟨hl, g8, g0, rfl⟩
  ·replace hj2 := ifF c3 hj2
   refine wpo_seg hp0 6 (fun s H' => s.length = 11 ∧ gt s 0 = .int .i64 n ∧ gt s 8 = .bool (decide (4096 < n)) ∧ H = H') (by simp only [↓runs, isCall, ↓reduceIte, ↓gd_true, ↓gd_false, evs, AV.cells, Nat.reduceEqDiff, Nat.reduceLT, reduceCtorEq, Nat.reduceAdd, sy, c3, g0, hl]) ?_
   rintro s _ ⟨hl, g0, g8, rfl⟩
   refine wpo_nil ?_
   obtain rfl := Option.some.inj hj2
   exact ⟨hl, g8, g0, rfl⟩
 ·rintro s _ ⟨hl, g8, g0, rfl⟩
  refine then_n ?_
  rcases Bool.eq_false_or_eq_true (z1) with c5 | c5
  ·replace hp := ifT c5 hp
   refine AM.wp_condT (by simp only [ev_t, ev_c, g8, c5]) ?_
   refine AM.wp_seq hp0 (AM.wp_reg hp0 ?_)
   refine wpo_seg hp0 1 (fun s H' => s.length = 11 ∧ gt s 2 = .nils ∧ H = H') (by simp only [↓runs, isCall, ↓reduceIte, ↓gd_true, ↓gd_false, evs, AV.cells, Nat.reduceEqDiff, Nat.reduceLT, reduceCtorEq, Nat.reduceAdd, sy, g0, g8, hl]) ?_
   rintro s _ ⟨hl, g2, rfl⟩
   refine wpo_nil (then_n ?_)
   refine AM.wp_ret ?_
   refine then_r ?_
   replace hst := hst.nil
   have o6 := ow_nil (α := Int) W
   obtain rfl := Option.some.inj hp
   refine body_ret (vs := [.nils]) (by simp only [rvs, f_partition_Trivial, Option.map_some, g2]) ?_
   exact ⟨W, .refl _, _, hst, o6⟩
  ·replace hp := ifF c5 hp
   refine AM.wp_condF (by simp only [ev_t, ev_c, g8, c5]) ?_
   refine AM.wp_skip ?_
   refine then_n ?_
   refine AM.wp_seq hp0 (AM.wp_reg hp0 ?_)
   obtain ⟨x7, e8, hp⟩ := bn hp
   obtain ⟨v9, H10, fg11, W, f13, w12, hst, o14⟩ := ow_mk (kn := .i64) (kc := .i64) hst (show Rp.rv _ (.int .i64 0) (0 : Int) from rfl) [.int .i64 0] rfl e8
   refine wpo_seg hp0 3 (fun s H' => s.length = 11 ∧ gt s 2 = v9 ∧ H10 = H') (by simp only [↓runs, isCall, ↓reduceIte, ↓gd_true, ↓gd_false, evs, AV.cells, Nat.reduceEqDiff, Nat.reduceLT, reduceCtorEq, Nat.reduceAdd, sy, f13, g0, g8, hl]) ?_
   rintro s _ ⟨hl, g2, rfl⟩
   refine wpo_nil (then_n ?_)
   refine AM.wp_ret ?_
   obtain rfl := Option.some.inj hp
   refine body_ret (vs := [v9]) (by simp only [rvs, f_partition_Trivial, Option.map_some, g2]) ?_
   exact ⟨W, w12, _, hst, o14⟩

end Go.Proofs.Ytmdpejgnkoneoaa.Pu
set_option maxRecDepth 100000
set_option maxHeartbeats 4000000
namespace Go.Proofs.Ytmdpejgnkoneoaa.Pu
open Go Go.AM Go.Proofs.Ytmdpejgnkoneoaa.Code

noncomputable def P_partition_Discrete_l17 (k19 : Nat) (x18 : List Int) : Option ((List Int)) :=
 Option.bind (si x18 (k19 : Int) (k19 : Int)) fun x29 =>
 some x29
noncomputable def P_partition_Discrete (n : Int) : Option ((List Int)) :=
 Option.bind (
  if decide (n < 0) then
   some true
  else
   some (decide (4096 < n))) fun z1 =>
 if z1 then
  some []
 else
  Option.bind (mkz (α := Int) 8 n n 0) fun x7 =>
  Option.bind (forS x7.length (fun k x => P_partition_Discrete_l17 k x) x7) fun z23 =>
  some z23
theorem R_partition_Discrete {G : List Frag} {W H : AH} {n : Int} (hst : St G W H) {r : (List Int)} (hp : P_partition_Discrete n = some r) :
  wpc E0 N_partition_Discrete [.int .i64 n] H fun rv H' => ∃ W', Wle W W' ∧ ∃ (g0 : Frag), St (g0 :: G) W' H' ∧ OwS W' rv g0 (r : List Int) := by
 refine enterN (F := f_partition_Discrete) rfl (Nat.le_of_ble_eq_true rfl) fun s hl hg => ?_
 replace hl : s.length = 24 := hl
 have g0 : gt s 0 = .int .i64 n := hg 0 (Nat.le_of_ble_eq_true rfl)
 clear hg
 unfold P_partition_Discrete at hp
 show wp E0 c_partition_Discrete s H _
 unfold c_partition_Discrete
 refine AM.wp_seq hp0 (AM.wp_reg hp0 ?_)
 refine wpo_seg hp0 1 (fun s H' => s.length = 24 ∧ gt s 0 = .int .i64 n ∧ H = H') (by simp only [↓runs, isCall, ↓reduceIte, ↓gd_true, ↓gd_false, evs, AV.cells, Nat.reduceEqDiff, Nat.reduceLT, reduceCtorEq, Nat.reduceAdd, sy, g0, hl]) ?_
 rintro s _ ⟨hl, g0, rfl⟩
 refine wpo_nil (then_n ?_)
 refine AM.wp_seq hp0 (AM.wp_seq hp0 ?_)
 obtain ⟨z1, hj2, hp⟩ := bn hp
 refine AM.wp_regK hp0 (fun s H' => s.length = 24 ∧ gt s 10 = .bool z1 ∧ gt s 0 = .int .i64 n ∧ H = H') ?_ ?_
 ·rcases Bool.eq_false_or_eq_true (decide (n < 0)) with c3 | c3
  ·replace hj2 := ifT c3 hj2
   refine wpo_seg hp0 6 (fun s H' => s.length = 24 ∧ gt s 0 = .int .i64 n ∧ gt s 10 = .bool true ∧ H = H') (by simp only [↓runs, isCall, ↓reduceIte, ↓gd_true, ↓gd_false, evs, AV.cells, Nat.reduceEqDiff, Nat.reduceLT, reduceCtorEq, Nat.reduceAdd, sy, c3, g0, hl]) ?_
   rintro s _ ⟨hl, g0, g10, rfl⟩
   refine wpo_nil ?_
   obtain rfl := Option.some.inj hj2
   exact ⟨hl, g10, g0, rfl⟩
  ·replace hj2 := ifF c3 hj2
   refine wpo_seg hp0 6 (fun s H' => s.length = 24 ∧ gt s 0 = .int .i64 n ∧ gt s 10 = .bool (decide (4096 < n)) ∧ H = H') (by simp only [↓runs, isCall, ↓reduceIte, ↓gd_true, ↓gd_false, evs, AV.cells, Nat.reduceEqDiff, Nat.reduceLT, reduceCtorEq, Nat.reduceAdd, sy, c3, g0, hl]) ?_
   rintro s _ ⟨hl, g0, g10, rfl⟩
   refine wpo_nil ?_
   obtain rfl := Option.some.inj hj2
   exact ⟨hl, g10, g0, rfl⟩
 ·rintro s _ ⟨hl, g10, g0, rfl⟩
  refine then_n ?_
  rcases Bool.eq_false_or_eq_true (z1) with c5 | c5
  ·replace hp := ifT c5 hp
   refine AM.wp_condT (by simp only [ev_t, ev_c, g10, c5]) ?_
   refine AM.wp_seq hp0 (AM.wp_reg hp0 ?_)
   refine wpo_seg hp0 1 (fun s H' => s.length = 24 ∧ gt s 2 = .nils ∧ H = H') (by simp only [↓runs, isCall, ↓reduceIte, ↓gd_true, ↓gd_false, evs, AV.cells, Nat.reduceEqDiff, Nat.reduceLT, reduceCtorEq, Nat.reduceAdd, sy, g0, g10, hl]) ?_
   rintro s _ ⟨hl, g2, rfl⟩
   refine wpo_nil (then_n ?_)
   refine AM.wp_ret ?_
   refine then_r ?_
   replace hst := hst.nil
   have o6 := ow_nil (α := Int) W
   obtain rfl := Option.some.inj hp
   refine body_ret (vs := [.nils]) (by simp only [rvs, f_partition_Discrete, Option.map_some, g2]) ?_
   exact ⟨W, .refl _, _, hst, o6⟩
  ·replace hp := ifF c5 hp
   refine AM.wp_condF (by simp only [ev_t, ev_c, g10, c5]) ?_
   refine AM.wp_skip ?_
   refine then_n ?_
   refine AM.wp_seq hp0 (AM.wp_reg hp0 ?_)
   obtain ⟨x7, e8, hp⟩ := bn hp
   obtain ⟨v9, H10, fg11, W, f13, w12, hst, o14⟩ := ow_mk (kn := .i64) (kc := .i64) hst (show Rp.rv _ (.int .i64 0) (0 : Int) from rfl) [.int .i64 0] rfl e8
   refine wpo_seg hp0 3 (fun s H' => s.length = 24 ∧ gt s 3 = v9 ∧ H10 = H') (by simp only [↓runs, isCall, ↓reduceIte, ↓gd_true, ↓gd_false, evs, AV.cells, Nat.reduceEqDiff, Nat.reduceLT, reduceCtorEq, Nat.reduceAdd, sy, f13, g0, g10, hl]) ?_
   rintro s _ ⟨hl, g3, rfl⟩
   refine wpo_nil (then_n ?_)
   refine AM.wp_seq hp0 (AM.wp_seq hp0 (AM.wp_reg hp0 ?_))
   have f15 := ow_ln o14
   have b16 := ow_big o14
   refine wpo_seg hp0 3 (fun s H' => s.length = 24 ∧ gt s 3 = v9 ∧ gt s 14 = .int .i64 (x7.length : Int) ∧ gt s 15 = .int .i64 0 ∧ H10 = H') (by simp only [↓runs, isCall, ↓reduceIte, ↓gd_true, ↓gd_false, evs, AV.cells, Nat.reduceEqDiff, Nat.reduceLT, reduceCtorEq, Nat.reduceAdd, sy, f15, g3, hl]) ?_
   rintro s _ ⟨hl, g3, g14, g15, rfl⟩
   refine wpo_nil (then_n ?_)
   obtain ⟨z23, e24, hp⟩ := bn hp
   refine rangeS_ref hp0 24 x7.length (fun k x => P_partition_Discrete_l17 k x) (fun _ x s H' => ∃ (W' : AH) (qo2 : Frag), s.length = 24 ∧ gt s 3 = v9 ∧  Wle W W' ∧ St (qo2 :: G) W' H' ∧ OwS W' v9 qo2 (x : List Int)) e24 (b16) rfl ?_ ?_ hl g15 g14 ?_ ?_
   ·intro k x s H d v hd h; rcases hd with rfl | rfl | rfl <;> simpa only [gt_other, pt_length, Nat.reduceEqDiff, not_false_eq_true] using h
   ·exact ⟨W, _, hl, g3, .refl _, hst, o14⟩
   ·intro k19 x18 y20 s H hk hI hl g15 g14 hy21
    change P_partition_Discrete_l17 k19 x18 = some y20 at hy21
    unfold P_partition_Discrete_l17 at hy21
    obtain ⟨W, fg27, hl, g3, w26, hst, o28⟩ := hI
    refine AM.wp_seq hp0 (AM.wp_reg hp0 ?_)
    refine wpo_seg hp0 2 (fun s H' => s.length = 24 ∧ gt s 3 = v9 ∧ gt s 4 = .int .i64 (k19 : Int) ∧ gt s 14 = .int .i64 (x7.length : Int) ∧ gt s 15 = .int .i64 (k19 : Int) ∧ H = H') (by simp only [↓runs, isCall, ↓reduceIte, ↓gd_true, ↓gd_false, evs, AV.cells, Nat.reduceEqDiff, Nat.reduceLT, reduceCtorEq, Nat.reduceAdd, sy, g3, g14, g15, hl]) ?_
    rintro s _ ⟨hl, g3, g4, g14, g15, rfl⟩
    refine wpo_nil (then_n ?_)
    refine AM.wp_reg hp0 ?_
    obtain ⟨x29, e30, hy21⟩ := bn hy21
    obtain ⟨p31, H32, fg33, f34, f35, hst, o36⟩ := ow_set (k := .i64) 1 rfl hst o28 (show Rp.rv W (.int .i64 (k19 : Int)) ((k19 : Int) : Int) from rfl) e30
    refine wpo_seg hp0 5 (fun s H' => s.length = 24 ∧ gt s 3 = v9 ∧ gt s 14 = .int .i64 (x7.length : Int) ∧ gt s 15 = .int .i64 (k19 : Int) ∧ H32 = H') (by simp only [↓runs, isCall, ↓reduceIte, ↓gd_true, ↓gd_false, evs, AV.cells, Nat.reduceEqDiff, Nat.reduceLT, reduceCtorEq, Nat.reduceAdd, sy, f34, f35, g3, g4, g14, g15, hl]) ?_
    rintro s _ ⟨hl, g3, g14, g15, rfl⟩
    refine wpo_nil ?_
    refine rnd_n ?_
    obtain rfl := Option.some.inj hy21
    exact ⟨hl, g15, g14, ⟨W, _, hl, g3, w26, hst, o36⟩⟩
   ·rintro s H hI _
    obtain ⟨W, fg38, hl, g3, w37, hst, o39⟩ := hI
    refine then_n ?_
    refine AM.wp_seq hp0 (AM.wp_reg hp0 ?_)
    refine wpo_seg hp0 2 (fun s H' => s.length = 24 ∧ gt s 2 = v9 ∧ H = H') (by simp only [↓runs, isCall, ↓reduceIte, ↓gd_true, ↓gd_false, evs, AV.cells, Nat.reduceEqDiff, Nat.reduceLT, reduceCtorEq, Nat.reduceAdd, sy, g3, hl]) ?_
    rintro s _ ⟨hl, g2, rfl⟩
    refine wpo_nil (then_n ?_)
    refine AM.wp_ret ?_
    obtain rfl := Option.some.inj hp
    refine body_ret (vs := [v9]) (by simp only [rvs, f_partition_Discrete, Option.map_some, g2]) ?_
    exact ⟨W, (w12.trans w37), _, hst, o39⟩

end Go.Proofs.Ytmdpejgnkoneoaa.Pu
set_option maxRecDepth 100000
set_option maxHeartbeats 4000000
namespace Go.Proofs.Ytmdpejgnkoneoaa.Pu
open Go Go.AM Go.Proofs.Ytmdpejgnkoneoaa.Code

noncomputable def P_partition_Valid_l4 (p_ : List Int) (k6 : Nat) (x5 : Int) : Option (Lp (Int) (Bool)) :=
 Option.bind (gi p_ (k6 : Int)) fun x14 =>
 Option.bind (
  if decide (x14 < 0) then
   some true
  else
   some (decide (x5 < x14))) fun z21 =>
 if z21 then
  some (.ex false)
 else
  if decide (x14 = x5) then
   some (.go (w64 (x5 + 1)))
  else
   some (.go x5)
noncomputable def P_partition_Valid (p_ : List Int) : Option (Bool) :=
 if decide (4096 < (p_.length : Int)) then
  some false
 else
  Option.bind (forR p_.length (fun k x => P_partition_Valid_l4 p_ k x) 0) fun z10 =>
  match z10 with
  | .inl x27 =>
   some true
  | .inr b => some b
theorem R_partition_Valid {G : List Frag} {W H : AH} {v_0 : AV} {p_ : List Int} (hst : St G W H) (h_0 : Rp.rv W v_0 p_) {r : Bool} (hp : P_partition_Valid p_ = some r) :
  wpc E0 N_partition_Valid [v_0] H fun rv H' => ∃ W', Wle W W' ∧ St G W' H' ∧ rv = .bool r := by
 refine enterN (F := f_partition_Valid) rfl (Nat.le_of_ble_eq_true rfl) fun s hl hg => ?_
 replace hl : s.length = 28 := hl
 have g0 : gt s 0 = v_0 := hg 0 (Nat.le_of_ble_eq_true rfl)
 clear hg
 unfold P_partition_Valid at hp
 show wp E0 c_partition_Valid s H _
 unfold c_partition_Valid
 refine AM.wp_seq hp0 (AM.wp_reg hp0 ?_)
 refine wpo_seg hp0 1 (fun s H' => s.length = 28 ∧ gt s 0 = v_0 ∧ H = H') (by simp only [↓runs, isCall, ↓reduceIte, ↓gd_true, ↓gd_false, evs, AV.cells, Nat.reduceEqDiff, Nat.reduceLT, reduceCtorEq, Nat.reduceAdd, sy, g0, hl]) ?_
 rintro s _ ⟨hl, g0, rfl⟩
 refine wpo_nil (then_n ?_)
 refine AM.wp_seq hp0 (AM.wp_seq hp0 (AM.wp_reg hp0 ?_))
 have f1 := fz_ln h_0
 refine wpo_seg hp0 3 (fun s H' => s.length = 28 ∧ gt s 0 = v_0 ∧ gt s 8 = .bool (decide (4096 < (p_.length : Int))) ∧ H = H') (by simp only [↓runs, isCall, ↓reduceIte, ↓gd_true, ↓gd_false, evs, AV.cells, Nat.reduceEqDiff, Nat.reduceLT, reduceCtorEq, Nat.reduceAdd, sy, f1, g0, hl]) ?_
 rintro s _ ⟨hl, g0, g8, rfl⟩
 refine wpo_nil (then_n ?_)
 rcases Bool.eq_false_or_eq_true (decide (4096 < (p_.length : Int))) with c2 | c2
 ·replace hp := ifT c2 hp
  refine AM.wp_condT (by simp only [ev_t, ev_c, g8, c2]) ?_
  refine AM.wp_seq hp0 (AM.wp_reg hp0 ?_)
  refine wpo_seg hp0 1 (fun s H' => s.length = 28 ∧ gt s 2 = .bool false ∧ H = H') (by simp only [↓runs, isCall, ↓reduceIte, ↓gd_true, ↓gd_false, evs, AV.cells, Nat.reduceEqDiff, Nat.reduceLT, reduceCtorEq, Nat.reduceAdd, sy, g0, g8, hl]) ?_
  rintro s _ ⟨hl, g2, rfl⟩
  refine wpo_nil (then_n ?_)
  refine AM.wp_ret ?_
  refine then_r ?_
  obtain rfl := Option.some.inj hp
  refine body_ret (vs := [.bool false]) (by simp only [rvs, f_partition_Valid, Option.map_some, g2]) ?_
  exact ⟨W, .refl _, hst, rfl⟩
 ·replace hp := ifF c2 hp
  refine AM.wp_condF (by simp only [ev_t, ev_c, g8, c2]) ?_
  refine AM.wp_skip ?_
  refine then_n ?_
  refine AM.wp_seq hp0 (AM.wp_reg hp0 ?_)
  refine wpo_seg hp0 1 (fun s H' => s.length = 28 ∧ gt s 0 = v_0 ∧ gt s 3 = .int .i64 0 ∧ H = H') (by simp only [↓runs, isCall, ↓reduceIte, ↓gd_true, ↓gd_false, evs, AV.cells, Nat.reduceEqDiff, Nat.reduceLT, reduceCtorEq, Nat.reduceAdd, sy, g0, g8, hl]) ?_
  rintro s _ ⟨hl, g0, g3, rfl⟩
  refine wpo_nil (then_n ?_)
  refine AM.wp_seq hp0 (AM.wp_seq hp0 (AM.wp_reg hp0 ?_))
  have f3 := fz_ln h_0
  refine wpo_seg hp0 3 (fun s H' => s.length = 28 ∧ gt s 3 = .int .i64 0 ∧ gt s 9 = v_0 ∧ gt s 10 = .int .i64 (p_.length : Int) ∧ gt s 11 = .int .i64 0 ∧ H = H') (by simp only [↓runs, isCall, ↓reduceIte, ↓gd_true, ↓gd_false, evs, AV.cells, Nat.reduceEqDiff, Nat.reduceLT, reduceCtorEq, Nat.reduceAdd, sy, f3, g0, g3, hl]) ?_
  rintro s _ ⟨hl, g3, g9, g10, g11, rfl⟩
  refine wpo_nil (then_n ?_)
  obtain ⟨z10, e11, hp⟩ := bn hp
  refine range_ref hp0 28 p_.length (fun k x => P_partition_Valid_l4 p_ k x) (fun _ x s H' => s.length = 28 ∧ gt s 3 = .int .i64 x ∧ gt s 9 = v_0 ∧ H = H') (fun _ x s H' => s.length = 28 ∧ H = H') e11 (fz_big h_0) rfl ?_ ?_ hl g11 g10 ?_ ?_
  ·intro k x s H d v hd h; rcases hd with rfl | rfl | rfl <;> simpa only [gt_other, pt_length, Nat.reduceEqDiff, not_false_eq_true] using h
  ·exact ⟨hl, g3, g9, rfl⟩
  ·intro k6 x5 y7 s H hk hI hl g11 g10 hy8 hx9
   change P_partition_Valid_l4 p_ k6 x5 = some y7 at hy8
   unfold P_partition_Valid_l4 at hy8
   obtain ⟨hl, g3, g9, rfl⟩ := hI
   refine AM.wp_seq hp0 (AM.wp_reg hp0 ?_)
   obtain ⟨x14, e15, hy8⟩ := bn hy8
   obtain ⟨p16, _, f18, f19, rfl⟩ := fz_at (k := .i64) hst h_0 e15 rfl
   refine wpo_seg hp0 3 (fun s H' => s.length = 28 ∧ gt s 3 = .int .i64 x5 ∧ gt s 5 = .int .i64 x14 ∧ gt s 9 = v_0 ∧ gt s 10 = .int .i64 (p_.length : Int) ∧ gt s 11 = .int .i64 (k6 : Int) ∧ H = H') (by simp only [↓runs, isCall, ↓reduceIte, ↓gd_true, ↓gd_false, evs, AV.cells, Nat.reduceEqDiff, Nat.reduceLT, reduceCtorEq, Nat.reduceAdd, sy, f18, f19, g3, g9, g10, g11, hl]) ?_
   rintro s _ ⟨hl, g3, g5, g9, g10, g11, rfl⟩
   refine wpo_nil (then_n ?_)
   refine AM.wp_seq hp0 (AM.wp_seq hp0 ?_)
   obtain ⟨z21, hj22, hy8⟩ := bn hy8
   refine AM.wp_regK hp0 (fun s H' => s.length = 28 ∧ gt s 21 = .bool z21 ∧ gt s 3 = .int .i64 x5 ∧ gt s 5 = .int .i64 x14 ∧ gt s 9 = v_0 ∧ gt s 10 = .int .i64 (p_.length : Int) ∧ gt s 11 = .int .i64 (k6 : Int) ∧ H = H') ?_ ?_
   ·rcases Bool.eq_false_or_eq_true (decide (x14 < 0)) with c23 | c23
    ·replace hj22 := ifT c23 hj22
     refine wpo_seg hp0 7 (fun s H' => s.length = 28 ∧ gt s 3 = .int .i64 x5 ∧ gt s 5 = .int .i64 x14 ∧ gt s 9 = v_0 ∧ gt s 10 = .int .i64 (p_.length : Int) ∧ gt s 11 = .int .i64 (k6 : Int) ∧ gt s 21 = .bool true ∧ H = H') (by simp only [↓runs, isCall, ↓reduceIte, ↓gd_true, ↓gd_false, evs, AV.cells, Nat.reduceEqDiff, Nat.reduceLT, reduceCtorEq, Nat.reduceAdd, sy, c23, g3, g5, g9, g10, g11, hl]) ?_
     rintro s _ ⟨hl, g3, g5, g9, g10, g11, g21, rfl⟩
     refine wpo_nil ?_
     obtain rfl := Option.some.inj hj22
     exact ⟨hl, g21, g3, g5, g9, g10, g11, rfl⟩
    ·replace hj22 := ifF c23 hj22
     refine wpo_seg hp0 7 (fun s H' => s.length = 28 ∧ gt s 3 = .int .i64 x5 ∧ gt s 5 = .int .i64 x14 ∧ gt s 9 = v_0 ∧ gt s 10 = .int .i64 (p_.length : Int) ∧ gt s 11 = .int .i64 (k6 : Int) ∧ gt s 21 = .bool (decide (x5 < x14)) ∧ H = H') (by simp only [↓runs, isCall, ↓reduceIte, ↓gd_true, ↓gd_false, evs, AV.cells, Nat.reduceEqDiff, Nat.reduceLT, reduceCtorEq, Nat.reduceAdd, sy, c23, g3, g5, g9, g10, g11, hl]) ?_
     rintro s _ ⟨hl, g3, g5, g9, g10, g11, g21, rfl⟩
     refine wpo_nil ?_
     obtain rfl := Option.some.inj hj22
     exact ⟨hl, g21, g3, g5, g9, g10, g11, rfl⟩
   ·rintro s _ ⟨hl, g21, g3, g5, g9, g10, g11, rfl⟩
    refine then_n ?_
    rcases Bool.eq_false_or_eq_true (z21) with c25 | c25
    ·replace hy8 := ifT c25 hy8
     refine AM.wp_condT (by simp only [ev_t, ev_c, g21, c25]) ?_
     refine AM.wp_seq hp0 (AM.wp_reg hp0 ?_)
     refine wpo_seg hp0 1 (fun s H' => s.length = 28 ∧ gt s 2 = .bool false ∧ H = H') (by simp only [↓runs, isCall, ↓reduceIte, ↓gd_true, ↓gd_false, evs, AV.cells, Nat.reduceEqDiff, Nat.reduceLT, reduceCtorEq, Nat.reduceAdd, sy, g3, g5, g9, g10, g11, g21, hl]) ?_
     rintro s _ ⟨hl, g2, rfl⟩
     refine wpo_nil (then_n ?_)
     refine AM.wp_ret ?_
     refine then_r ?_
     refine rnd_r ?_
     refine then_r ?_
     obtain rfl := Option.some.inj hy8
     have hx := hx9 _ rfl
     subst hx
     dsimp only at hp
     obtain rfl := Option.some.inj hp
     refine body_ret (vs := [.bool false]) (by simp only [rvs, f_partition_Valid, Option.map_some, g2]) ?_
     exact ⟨W, .refl _, hst, rfl⟩
    ·replace hy8 := ifF c25 hy8
     refine AM.wp_condF (by simp only [ev_t, ev_c, g21, c25]) ?_
     refine AM.wp_skip ?_
     refine then_n ?_
     refine AM.wp_seq hp0 (AM.wp_reg hp0 ?_)
     refine wpo_seg hp0 3 (fun s H' => s.length = 28 ∧ gt s 3 = .int .i64 x5 ∧ gt s 9 = v_0 ∧ gt s 10 = .int .i64 (p_.length : Int) ∧ gt s 11 = .int .i64 (k6 : Int) ∧ gt s 24 = .bool (decide (x14 = x5)) ∧ H = H') (by simp only [↓runs, isCall, ↓reduceIte, ↓gd_true, ↓gd_false, evs, AV.cells, Nat.reduceEqDiff, Nat.reduceLT, reduceCtorEq, Nat.reduceAdd, sy, g3, g5, g9, g10, g11, g21, hl]) ?_
     rintro s _ ⟨hl, g3, g9, g10, g11, g24, rfl⟩
     refine wpo_nil (then_n ?_)
     rcases Bool.eq_false_or_eq_true (decide (x14 = x5)) with c26 | c26
     ·replace hy8 := ifT c26 hy8
      refine AM.wp_condT (by simp only [ev_t, ev_c, g24, c26]) ?_
      refine AM.wp_reg hp0 ?_
      refine wpo_seg hp0 3 (fun s H' => s.length = 28 ∧ gt s 3 = .int .i64 (w64 (x5 + 1)) ∧ gt s 9 = v_0 ∧ gt s 10 = .int .i64 (p_.length : Int) ∧ gt s 11 = .int .i64 (k6 : Int) ∧ H = H') (by simp only [↓runs, isCall, ↓reduceIte, ↓gd_true, ↓gd_false, evs, AV.cells, Nat.reduceEqDiff, Nat.reduceLT, reduceCtorEq, Nat.reduceAdd, sy, g3, g9, g10, g11, g24, hl]) ?_
      rintro s _ ⟨hl, g3, g9, g10, g11, rfl⟩
      refine wpo_nil ?_
      refine rnd_n ?_
      obtain rfl := Option.some.inj hy8
      exact ⟨_, rfl, hl, g11, g10, ⟨hl, g3, g9, rfl⟩⟩
     ·replace hy8 := ifF c26 hy8
      refine AM.wp_condF (by simp only [ev_t, ev_c, g24, c26]) ?_
      refine AM.wp_skip ?_
      refine rnd_n ?_
      obtain rfl := Option.some.inj hy8
      exact ⟨_, rfl, hl, g11, g10, ⟨hl, g3, g9, rfl⟩⟩
  ·rintro x27 s Hn hz hI
   replace hI : (fun s H' => s.length = 28 ∧ H = H') s Hn := by
    rcases hI with ⟨hI, -⟩ | ⟨_, hI⟩
    ·obtain ⟨hl, g3, g9, e2⟩ := hI
     exact ⟨hl, e2⟩
    ·exact hI
   subst hz
   dsimp only at hp hI
   obtain ⟨hl, rfl⟩ := hI
   refine then_n ?_
   refine AM.wp_seq hp0 (AM.wp_reg hp0 ?_)
   refine wpo_seg hp0 1 (fun s H' => s.length = 28 ∧ gt s 2 = .bool true ∧ H = H') (by simp only [↓runs, isCall, ↓reduceIte, ↓gd_true, ↓gd_false, evs, AV.cells, Nat.reduceEqDiff, Nat.reduceLT, reduceCtorEq, Nat.reduceAdd, sy, hl]) ?_
   rintro s _ ⟨hl, g2, rfl⟩
   refine wpo_nil (then_n ?_)
   refine AM.wp_ret ?_
   obtain rfl := Option.some.inj hp
   refine body_ret (vs := [.bool true]) (by simp only [rvs, f_partition_Valid, Option.map_some, g2]) ?_
   exact ⟨W, .refl _, hst, rfl⟩

end Go.Proofs.Ytmdpejgnkoneoaa.Pu
set_option maxRecDepth 100000
set_option maxHeartbeats 4000000
namespace Go.Proofs.Ytmdpejgnkoneoaa.Pu
open Go Go.AM Go.Proofs.Ytmdpejgnkoneoaa.Code

noncomputable def P_partition_both (p_ : List Int) (q : List Int) : Option (Bool) :=
 Option.bind (
  if decide ((p_.length : Int) = (q.length : Int)) then
   Option.bind (P_partition_Valid p_) fun r6 =>
   if r6 then
    Option.bind (P_partition_Valid q) fun r11 =>
    some r11
   else
    some false
  else
   some false) fun z1 =>
 some z1
theorem R_partition_both {G : List Frag} {W H : AH} {v_0 v_1 : AV} {p_ : List Int} {q : List Int} (hst : St G W H) (h_0 : Rp.rv W v_0 p_) (h_1 : Rp.rv W v_1 q) {r : Bool} (hp : P_partition_both p_ q = some r) :
  wpc E0 N_partition_both [v_0, v_1] H fun rv H' => ∃ W', Wle W W' ∧ St G W' H' ∧ rv = .bool r := by
 refine enterN (F := f_partition_both) rfl (Nat.le_of_ble_eq_true rfl) fun s hl hg => ?_
 replace hl : s.length = 18 := hl
 have g0 : gt s 0 = v_0 := hg 0 (Nat.le_of_ble_eq_true rfl)
 have g1 : gt s 1 = v_1 := hg 1 (Nat.le_of_ble_eq_true rfl)
 clear hg
 unfold P_partition_both at hp
 show wp E0 c_partition_both s H _
 unfold c_partition_both
 refine AM.wp_seq hp0 (AM.wp_reg hp0 ?_)
 refine wpo_seg hp0 1 (fun s H' => s.length = 18 ∧ gt s 0 = v_0 ∧ gt s 1 = v_1 ∧ H = H') (by simp only [↓runs, isCall, ↓reduceIte, ↓gd_true, ↓gd_false, evs, AV.cells, Nat.reduceEqDiff, Nat.reduceLT, reduceCtorEq, Nat.reduceAdd, sy, g0, g1, hl]) ?_
 rintro s _ ⟨hl, g0, g1, rfl⟩
 refine wpo_nil (then_n ?_)
 refine AM.wp_seq hp0 ?_
 obtain ⟨z1, hj2, hp⟩ := bn hp
 refine AM.wp_regK hp0 (fun s H' => ∃ (W' : AH), s.length = 18 ∧ gt s 4 = .bool z1 ∧  Wle W W' ∧ St G W' H') ?_ ?_
 ·have f3 := fz_ln h_0
  have f4 := fz_ln h_1
  rcases Bool.eq_false_or_eq_true (decide ((p_.length : Int) = (q.length : Int))) with c5 | c5
  ·replace hj2 := ifT c5 hj2
   refine wpo_seg hp0 7 (fun s H' => s.length = 18 ∧ gt s 1 = v_1 ∧ gt s 10 = .bool true ∧ gt s 11 = v_0 ∧ H = H') (by simp only [↓runs, isCall, ↓reduceIte, ↓gd_true, ↓gd_false, evs, AV.cells, Nat.reduceEqDiff, Nat.reduceLT, reduceCtorEq, Nat.reduceAdd, sy, f3, f4, c5, g0, g1, hl]) ?_
   rintro s _ ⟨hl, g1, g10, g11, rfl⟩
   obtain ⟨r6, e7, hj2⟩ := bn hj2
   refine wpo_callK hp0 (by simp only [wanted, g10, beq_self_eq_true]) (ys := [v_0]) (by simp only [evs, List.map_cons, List.map_nil, ev_t, ev_c, g11]) (R_partition_Valid hst h_0 e7) ?_
   rintro rv8 H ⟨W, w9, hst, rfl⟩
   replace h_0 := Rp.mono w9 h_0
   replace h_1 := Rp.mono w9 h_1
   rcases Bool.eq_false_or_eq_true (r6) with c10 | c10
   ·replace hj2 := ifT c10 hj2
    refine wpo_seg hp0 3 (fun s H' => s.length = 18 ∧ gt s 14 = .bool true ∧ gt s 15 = v_1 ∧ H = H') (by simp only [↓runs, isCall, ↓reduceIte, ↓gd_true, ↓gd_false, evs, AV.cells, Nat.reduceEqDiff, Nat.reduceLT, reduceCtorEq, Nat.reduceAdd, sy, gt_other, c10, g1, g10, g11, hl]) ?_
    rintro s _ ⟨hl, g14, g15, rfl⟩
    obtain ⟨r11, e12, hj2⟩ := bn hj2
    refine wpo_callK hp0 (by simp only [wanted, g14, beq_self_eq_true]) (ys := [v_1]) (by simp only [evs, List.map_cons, List.map_nil, ev_t, ev_c, g15]) (R_partition_Valid hst h_1 e12) ?_
    rintro rv13 H ⟨W, w14, hst, rfl⟩
    replace h_0 := Rp.mono w14 h_0
    replace h_1 := Rp.mono w14 h_1
    refine wpo_seg hp0 2 (fun s H' => s.length = 18 ∧ gt s 4 = .bool r11 ∧ H = H') (by simp only [↓runs, isCall, ↓reduceIte, ↓gd_true, ↓gd_false, evs, AV.cells, Nat.reduceEqDiff, Nat.reduceLT, reduceCtorEq, Nat.reduceAdd, sy, gt_other, g14, g15, hl]) ?_
    rintro s _ ⟨hl, g4, rfl⟩
    refine wpo_nil ?_
    obtain rfl := Option.some.inj hj2
    exact ⟨W, hl, g4, (w9.trans w14), hst⟩
   ·replace hj2 := ifF c10 hj2
    refine wpo_seg hp0 6 (fun s H' => s.length = 18 ∧ gt s 4 = .bool false ∧ H = H') (by simp only [↓runs, isCall, ↓reduceIte, ↓gd_true, ↓gd_false, evs, AV.cells, Nat.reduceEqDiff, Nat.reduceLT, reduceCtorEq, Nat.reduceAdd, sy, gt_other, c10, g1, g10, g11, hl]) ?_
    rintro s _ ⟨hl, g4, rfl⟩
    refine wpo_nil ?_
    obtain rfl := Option.some.inj hj2
    exact ⟨W, hl, g4, w9, hst⟩
  ·replace hj2 := ifF c5 hj2
   refine wpo_seg hp0 14 (fun s H' => s.length = 18 ∧ gt s 4 = .bool false ∧ H = H') (by simp (maxSteps := 1000000) only [↓runs, isCall, ↓reduceIte, ↓gd_true, ↓gd_false, evs, AV.cells, Nat.reduceEqDiff, Nat.reduceLT, reduceCtorEq, Nat.reduceAdd, sy, f3, f4, c5, g0, g1, hl]) ?_
   rintro s _ ⟨hl, g4, rfl⟩
   refine wpo_nil ?_
   obtain rfl := Option.some.inj hj2
   exact ⟨W, hl, g4, .refl _, hst⟩
 ·rintro s H ⟨W, hl, g4, w15, hst⟩
  refine then_n ?_
  refine AM.wp_ret ?_
  obtain rfl := Option.some.inj hp
  refine body_ret (vs := [.bool z1]) (by simp only [rvs, f_partition_both, Option.map_some, g4]) ?_
  exact ⟨W, w15, hst, rfl⟩

end Go.Proofs.Ytmdpejgnkoneoaa.Pu
set_option maxRecDepth 100000
set_option maxHeartbeats 4000000
namespace Go.Proofs.Ytmdpejgnkoneoaa.Pu
open Go Go.AM Go.Proofs.Ytmdpejgnkoneoaa.Code

noncomputable def P_partition_Meet_l17 (p_ : List Int) (q : List Int) (k19 : Nat) (x18 : List Int) : Option ((List Int)) :=
 Option.bind (gi p_ (k19 : Int)) fun x29 =>
 Option.bind (gi q (k19 : Int)) fun x36 =>
 Option.bind (si x18 (k19 : Int) (w64 ((w64 (x29 * 4096)) + x36))) fun x43 =>
 some x43
noncomputable def P_partition_Meet (p_ : List Int) (q : List Int) : Option ((List Int)) :=
 Option.bind (P_partition_both p_ q) fun r1 =>
 if !r1 then
  some []
 else
  Option.bind (mkz (α := Int) 8 (p_.length : Int) (p_.length : Int) 0) fun x8 =>
  Option.bind (forS p_.length (fun k x => P_partition_Meet_l17 p_ q k x) x8) fun z23 =>
  Option.bind (P_partition_Canonical z23) fun r56 =>
  some r56
theorem R_partition_Meet {G : List Frag} {W H : AH} {v_0 v_1 : AV} {p_ : List Int} {q : List Int} (hst : St G W H) (h_0 : Rp.rv W v_0 p_) (h_1 : Rp.rv W v_1 q) {r : (List Int)} (hp : P_partition_Meet p_ q = some r) :
  wpc E0 N_partition_Meet [v_0, v_1] H fun rv H' => ∃ W', Wle W W' ∧ ∃ (g0 : Frag), St (g0 :: G) W' H' ∧ OwS W' rv g0 (r : List Int) := by
 refine enterN (F := f_partition_Meet) rfl (Nat.le_of_ble_eq_true rfl) fun s hl hg => ?_
 replace hl : s.length = 35 := hl
 have g0 : gt s 0 = v_0 := hg 0 (Nat.le_of_ble_eq_true rfl)
 have g1 : gt s 1 = v_1 := hg 1 (Nat.le_of_ble_eq_true rfl)
 clear hg
 unfold P_partition_Meet at hp
 show wp E0 c_partition_Meet s H _
 unfold c_partition_Meet
 refine AM.wp_seq hp0 (AM.wp_reg hp0 ?_)
 refine wpo_seg hp0 1 (fun s H' => s.length = 35 ∧ gt s 0 = v_0 ∧ gt s 1 = v_1 ∧ H = H') (by simp only [↓runs, isCall, ↓reduceIte, ↓gd_true, ↓gd_false, evs, AV.cells, Nat.reduceEqDiff, Nat.reduceLT, reduceCtorEq, Nat.reduceAdd, sy, g0, g1, hl]) ?_
 rintro s _ ⟨hl, g0, g1, rfl⟩
 refine wpo_nil (then_n ?_)
 refine AM.wp_seq hp0 (AM.wp_seq hp0 (AM.wp_reg hp0 ?_))
 refine wpo_seg hp0 2 (fun s H' => s.length = 35 ∧ gt s 0 = v_0 ∧ gt s 1 = v_1 ∧ gt s 7 = v_0 ∧ gt s 8 = v_1 ∧ H = H') (by simp only [↓runs, isCall, ↓reduceIte, ↓gd_true, ↓gd_false, evs, AV.cells, Nat.reduceEqDiff, Nat.reduceLT, reduceCtorEq, Nat.reduceAdd, sy, g0, g1, hl]) ?_
 rintro s _ ⟨hl, g0, g1, g7, g8, rfl⟩
 obtain ⟨r1, e2, hp⟩ := bn hp
 refine wpo_callK hp0 rfl (ys := [v_0, v_1]) (by simp only [evs, List.map_cons, List.map_nil, ev_t, ev_c, g7, g8]) (R_partition_both hst h_0 h_1 e2) ?_
 rintro rv3 H ⟨W, w4, hst, rfl⟩
 replace h_0 := Rp.mono w4 h_0
 replace h_1 := Rp.mono w4 h_1
 refine wpo_seg hp0 1 (fun s H' => s.length = 35 ∧ gt s 0 = v_0 ∧ gt s 1 = v_1 ∧ gt s 10 = .bool (!r1) ∧ H = H') (by simp only [↓runs, isCall, ↓reduceIte, ↓gd_true, ↓gd_false, evs, AV.cells, Nat.reduceEqDiff, Nat.reduceLT, reduceCtorEq, Nat.reduceAdd, sy, gt_other, g0, g1, g7, g8, hl]) ?_
 rintro s _ ⟨hl, g0, g1, g10, rfl⟩
 refine wpo_nil (then_n ?_)
 rcases Bool.eq_false_or_eq_true (!r1) with c5 | c5
 ·replace hp := ifT c5 hp
  refine AM.wp_condT (by simp only [ev_t, ev_c, g10, c5]) ?_
  refine AM.wp_seq hp0 (AM.wp_reg hp0 ?_)
  refine wpo_seg hp0 1 (fun s H' => s.length = 35 ∧ gt s 4 = .nils ∧ H = H') (by simp only [↓runs, isCall, ↓reduceIte, ↓gd_true, ↓gd_false, evs, AV.cells, Nat.reduceEqDiff, Nat.reduceLT, reduceCtorEq, Nat.reduceAdd, sy, g0, g1, g10, hl]) ?_
  rintro s _ ⟨hl, g4, rfl⟩
  refine wpo_nil (then_n ?_)
  refine AM.wp_ret ?_
  refine then_r ?_
  replace hst := hst.nil
  have o6 := ow_nil (α := Int) W
  obtain rfl := Option.some.inj hp
  refine body_ret (vs := [.nils]) (by simp only [rvs, f_partition_Meet, Option.map_some, g4]) ?_
  exact ⟨W, w4, _, hst, o6⟩
 ·replace hp := ifF c5 hp
  refine AM.wp_condF (by simp only [ev_t, ev_c, g10, c5]) ?_
  refine AM.wp_skip ?_
  refine then_n ?_
  refine AM.wp_seq hp0 (AM.wp_reg hp0 ?_)
  have f7 := fz_ln h_0
  obtain ⟨x8, e9, hp⟩ := bn hp
  obtain ⟨v10, H11, fg12, W, f14, w13, hst, o15⟩ := ow_mk (kn := .i64) (kc := .i64) hst (show Rp.rv _ (.int .i64 0) (0 : Int) from rfl) [.int .i64 0] rfl e9
  replace h_0 := Rp.mono w13 h_0
  replace h_1 := Rp.mono w13 h_1
  refine wpo_seg hp0 4 (fun s H' => s.length = 35 ∧ gt s 0 = v_0 ∧ gt s 1 = v_1 ∧ gt s 5 = v10 ∧ H11 = H') (by simp only [↓runs, isCall, ↓reduceIte, ↓gd_true, ↓gd_false, evs, AV.cells, Nat.reduceEqDiff, Nat.reduceLT, reduceCtorEq, Nat.reduceAdd, sy, f7, f14, g0, g1, g10, hl]) ?_
  rintro s _ ⟨hl, g0, g1, g5, rfl⟩
  refine wpo_nil (then_n ?_)
  refine AM.wp_seq hp0 (AM.wp_seq hp0 (AM.wp_reg hp0 ?_))
  have f16 := fz_ln h_0
  refine wpo_seg hp0 3 (fun s H' => s.length = 35 ∧ gt s 0 = v_0 ∧ gt s 1 = v_1 ∧ gt s 5 = v10 ∧ gt s 15 = .int .i64 (p_.length : Int) ∧ gt s 16 = .int .i64 0 ∧ H11 = H') (by simp only [↓runs, isCall, ↓reduceIte, ↓gd_true, ↓gd_false, evs, AV.cells, Nat.reduceEqDiff, Nat.reduceLT, reduceCtorEq, Nat.reduceAdd, sy, f16, g0, g1, g5, hl]) ?_
  rintro s _ ⟨hl, g0, g1, g5, g15, g16, rfl⟩
  refine wpo_nil (then_n ?_)
  obtain ⟨z23, e24, hp⟩ := bn hp
  refine rangeS_ref hp0 35 p_.length (fun k x => P_partition_Meet_l17 p_ q k x) (fun _ x s H' => ∃ (W' : AH) (qo2 : Frag), s.length = 35 ∧ gt s 0 = v_0 ∧ gt s 1 = v_1 ∧ gt s 5 = v10 ∧  Wle W W' ∧ St (qo2 :: G) W' H' ∧ OwS W' v10 qo2 (x : List Int)) e24 (fz_big h_0) rfl ?_ ?_ hl g16 g15 ?_ ?_
  ·intro k x s H d v hd h; rcases hd with rfl | rfl | rfl <;> simpa only [gt_other, pt_length, Nat.reduceEqDiff, not_false_eq_true] using h
  ·exact ⟨W, _, hl, g0, g1, g5, .refl _, hst, o15⟩
  ·intro k19 x18 y20 s H hk hI hl g16 g15 hy21
   change P_partition_Meet_l17 p_ q k19 x18 = some y20 at hy21
   unfold P_partition_Meet_l17 at hy21
   obtain ⟨W, fg27, hl, g0, g1, g5, w26, hst, o28⟩ := hI
   replace h_0 := Rp.mono w26 h_0
   replace h_1 := Rp.mono w26 h_1
   refine AM.wp_seq hp0 (AM.wp_reg hp0 ?_)
   refine wpo_seg hp0 2 (fun s H' => s.length = 35 ∧ gt s 0 = v_0 ∧ gt s 1 = v_1 ∧ gt s 5 = v10 ∧ gt s 6 = .int .i64 (k19 : Int) ∧ gt s 15 = .int .i64 (p_.length : Int) ∧ gt s 16 = .int .i64 (k19 : Int) ∧ H = H') (by simp only [↓runs, isCall, ↓reduceIte, ↓gd_true, ↓gd_false, evs, AV.cells, Nat.reduceEqDiff, Nat.reduceLT, reduceCtorEq, Nat.reduceAdd, sy, g0, g1, g5, g15, g16, hl]) ?_
   rintro s _ ⟨hl, g0, g1, g5, g6, g15, g16, rfl⟩
   refine wpo_nil (then_n ?_)
   refine AM.wp_reg hp0 ?_
   obtain ⟨x29, e30, hy21⟩ := bn hy21
   obtain ⟨p31, _, f33, f34, rfl⟩ := fz_at (k := .i64) hst h_0 e30 rfl
   obtain ⟨x36, e37, hy21⟩ := bn hy21
   obtain ⟨p38, _, f40, f41, rfl⟩ := fz_at (k := .i64) hst h_1 e37 rfl
   obtain ⟨x43, e44, hy21⟩ := bn hy21
   obtain ⟨p45, H46, fg47, f48, f49, hst, o50⟩ := ow_set (k := .i64) 1 rfl hst o28 (show Rp.rv W (.int .i64 (w64 ((w64 (x29 * 4096)) + x36))) (w64 ((w64 (x29 * 4096)) + x36) : Int) from rfl) e44
   refine wpo_seg hp0 14 (fun s H' => s.length = 35 ∧ gt s 0 = v_0 ∧ gt s 1 = v_1 ∧ gt s 5 = v10 ∧ gt s 15 = .int .i64 (p_.length : Int) ∧ gt s 16 = .int .i64 (k19 : Int) ∧ H46 = H') (by simp (maxSteps := 1000000) only [↓runs, isCall, ↓reduceIte, ↓gd_true, ↓gd_false, evs, AV.cells, Nat.reduceEqDiff, Nat.reduceLT, reduceCtorEq, Nat.reduceAdd, sy, f33, f34, f40, f41, f48, f49, g0, g1, g5, g6, g15, g16, hl]) ?_
   rintro s _ ⟨hl, g0, g1, g5, g15, g16, rfl⟩
   refine wpo_nil ?_
   refine rnd_n ?_
   obtain rfl := Option.some.inj hy21
   exact ⟨hl, g16, g15, ⟨W, _, hl, g0, g1, g5, w26, hst, o50⟩⟩
  ·rintro s H hI _
   obtain ⟨W, fg52, hl, g0, g1, g5, w51, hst, o53⟩ := hI
   replace h_0 := Rp.mono w51 h_0
   replace h_1 := Rp.mono w51 h_1
   refine then_n ?_
   refine AM.wp_seq hp0 (AM.wp_reg hp0 ?_)
   refine wpo_seg hp0 1 (fun s H' => s.length = 35 ∧ gt s 33 = v10 ∧ H = H') (by simp only [↓runs, isCall, ↓reduceIte, ↓gd_true, ↓gd_false, evs, AV.cells, Nat.reduceEqDiff, Nat.reduceLT, reduceCtorEq, Nat.reduceAdd, sy, g0, g1, g5, hl]) ?_
   rintro s _ ⟨hl, g33, rfl⟩
   obtain ⟨W, w55, hst, h54⟩ := ow_frz hst o53
   obtain ⟨r56, e57, hp⟩ := bn hp
   refine wpo_callK hp0 rfl (ys := [v10]) (by simp only [evs, List.map_cons, List.map_nil, ev_t, ev_c, g33]) (R_partition_Canonical hst h54 e57) ?_
   rintro rv58 H ⟨W, w59, fg60, hst, o61⟩
   replace h54 := Rp.mono w59 h54
   refine wpo_seg hp0 1 (fun s H' => s.length = 35 ∧ gt s 4 = rv58 ∧ H = H') (by simp only [↓runs, isCall, ↓reduceIte, ↓gd_true, ↓gd_false, evs, AV.cells, Nat.reduceEqDiff, Nat.reduceLT, reduceCtorEq, Nat.reduceAdd, sy, gt_other, g33, hl]) ?_
   rintro s _ ⟨hl, g4, rfl⟩
   refine wpo_nil (then_n ?_)
   refine AM.wp_ret ?_
   obtain rfl := Option.some.inj hp
   refine body_ret (vs := [rv58]) (by simp only [rvs, f_partition_Meet, Option.map_some, g4]) ?_
   exact ⟨W, ((((w4.trans w13).trans w51).trans w55).trans w59), _, hst, o61⟩

end Go.Proofs.Ytmdpejgnkoneoaa.Pu
set_option maxRecDepth 100000
set_option maxHeartbeats 4000000
namespace Go.Proofs.Ytmdpejgnkoneoaa.Pu
open Go Go.AM Go.Proofs.Ytmdpejgnkoneoaa.Code

noncomputable def P_partition_Count_l7 (p_ : List Int) (k9 : Nat) (x8 : Int) : Option (Int) :=
 Option.bind (gi p_ (k9 : Int)) fun x18 =>
 some (if w64 (x18 + 1) > x8 then w64 (x18 + 1) else x8)
noncomputable def P_partition_Count (p_ : List Int) : Option (Int) :=
 Option.bind (P_partition_Valid p_) fun r1 =>
 if !r1 then
  some 0
 else
  Option.bind (forS p_.length (fun k x => P_partition_Count_l7 p_ k x) 0) fun z13 =>
  some z13
theorem R_partition_Count {G : List Frag} {W H : AH} {v_0 : AV} {p_ : List Int} (hst : St G W H) (h_0 : Rp.rv W v_0 p_) {r : Int} (hp : P_partition_Count p_ = some r) :
  wpc E0 N_partition_Count [v_0] H fun rv H' => ∃ W', Wle W W' ∧ St G W' H' ∧ rv = .int .i64 r := by
 refine enterN (F := f_partition_Count) rfl (Nat.le_of_ble_eq_true rfl) fun s hl hg => ?_
 replace hl : s.length = 21 := hl
 have g0 : gt s 0 = v_0 := hg 0 (Nat.le_of_ble_eq_true rfl)
 clear hg
 unfold P_partition_Count at hp
 show wp E0 c_partition_Count s H _
 unfold c_partition_Count
 refine AM.wp_seq hp0 (AM.wp_reg hp0 ?_)
 refine wpo_seg hp0 1 (fun s H' => s.length = 21 ∧ gt s 0 = v_0 ∧ H = H') (by simp only [↓runs, isCall, ↓reduceIte, ↓gd_true, ↓gd_false, evs, AV.cells, Nat.reduceEqDiff, Nat.reduceLT, reduceCtorEq, Nat.reduceAdd, sy, g0, hl]) ?_
 rintro s _ ⟨hl, g0, rfl⟩
 refine wpo_nil (then_n ?_)
 refine AM.wp_seq hp0 (AM.wp_seq hp0 (AM.wp_reg hp0 ?_))
 refine wpo_seg hp0 1 (fun s H' => s.length = 21 ∧ gt s 0 = v_0 ∧ gt s 6 = v_0 ∧ H = H') (by simp only [↓runs, isCall, ↓reduceIte, ↓gd_true, ↓gd_false, evs, AV.cells, Nat.reduceEqDiff, Nat.reduceLT, reduceCtorEq, Nat.reduceAdd, sy, g0, hl]) ?_
 rintro s _ ⟨hl, g0, g6, rfl⟩
 obtain ⟨r1, e2, hp⟩ := bn hp
 refine wpo_callK hp0 rfl (ys := [v_0]) (by simp only [evs, List.map_cons, List.map_nil, ev_t, ev_c, g6]) (R_partition_Valid hst h_0 e2) ?_
 rintro rv3 H ⟨W, w4, hst, rfl⟩
 replace h_0 := Rp.mono w4 h_0
 refine wpo_seg hp0 1 (fun s H' => s.length = 21 ∧ gt s 0 = v_0 ∧ gt s 8 = .bool (!r1) ∧ H = H') (by simp only [↓runs, isCall, ↓reduceIte, ↓gd_true, ↓gd_false, evs, AV.cells, Nat.reduceEqDiff, Nat.reduceLT, reduceCtorEq, Nat.reduceAdd, sy, gt_other, g0, g6, hl]) ?_
 rintro s _ ⟨hl, g0, g8, rfl⟩
 refine wpo_nil (then_n ?_)
 rcases Bool.eq_false_or_eq_true (!r1) with c5 | c5
 ·replace hp := ifT c5 hp
  refine AM.wp_condT (by simp only [ev_t, ev_c, g8, c5]) ?_
  refine AM.wp_seq hp0 (AM.wp_reg hp0 ?_)
  refine wpo_seg hp0 1 (fun s H' => s.length = 21 ∧ gt s 2 = .int .i64 0 ∧ H = H') (by simp only [↓runs, isCall, ↓reduceIte, ↓gd_true, ↓gd_false, evs, AV.cells, Nat.reduceEqDiff, Nat.reduceLT, reduceCtorEq, Nat.reduceAdd, sy, g0, g8, hl]) ?_
  rintro s _ ⟨hl, g2, rfl⟩
  refine wpo_nil (then_n ?_)
  refine AM.wp_ret ?_
  refine then_r ?_
  obtain rfl := Option.some.inj hp
  refine body_ret (vs := [.int .i64 0]) (by simp only [rvs, f_partition_Count, Option.map_some, g2]) ?_
  exact ⟨W, w4, hst, rfl⟩
 ·replace hp := ifF c5 hp
  refine AM.wp_condF (by simp only [ev_t, ev_c, g8, c5]) ?_
  refine AM.wp_skip ?_
  refine then_n ?_
  refine AM.wp_seq hp0 (AM.wp_reg hp0 ?_)
  refine wpo_seg hp0 1 (fun s H' => s.length = 21 ∧ gt s 0 = v_0 ∧ gt s 3 = .int .i64 0 ∧ H = H') (by simp only [↓runs, isCall, ↓reduceIte, ↓gd_true, ↓gd_false, evs, AV.cells, Nat.reduceEqDiff, Nat.reduceLT, reduceCtorEq, Nat.reduceAdd, sy, g0, g8, hl]) ?_
  rintro s _ ⟨hl, g0, g3, rfl⟩
  refine wpo_nil (then_n ?_)
  refine AM.wp_seq hp0 (AM.wp_seq hp0 (AM.wp_reg hp0 ?_))
  have f6 := fz_ln h_0
  refine wpo_seg hp0 3 (fun s H' => s.length = 21 ∧ gt s 3 = .int .i64 0 ∧ gt s 9 = v_0 ∧ gt s 10 = .int .i64 (p_.length : Int) ∧ gt s 11 = .int .i64 0 ∧ H = H') (by simp only [↓runs, isCall, ↓reduceIte, ↓gd_true, ↓gd_false, evs, AV.cells, Nat.reduceEqDiff, Nat.reduceLT, reduceCtorEq, Nat.reduceAdd, sy, f6, g0, g3, hl]) ?_
  rintro s _ ⟨hl, g3, g9, g10, g11, rfl⟩
  refine wpo_nil (then_n ?_)
  obtain ⟨z13, e14, hp⟩ := bn hp
  refine rangeS_ref hp0 21 p_.length (fun k x => P_partition_Count_l7 p_ k x) (fun _ x s H' => s.length = 21 ∧ gt s 3 = .int .i64 x ∧ gt s 9 = v_0 ∧ H = H') e14 (fz_big h_0) rfl ?_ ?_ hl g11 g10 ?_ ?_
  ·intro k x s H d v hd h; rcases hd with rfl | rfl | rfl <;> simpa only [gt_other, pt_length, Nat.reduceEqDiff, not_false_eq_true] using h
  ·exact ⟨hl, g3, g9, rfl⟩
  ·intro k9 x8 y10 s H hk hI hl g11 g10 hy11
   change P_partition_Count_l7 p_ k9 x8 = some y10 at hy11
   unfold P_partition_Count_l7 at hy11
   obtain ⟨hl, g3, g9, rfl⟩ := hI
   refine AM.wp_seq hp0 (AM.wp_reg hp0 ?_)
   obtain ⟨x18, e19, hy11⟩ := bn hy11
   obtain ⟨p20, _, f22, f23, rfl⟩ := fz_at (k := .i64) hst h_0 e19 rfl
   refine wpo_seg hp0 3 (fun s H' => s.length = 21 ∧ gt s 3 = .int .i64 x8 ∧ gt s 5 = .int .i64 x18 ∧ gt s 9 = v_0 ∧ gt s 10 = .int .i64 (p_.length : Int) ∧ gt s 11 = .int .i64 (k9 : Int) ∧ H = H') (by simp only [↓runs, isCall, ↓reduceIte, ↓gd_true, ↓gd_false, evs, AV.cells, Nat.reduceEqDiff, Nat.reduceLT, reduceCtorEq, Nat.reduceAdd, sy, f22, f23, g3, g9, g10, g11, hl]) ?_
   rintro s _ ⟨hl, g3, g5, g9, g10, g11, rfl⟩
   refine wpo_nil (then_n ?_)
   refine AM.wp_reg hp0 ?_
   refine wpo_seg hp0 5 (fun s H' => s.length = 21 ∧ gt s 3 = .int .i64 (if w64 (x18 + 1) > x8 then w64 (x18 + 1) else x8) ∧ gt s 9 = v_0 ∧ gt s 10 = .int .i64 (p_.length : Int) ∧ gt s 11 = .int .i64 (k9 : Int) ∧ H = H') (by simp only [↓runs, isCall, ↓reduceIte, ↓gd_true, ↓gd_false, evs, AV.cells, Nat.reduceEqDiff, Nat.reduceLT, reduceCtorEq, Nat.reduceAdd, sy, g3, g5, g9, g10, g11, hl]) ?_
   rintro s _ ⟨hl, g3, g9, g10, g11, rfl⟩
   refine wpo_nil ?_
   refine rnd_n ?_
   obtain rfl := Option.some.inj hy11
   exact ⟨hl, g11, g10, ⟨hl, g3, g9, rfl⟩⟩
  ·rintro s H hI _
   obtain ⟨hl, g3, g9, rfl⟩ := hI
   refine then_n ?_
   refine AM.wp_seq hp0 (AM.wp_reg hp0 ?_)
   refine wpo_seg hp0 2 (fun s H' => s.length = 21 ∧ gt s 2 = .int .i64 z13 ∧ H = H') (by simp only [↓runs, isCall, ↓reduceIte, ↓gd_true, ↓gd_false, evs, AV.cells, Nat.reduceEqDiff, Nat.reduceLT, reduceCtorEq, Nat.reduceAdd, sy, g3, g9, hl]) ?_
   rintro s _ ⟨hl, g2, rfl⟩
   refine wpo_nil (then_n ?_)
   refine AM.wp_ret ?_
   obtain rfl := Option.some.inj hp
   refine body_ret (vs := [.int .i64 z13]) (by simp only [rvs, f_partition_Count, Option.map_some, g2]) ?_
   exact ⟨W, w4, hst, rfl⟩

end Go.Proofs.Ytmdpejgnkoneoaa.Pu
set_option maxRecDepth 100000
set_option maxHeartbeats 4000000
namespace Go.Proofs.Ytmdpejgnkoneoaa.Pu
open Go Go.AM Go.Proofs.Ytmdpejgnkoneoaa.Code

noncomputable def P_subdirect_discrete (p_ : List Int) : Option (Bool) :=
 Option.bind (P_partition_Count p_) fun r1 =>
 some (decide (r1 = (p_.length : Int)))
theorem R_subdirect_discrete {G : List Frag} {W H : AH} {v_0 : AV} {p_ : List Int} (hst : St G W H) (h_0 : Rp.rv W v_0 p_) {r : Bool} (hp : P_subdirect_discrete p_ = some r) :
  wpc E0 N_subdirect_discrete [v_0] H fun rv H' => ∃ W', Wle W W' ∧ St G W' H' ∧ rv = .bool r := by
 refine enterN (F := f_subdirect_discrete) rfl (Nat.le_of_ble_eq_true rfl) fun s hl hg => ?_
 replace hl : s.length = 8 := hl
 have g0 : gt s 0 = v_0 := hg 0 (Nat.le_of_ble_eq_true rfl)
 clear hg
 unfold P_subdirect_discrete at hp
 show wp E0 c_subdirect_discrete s H _
 unfold c_subdirect_discrete
 refine AM.wp_seq hp0 (AM.wp_reg hp0 ?_)
 refine wpo_seg hp0 1 (fun s H' => s.length = 8 ∧ gt s 0 = v_0 ∧ H = H') (by simp only [↓runs, isCall, ↓reduceIte, ↓gd_true, ↓gd_false, evs, AV.cells, Nat.reduceEqDiff, Nat.reduceLT, reduceCtorEq, Nat.reduceAdd, sy, g0, hl]) ?_
 rintro s _ ⟨hl, g0, rfl⟩
 refine wpo_nil (then_n ?_)
 refine AM.wp_seq hp0 (AM.wp_reg hp0 ?_)
 refine wpo_seg hp0 1 (fun s H' => s.length = 8 ∧ gt s 0 = v_0 ∧ gt s 3 = v_0 ∧ H = H') (by simp only [↓runs, isCall, ↓reduceIte, ↓gd_true, ↓gd_false, evs, AV.cells, Nat.reduceEqDiff, Nat.reduceLT, reduceCtorEq, Nat.reduceAdd, sy, g0, hl]) ?_
 rintro s _ ⟨hl, g0, g3, rfl⟩
 obtain ⟨r1, e2, hp⟩ := bn hp
 refine wpo_callK hp0 rfl (ys := [v_0]) (by simp only [evs, List.map_cons, List.map_nil, ev_t, ev_c, g3]) (R_partition_Count hst h_0 e2) ?_
 rintro rv3 H ⟨W, w4, hst, rfl⟩
 replace h_0 := Rp.mono w4 h_0
 have f5 := fz_ln h_0
 refine wpo_seg hp0 4 (fun s H' => s.length = 8 ∧ gt s 2 = .bool (decide (r1 = (p_.length : Int))) ∧ H = H') (by simp only [↓runs, isCall, ↓reduceIte, ↓gd_true, ↓gd_false, evs, AV.cells, Nat.reduceEqDiff, Nat.reduceLT, reduceCtorEq, Nat.reduceAdd, sy, gt_other, f5, g0, g3, hl]) ?_
 rintro s _ ⟨hl, g2, rfl⟩
 refine wpo_nil (then_n ?_)
 refine AM.wp_ret ?_
 obtain rfl := Option.some.inj hp
 refine body_ret (vs := [.bool (decide (r1 = (p_.length : Int)))]) (by simp only [rvs, f_subdirect_discrete, Option.map_some, g2]) ?_
 exact ⟨W, w4, hst, rfl⟩

end Go.Proofs.Ytmdpejgnkoneoaa.Pu
namespace Go.Proofs.Ytmdpejgnkoneoaa.Mt
open Go Go.AM Go.AM.Par Go.Proofs.Ytmdpejgnkoneoaa.Pu

def Num (L : List Int) (k : Nat) (M : List (Int × Int)) : Prop := M.length = (nub (L.take k)).length ∧ ∀ v, mget M v = if v ∈ nub (L.take k) then some ((nub (L.take k)).idxOf v : Int) else none
theorem Num.zero (L : List Int) : Num L 0 [] := ⟨by simp [nub], fun v => by simp [nub, mget]⟩
theorem Num.old {L : List Int} {k : Nat} {M : List (Int × Int)} (h : Num L k M) (hk : k < L.length) (hn : ¬ isNew L k) : Num L (k + 1) M := by
  unfold Num; rw [nub_old hk hn]; exact h
theorem Num.new {L : List Int} {k : Nat} {M : List (Int × Int)} (h : Num L k M) (hk : k < L.length) (hn : isNew L k) : Num L (k + 1) (mput M (L.getD k 0) (M.length : Int)) := by
  have hnot := (new_iff hk).2 hn
  unfold Num
  rw [nub_new hk hn]
  refine ⟨by rw [mput_len_new (by rw [h.2, if_neg hnot]), h.1]; simp, fun v => ?_⟩
  rw [mget_mput, h.2, h.1]
  by_cases e : L.getD k 0 = v
  · subst e
    simp only [beq_self_eq_true, if_true]
    rw [if_pos (by simp), List.idxOf_append, if_neg hnot]
    simp
  · have e1 : (L.getD k 0 == v) = false := by simpa using e
    rw [e1]
    simp only [Bool.false_eq_true, if_false, List.mem_append, List.mem_singleton]
    by_cases hv : v ∈ nub (L.take k)
    · rw [if_pos hv, if_pos (.inl hv), List.idxOf_append, if_pos hv]
    · rw [if_neg hv, if_neg]
      rintro (h1 | h1)
      · exact hv h1
      · exact e h1.symm

theorem canonical (L : List Int) (h : L.length ≤ 4096) : P_partition_Canonical L = some (canonI L) := by
  unfold P_partition_Canonical
  rw [if_neg (by simp; omega), mkz_ok (by omega) (by omega)]
  simp only [Option.bind_some]
  obtain ⟨y, hy, h1, h2, h3⟩ := forS_inv (n := L.length) (f := fun k x => P_partition_Canonical_l21 L k x.1 x.2) (x := (List.replicate L.length 0, []))
    (fun k x => x.1.length = L.length ∧ (∀ i, i < k → x.1.getD i 0 = (canonI L).getD i 0) ∧ Num L k x.2) ⟨by simp, fun i hi => by omega, .zero L⟩ (by
      rintro k ⟨X, M⟩ hk ⟨h1, h2, h3⟩
      dsimp only at h1 h2 h3 ⊢
      unfold P_partition_Canonical_l21
      rw [gi_lt 0 hk]
      simp only [Option.bind_some, h3.2]
      have ext : ∀ v : Int, v = (canonI L).getD k 0 → ∀ i, i < k + 1 → (X.set k v).getD i 0 = (canonI L).getD i 0 := fun v hv i hi => by
        rw [getD_set']
        split
        · rename_i e; rw [hv, e.1]
        · rename_i e
          exact h2 i (by
            rcases Nat.lt_or_ge i k with h | h
            · exact h
            · exact absurd ⟨by omega, by omega⟩ e)
      by_cases hn : isNew L k
      · have hnot := (new_iff hk).2 hn
        rw [if_neg hnot]
        simp only [Option.isSome_none, Bool.not_false, if_true]
        rw [si_lt (by omega)]
        refine ⟨_, rfl, by simpa using h1, ext _ ?_, h3.new hk hn⟩
        rw [canonI_new hk hn, h3.1]
      · have hin : L.getD k 0 ∈ nub (L.take k) := Classical.not_not.1 fun h => hn ((new_iff hk).1 h)
        rw [if_pos hin]
        simp only [Option.isSome_some, Bool.not_true, Bool.false_eq_true, if_false, Option.getD_some]
        rw [si_lt (by omega)]
        refine ⟨_, rfl, by simpa using h1, ext _ ?_, h3.old hk hn⟩
        rw [canonI_at hk, ← idx_stay L.length k (by omega) (Nat.le_refl _) hin, List.take_length])
  rw [hy]
  simp only [Option.bind_some, Option.some.injEq]
  exact list_ext 0 (by simp [h1]) fun i hi => h2 i (by omega)

theorem valid (L : List Int) : P_partition_Valid L = some (validP L) := by
  unfold P_partition_Valid
  by_cases h : 4096 < L.length
  · have : validP L = false := by unfold validP; simp; omega
    rw [if_pos (by simp; omega), this]
  · rw [if_neg (by simp; omega)]
    have hv : validP L = rgGo L 0 := by unfold validP; simp; omega
    rw [hv]
    obtain ⟨y, hy, hQ⟩ := forR_inv (n := L.length) (f := fun k x => P_partition_Valid_l4 L k x) (x := 0) (fun k x => ∃ m : Nat, x = m ∧ m ≤ k ∧ rgGo L 0 = rgGo (L.drop k) m)
      (fun y => match y with | .inl _ => rgGo L 0 = true | .inr b => rgGo L 0 = b) ⟨0, rfl, Nat.le_refl _, rfl⟩ (by
        rintro k x hk ⟨m, rfl, hm, hr⟩
        rw [drop_getD hk] at hr
        simp only [rgGo] at hr
        unfold P_partition_Valid_l4
        rw [gi_lt 0 hk]
        simp only [Option.bind_some]
        by_cases h0 : L.getD k 0 < 0
        · rw [if_pos h0] at hr
          exact .inr (.inr ⟨false, by simp only [h0, Option.bind_some, Option.bind_none, decide_true, decide_false, Bool.not_true, Bool.not_false, Bool.true_and, Bool.and_true, Bool.false_eq_true, if_true, if_false, not_true_eq_false, not_false_eq_true, ite_true, ite_false, Bool.not_eq_true, decide_eq_true_eq, decide_eq_false_iff_not, Bool.not_eq_true', Bool.not_eq_false', Option.getD_some, Option.getD_none, Option.isSome_some, Option.isSome_none, Option.isNone_some, Option.isNone_none, eq_self, forall_const, true_implies, false_implies, implies_true], hr⟩)
        · rw [if_neg h0] at hr
          by_cases h1 : (m : Int) < L.getD k 0
          · rw [if_pos h1] at hr
            exact .inr (.inr ⟨false, by simp only [h0, h1, Option.bind_some, Option.bind_none, decide_true, decide_false, Bool.not_true, Bool.not_false, Bool.true_and, Bool.and_true, Bool.false_eq_true, if_true, if_false, not_true_eq_false, not_false_eq_true, ite_true, ite_false, Bool.not_eq_true, decide_eq_true_eq, decide_eq_false_iff_not, Bool.not_eq_true', Bool.not_eq_false', Option.getD_some, Option.getD_none, Option.isSome_some, Option.isSome_none, Option.isNone_some, Option.isNone_none, eq_self, forall_const, true_implies, false_implies, implies_true], hr⟩)
          · rw [if_neg h1] at hr
            left
            by_cases h2 : L.getD k 0 = (m : Int)
            · rw [if_pos h2] at hr
              refine ⟨((m + 1 : Nat) : Int), ?_, m + 1, rfl, by omega, hr⟩
              have : w64 ((m : Int) + 1) = ((m + 1 : Nat) : Int) := by rw [w64_id (by omega) (by omega)]; simp
              have a1 : ¬ (m : Int) < 0 := by omega
              simp only [h2, this, a1, Int.lt_irrefl, Option.bind_some, Option.bind_none, decide_true, decide_false, Bool.not_true, Bool.not_false, Bool.true_and, Bool.and_true, Bool.false_eq_true, if_true, if_false, not_true_eq_false, not_false_eq_true, ite_true, ite_false, Bool.not_eq_true, decide_eq_true_eq, decide_eq_false_iff_not, Bool.not_eq_true', Bool.not_eq_false', Option.getD_some, Option.getD_none, Option.isSome_some, Option.isSome_none, Option.isNone_some, Option.isNone_none, eq_self, forall_const, true_implies, false_implies, implies_true]
            · rw [if_neg h2] at hr
              exact ⟨(m : Int), by simp only [h0, h1, h2, Option.bind_some, Option.bind_none, decide_true, decide_false, Bool.not_true, Bool.not_false, Bool.true_and, Bool.and_true, Bool.false_eq_true, if_true, if_false, not_true_eq_false, not_false_eq_true, ite_true, ite_false, Bool.not_eq_true, decide_eq_true_eq, decide_eq_false_iff_not, Bool.not_eq_true', Bool.not_eq_false', Option.getD_some, Option.getD_none, Option.isSome_some, Option.isSome_none, Option.isNone_some, Option.isNone_none, eq_self, forall_const, true_implies, false_implies, implies_true], m, rfl, by omega, hr⟩)
      (by
        rintro x ⟨m, -, -, hr⟩
        rw [List.drop_length] at hr
        exact hr)
    rw [hy]
    cases y with
    | inl x => simp only [Option.bind_some]; rw [show rgGo L 0 = true from hQ]
    | inr b => simp only [Option.bind_some]; rw [show rgGo L 0 = b from hQ]

theorem same (A B : List Int) : P_semigroupref03_Same A B = some (decide (A = B)) := by
  unfold P_semigroupref03_Same
  by_cases h : A.length = B.length
  · rw [if_neg (by simp [h])]
    rw [look_const (ok := fun k => A.getD k 0 = B.getD k 0) (b := false) fun k hk => by
      unfold P_semigroupref03_Same_l5
      rw [gi_lt 0 hk, gi_lt 0 (by omega)]
      simp only [Option.bind_some]
      by_cases e : A.getD k 0 = B.getD k 0 <;> simp only [e, Option.bind_some, Option.bind_none, decide_true, decide_false, Bool.not_true, Bool.not_false, Bool.true_and, Bool.and_true, Bool.false_eq_true, if_true, if_false, not_true_eq_false, not_false_eq_true, ite_true, ite_false, Bool.not_eq_true, decide_eq_true_eq, decide_eq_false_iff_not, Bool.not_eq_true', Bool.not_eq_false', Option.getD_some, Option.getD_none, Option.isSome_some, Option.isSome_none, Option.isNone_some, Option.isNone_none, eq_self, forall_const, true_implies, false_implies, implies_true]]
    by_cases e : A = B
    · subst e; simp
    · have : ¬ ∀ k, k < A.length → A.getD k 0 = B.getD k 0 := fun h1 => e (list_ext 0 h h1)
      simp only [this, if_false, Option.bind_some, e, decide_false]
  · rw [if_pos (by simp; omega)]
    have : A ≠ B := fun e => h (by rw [e])
    simp [this]

theorem count_step {p : List Int} (hc : canonI p = p) {k : Nat} (hk : k < p.length) : (if p.getD k 0 + 1 > ((nub (p.take k)).length : Int) then p.getD k 0 + 1 else ((nub (p.take k)).length : Int)) = ((nub (p.take (k + 1))).length : Int) := by
  by_cases hn : isNew p k
  · have h1 := canonI_new hk hn
    rw [hc] at h1
    rw [nub_new hk hn, h1, if_pos (by omega)]
    simp
  · have : ∃ i, i < k ∧ p.getD i 0 = p.getD k 0 := by
      refine Classical.byContradiction fun hc => hn fun i hi e => hc ⟨i, hi, e⟩
    obtain ⟨i, hi, e⟩ := this
    have h1 := canonI_lt (L := p) (k := i) (by omega) hi (by omega)
    rw [hc, e] at h1
    rw [nub_old hk hn, if_neg (by omega)]
theorem count (p : List Int) : P_partition_Count p = some (if validP p then ((nub p).length : Int) else 0) := by
  unfold P_partition_Count
  rw [valid]
  simp only [Option.bind_some]
  cases hv : validP p with
  | false => simp
  | true =>
    obtain ⟨hl, hc⟩ := validP_iff.1 hv
    simp only [Bool.not_true, Bool.false_eq_true, if_false, if_true]
    obtain ⟨y, hy, hQ⟩ := forS_inv (n := p.length) (f := fun k x => P_partition_Count_l7 p k x) (x := 0) (fun k x => x = ((nub (p.take k)).length : Int)) (by simp [nub]) (by
      rintro k x hk rfl
      unfold P_partition_Count_l7
      rw [gi_lt 0 hk]
      have hb := (IsP.self hv).bound hk
      simp only [Option.bind_some]
      rw [w64_id (by omega) (by omega), count_step hc hk]
      exact ⟨_, rfl, rfl⟩)
    rw [hy, hQ, List.take_length]; rfl
def Disc (n : Nat) (θ : Nat → Nat → Prop) : Prop := ∀ x y, x < n → y < n → θ x y → x = y
theorem isP_full {n : Nat} {θ : Nat → Nat → Prop} {p : List Int} (hp : IsP n θ p) : (nub p).length = n ↔ Disc n θ := by
  rw [← hp.len, Par.nub_full, hp.len]
  unfold Disc
  constructor
  · intro h x y hx hy e; exact h x y hx hy ((hp.ker x y hx hy).2 e)
  · intro h x y hx hy e; exact h x y hx hy ((hp.ker x y hx hy).1 e)
open Classical in
theorem discrete {n : Nat} {θ : Nat → Nat → Prop} {p : List Int} (hp : IsP n θ p) (hn : n ≤ 4096) : P_subdirect_discrete p = some (decide (Disc n θ)) := by
  unfold P_subdirect_discrete
  rw [count, if_pos (hp.valid hn)]
  simp only [Option.bind_some, Option.some.injEq]
  rw [Bool.eq_iff_iff]
  simp only [decide_eq_true_eq]
  rw [← isP_full hp, ← hp.len]
  omega

theorem both {n : Nat} {θ φ : Nat → Nat → Prop} {p q : List Int} (hp : IsP n θ p) (hq : IsP n φ q) (hn : n ≤ 4096) : P_partition_both p q = some true := by
  unfold P_partition_both
  have h1 : decide ((p.length : Int) = (q.length : Int)) = true := by rw [hp.len, hq.len]; simp
  rw [if_pos h1, valid, valid, hp.valid hn, hq.valid hn]
  rfl
theorem pack {a b : Int} (ha : 0 ≤ a ∧ a < 4096) (hb : 0 ≤ b ∧ b < 4096) : w64 (w64 (a * 4096) + b) = a * 4096 + b := by
  rw [w64_id (x := a * 4096) (by omega) (by omega), w64_id (by omega) (by omega)]
theorem meet_isP {n : Nat} {θ φ : Nat → Nat → Prop} {p q : List Int} (hp : IsP n θ p) (hq : IsP n φ q) (hn : n ≤ 4096) : IsP n (fun x y => θ x y ∧ φ x y) (canonI (tab n fun k => p.getD k 0 * 4096 + q.getD k 0)) := by
  refine IsP.of (by simp) fun x y hx hy => ?_
  rw [tab_getD hx, tab_getD hy, ← hp.ker x y hx hy, ← hq.ker x y hx hy]
  have a := hp.bound hx; have b := hp.bound hy; have c := hq.bound hx; have d := hq.bound hy
  omega
theorem meet {n : Nat} {θ φ : Nat → Nat → Prop} {p q : List Int} (hp : IsP n θ p) (hq : IsP n φ q) (hn : n ≤ 4096) : ∃ r, P_partition_Meet p q = some r ∧ IsP n (fun x y => θ x y ∧ φ x y) r := by
  refine ⟨_, ?_, meet_isP hp hq hn⟩
  unfold P_partition_Meet
  rw [both hp hq hn]
  simp only [Option.bind_some, Bool.not_true, Bool.false_eq_true, if_false]
  rw [mkz_ok (by have := hp.len; omega) (by omega)]
  simp only [Option.bind_some]
  rw [fill_loop (v := fun k => p.getD k 0 * 4096 + q.getD k 0) 0 (by simp) fun k X hk hX => by
    have hk' : k < n := by rw [← hp.len]; exact hk
    unfold P_partition_Meet_l17
    rw [gi_lt 0 hk, gi_lt 0 (by rw [hq.len]; exact hk')]
    have a := hp.bound hk'; have b := hq.bound hk'
    simp only [Option.bind_some]
    rw [pack ⟨by omega, by omega⟩ ⟨by omega, by omega⟩, si_lt (by omega)]
    rfl]
  simp only [Option.bind_some]
  rw [hp.len, canonical _ (by simpa using hn)]
  rfl
theorem rep_isP (n : Nat) : IsP n (fun _ _ => True) (List.replicate n 0) := by
  have h : IsP n (fun _ _ => True) (canonI (List.replicate n 0)) := IsP.of (by simp) fun x y hx hy => by simp [List.getD_eq_getElem?_getD, hx, hy]
  have e : canonI (List.replicate n 0) = List.replicate n 0 := by
    refine list_ext 0 (by simp) fun i hi => ?_
    simp only [canonI_length, List.length_replicate] at hi
    have h0 := (h.ker i 0 hi (by omega)).2 trivial
    have h1 := h.bound (k := 0) (by omega)
    rw [h0, show (List.replicate n (0 : Int)).getD i 0 = 0 by simp [List.getD_eq_getElem?_getD, hi]]
    omega
  rwa [e] at h
theorem trivial' {n : Nat} (hn : n ≤ 4096) : P_partition_Trivial (n : Int) = some (List.replicate n 0) := by
  unfold P_partition_Trivial
  have h1 : decide ((n : Int) < 0) = false := by simp
  have h2 : decide ((4096 : Int) < n) = false := by simp; omega
  rw [h1, h2, mkz_ok (by omega) (by omega)]
  rfl
def iota (n : Nat) : List Int := tab n fun k => (k : Int)
theorem iota_isP (n : Nat) : IsP n (fun x y => x = y) (iota n) := by
  have h : IsP n (fun x y => x = y) (canonI (iota n)) := IsP.of (by simp [iota]) fun x y hx hy => by unfold iota; rw [tab_getD hx, tab_getD hy]; omega
  have e : canonI (iota n) = iota n := by
    have hnew : ∀ k, k < n → isNew (iota n) k := fun k hk i hi => by unfold iota; rw [tab_getD hk, tab_getD (by omega)]; omega
    have hl : ∀ k, k ≤ n → (nub ((iota n).take k)).length = k := by
      intro k
      induction k with
      | zero => intro _; simp [nub]
      | succ k ih => intro hk; rw [nub_new (by simp [iota]; omega) (hnew k (by omega))]; simp [ih (by omega)]
    refine list_ext 0 (by simp) fun i hi => ?_
    simp only [canonI_length] at hi
    have hi' : i < n := by simpa [iota] using hi
    rw [canonI_new hi (hnew i hi'), hl i (by omega)]
    unfold iota; rw [tab_getD hi']
  rwa [e] at h
theorem discrete' {n : Nat} (hn : n ≤ 4096) : P_partition_Discrete (n : Int) = some (iota n) := by
  unfold P_partition_Discrete
  have h1 : decide ((n : Int) < 0) = false := by simp
  have h2 : decide ((4096 : Int) < n) = false := by simp; omega
  rw [h1, h2, mkz_ok (by omega) (by omega)]
  simp only [Bool.false_eq_true, if_false, Option.bind_some, List.length_replicate]
  rw [fill_loop (v := fun k => (k : Int)) 0 (by simp) fun k X hk hX => by
    unfold P_partition_Discrete_l17
    rw [si_lt (by omega)]; rfl]
  rfl
end Go.Proofs.Ytmdpejgnkoneoaa.Mt
set_option maxRecDepth 100000
set_option maxHeartbeats 4000000
namespace Go.Proofs.Ytmdpejgnkoneoaa.Pu
open Go Go.AM Go.Proofs.Ytmdpejgnkoneoaa.Code

noncomputable def P_semigroupref14_Shape_l26 (t : List (List Int)) (x15 : List Int) (k28 : Nat) : Option (Lp (Unit) (Int)) :=
 Option.bind (gi x15 (k28 : Int)) fun x35 =>
 Option.bind (
  if decide (x35 < 0) then
   some true
  else
   some (decide ((t.length : Int) ≤ x35))) fun z42 =>
 if z42 then
  some (.ex 4)
 else
  some (.go ())
noncomputable def P_semigroupref14_Shape_l6 (t : List (List Int)) (k8 : Nat) : Option (Lp (Unit) (Int)) :=
 Option.bind (gi t (k8 : Int)) fun x15 =>
 if !decide ((x15.length : Int) = (t.length : Int)) then
  some (.ex 4)
 else
  Option.bind (forR x15.length (fun k x => P_semigroupref14_Shape_l26 t x15 k) ()) fun z32 =>
  match z32 with
  | .inl x48 =>
   some (.go ())
  | .inr b => some (.ex b)
noncomputable def P_semigroupref14_Shape (t : List (List Int)) : Option (Int) :=
 if decide (400 < (t.length : Int)) then
  some 3
 else
  if decide ((t.length : Int) = 0) then
   some 4
  else
   Option.bind (forR t.length (fun k x => P_semigroupref14_Shape_l6 t k) ()) fun z12 =>
   match z12 with
   | .inl x50 =>
    some 0
   | .inr b => some b
theorem R_semigroupref14_Shape {G : List Frag} {W H : AH} {v_0 : AV} {t : List (List Int)} (hst : St G W H) (h_0 : Rp.rv W v_0 t) {r : Int} (hp : P_semigroupref14_Shape t = some r) :
  wpc E0 N_semigroupref14_Shape [v_0] H fun rv H' => ∃ W', Wle W W' ∧ St G W' H' ∧ rv = .int .i64 r := by
 refine enterN (F := f_semigroupref14_Shape) rfl (Nat.le_of_ble_eq_true rfl) fun s hl hg => ?_
 replace hl : s.length = 40 := hl
 have g0 : gt s 0 = v_0 := hg 0 (Nat.le_of_ble_eq_true rfl)
 clear hg
 unfold P_semigroupref14_Shape at hp
 show wp E0 c_semigroupref14_Shape s H _
 unfold c_semigroupref14_Shape
 refine AM.wp_seq hp0 (AM.wp_reg hp0 ?_)
 refine wpo_seg hp0 1 (fun s H' => s.length = 40 ∧ gt s 0 = v_0 ∧ H = H') (by simp only [↓runs, isCall, ↓reduceIte, ↓gd_true, ↓gd_false, evs, AV.cells, Nat.reduceEqDiff, Nat.reduceLT, reduceCtorEq, Nat.reduceAdd, sy, g0, hl]) ?_
 rintro s _ ⟨hl, g0, rfl⟩
 refine wpo_nil (then_n ?_)
 refine AM.wp_seq hp0 (AM.wp_seq hp0 (AM.wp_reg hp0 ?_))
 have f1 := fz_ln h_0
 refine wpo_seg hp0 3 (fun s H' => s.length = 40 ∧ gt s 0 = v_0 ∧ gt s 9 = .bool (decide (400 < (t.length : Int))) ∧ H = H') (by simp only [↓runs, isCall, ↓reduceIte, ↓gd_true, ↓gd_false, evs, AV.cells, Nat.reduceEqDiff, Nat.reduceLT, reduceCtorEq, Nat.reduceAdd, sy, f1, g0, hl]) ?_
 rintro s _ ⟨hl, g0, g9, rfl⟩
 refine wpo_nil (then_n ?_)
 rcases Bool.eq_false_or_eq_true (decide (400 < (t.length : Int))) with c2 | c2
 ·replace hp := ifT c2 hp
  refine AM.wp_condT (by simp only [ev_t, ev_c, g9, c2]) ?_
  refine AM.wp_seq hp0 (AM.wp_reg hp0 ?_)
  refine wpo_seg hp0 1 (fun s H' => s.length = 40 ∧ gt s 2 = .int .i64 3 ∧ H = H') (by simp only [↓runs, isCall, ↓reduceIte, ↓gd_true, ↓gd_false, evs, AV.cells, Nat.reduceEqDiff, Nat.reduceLT, reduceCtorEq, Nat.reduceAdd, sy, g0, g9, hl]) ?_
  rintro s _ ⟨hl, g2, rfl⟩
  refine wpo_nil (then_n ?_)
  refine AM.wp_ret ?_
  refine then_r ?_
  obtain rfl := Option.some.inj hp
  refine body_ret (vs := [.int .i64 3]) (by simp only [rvs, f_semigroupref14_Shape, Option.map_some, g2]) ?_
  exact ⟨W, .refl _, hst, rfl⟩
 ·replace hp := ifF c2 hp
  refine AM.wp_condF (by simp only [ev_t, ev_c, g9, c2]) ?_
  refine AM.wp_skip ?_
  refine then_n ?_
  refine AM.wp_seq hp0 (AM.wp_seq hp0 (AM.wp_reg hp0 ?_))
  have f3 := fz_ln h_0
  refine wpo_seg hp0 3 (fun s H' => s.length = 40 ∧ gt s 0 = v_0 ∧ gt s 12 = .bool (decide ((t.length : Int) = 0)) ∧ H = H') (by simp only [↓runs, isCall, ↓reduceIte, ↓gd_true, ↓gd_false, evs, AV.cells, Nat.reduceEqDiff, Nat.reduceLT, reduceCtorEq, Nat.reduceAdd, sy, f3, g0, g9, hl]) ?_
  rintro s _ ⟨hl, g0, g12, rfl⟩
  refine wpo_nil (then_n ?_)
  rcases Bool.eq_false_or_eq_true (decide ((t.length : Int) = 0)) with c4 | c4
  ·replace hp := ifT c4 hp
   refine AM.wp_condT (by simp only [ev_t, ev_c, g12, c4]) ?_
   refine AM.wp_seq hp0 (AM.wp_reg hp0 ?_)
   refine wpo_seg hp0 1 (fun s H' => s.length = 40 ∧ gt s 2 = .int .i64 4 ∧ H = H') (by simp only [↓runs, isCall, ↓reduceIte, ↓gd_true, ↓gd_false, evs, AV.cells, Nat.reduceEqDiff, Nat.reduceLT, reduceCtorEq, Nat.reduceAdd, sy, g0, g12, hl]) ?_
   rintro s _ ⟨hl, g2, rfl⟩
   refine wpo_nil (then_n ?_)
   refine AM.wp_ret ?_
   refine then_r ?_
   obtain rfl := Option.some.inj hp
   refine body_ret (vs := [.int .i64 4]) (by simp only [rvs, f_semigroupref14_Shape, Option.map_some, g2]) ?_
   exact ⟨W, .refl _, hst, rfl⟩
  ·replace hp := ifF c4 hp
   refine AM.wp_condF (by simp only [ev_t, ev_c, g12, c4]) ?_
   refine AM.wp_skip ?_
   refine then_n ?_
   refine AM.wp_seq hp0 (AM.wp_seq hp0 (AM.wp_reg hp0 ?_))
   have f5 := fz_ln h_0
   refine wpo_seg hp0 3 (fun s H' => s.length = 40 ∧ gt s 0 = v_0 ∧ gt s 13 = v_0 ∧ gt s 14 = .int .i64 (t.length : Int) ∧ gt s 15 = .int .i64 0 ∧ H = H') (by simp only [↓runs, isCall, ↓reduceIte, ↓gd_true, ↓gd_false, evs, AV.cells, Nat.reduceEqDiff, Nat.reduceLT, reduceCtorEq, Nat.reduceAdd, sy, f5, g0, g12, hl]) ?_
   rintro s _ ⟨hl, g0, g13, g14, g15, rfl⟩
   refine wpo_nil (then_n ?_)
   obtain ⟨z12, e13, hp⟩ := bn hp
   refine range_ref hp0 40 t.length (fun k x => P_semigroupref14_Shape_l6 t k) (fun _ x s H' => s.length = 40 ∧ gt s 0 = v_0 ∧ gt s 13 = v_0 ∧ H = H') (fun _ x s H' => s.length = 40 ∧ H = H') e13 (fz_big h_0) rfl ?_ ?_ hl g15 g14 ?_ ?_
   ·intro k x s H d v hd h; rcases hd with rfl | rfl | rfl <;> simpa only [gt_other, pt_length, Nat.reduceEqDiff, not_false_eq_true] using h
   ·exact ⟨hl, g0, g13, rfl⟩
   ·intro k8 x7 y9 s H hk hI hl g15 g14 hy10 hx11
    change P_semigroupref14_Shape_l6 t k8 = some y9 at hy10
    unfold P_semigroupref14_Shape_l6 at hy10
    obtain ⟨hl, g0, g13, rfl⟩ := hI
    refine AM.wp_seq hp0 (AM.wp_reg hp0 ?_)
    obtain ⟨x15, e16, hy10⟩ := bn hy10
    obtain ⟨p17, y18, f19, f20, h21⟩ := fz_at (k := .i64) hst h_0 e16 rfl
    refine wpo_seg hp0 3 (fun s H' => s.length = 40 ∧ gt s 0 = v_0 ∧ gt s 4 = y18 ∧ gt s 13 = v_0 ∧ gt s 14 = .int .i64 (t.length : Int) ∧ gt s 15 = .int .i64 (k8 : Int) ∧ H = H') (by simp only [↓runs, isCall, ↓reduceIte, ↓gd_true, ↓gd_false, evs, AV.cells, Nat.reduceEqDiff, Nat.reduceLT, reduceCtorEq, Nat.reduceAdd, sy, f19, f20, g0, g13, g14, g15, hl]) ?_
    rintro s _ ⟨hl, g0, g4, g13, g14, g15, rfl⟩
    refine wpo_nil (then_n ?_)
    refine AM.wp_seq hp0 (AM.wp_seq hp0 (AM.wp_reg hp0 ?_))
    have f22 := fz_ln h21
    have f23 := fz_ln h_0
    refine wpo_seg hp0 5 (fun s H' => s.length = 40 ∧ gt s 0 = v_0 ∧ gt s 4 = y18 ∧ gt s 13 = v_0 ∧ gt s 14 = .int .i64 (t.length : Int) ∧ gt s 15 = .int .i64 (k8 : Int) ∧ gt s 23 = .bool (!decide ((x15.length : Int) = (t.length : Int))) ∧ H = H') (by simp only [↓runs, isCall, ↓reduceIte, ↓gd_true, ↓gd_false, evs, AV.cells, Nat.reduceEqDiff, Nat.reduceLT, reduceCtorEq, Nat.reduceAdd, sy, f22, f23, g0, g4, g13, g14, g15, hl]) ?_
    rintro s _ ⟨hl, g0, g4, g13, g14, g15, g23, rfl⟩
    refine wpo_nil (then_n ?_)
    rcases Bool.eq_false_or_eq_true (!decide ((x15.length : Int) = (t.length : Int))) with c24 | c24
    ·replace hy10 := ifT c24 hy10
     refine AM.wp_condT (by simp only [ev_t, ev_c, g23, c24]) ?_
     refine AM.wp_seq hp0 (AM.wp_reg hp0 ?_)
     refine wpo_seg hp0 1 (fun s H' => s.length = 40 ∧ gt s 2 = .int .i64 4 ∧ H = H') (by simp only [↓runs, isCall, ↓reduceIte, ↓gd_true, ↓gd_false, evs, AV.cells, Nat.reduceEqDiff, Nat.reduceLT, reduceCtorEq, Nat.reduceAdd, sy, g0, g4, g13, g14, g15, g23, hl]) ?_
     rintro s _ ⟨hl, g2, rfl⟩
     refine wpo_nil (then_n ?_)
     refine AM.wp_ret ?_
     refine then_r ?_
     refine rnd_r ?_
     refine then_r ?_
     obtain rfl := Option.some.inj hy10
     have hx := hx11 _ rfl
     subst hx
     dsimp only at hp
     obtain rfl := Option.some.inj hp
     refine body_ret (vs := [.int .i64 4]) (by simp only [rvs, f_semigroupref14_Shape, Option.map_some, g2]) ?_
     exact ⟨W, .refl _, hst, rfl⟩
    ·replace hy10 := ifF c24 hy10
     refine AM.wp_condF (by simp only [ev_t, ev_c, g23, c24]) ?_
     refine AM.wp_skip ?_
     refine then_n ?_
     refine AM.wp_seq hp0 (AM.wp_reg hp0 ?_)
     have f25 := fz_ln h21
     refine wpo_seg hp0 3 (fun s H' => s.length = 40 ∧ gt s 0 = v_0 ∧ gt s 13 = v_0 ∧ gt s 14 = .int .i64 (t.length : Int) ∧ gt s 15 = .int .i64 (k8 : Int) ∧ gt s 24 = y18 ∧ gt s 25 = .int .i64 (x15.length : Int) ∧ gt s 26 = .int .i64 0 ∧ H = H') (by simp only [↓runs, isCall, ↓reduceIte, ↓gd_true, ↓gd_false, evs, AV.cells, Nat.reduceEqDiff, Nat.reduceLT, reduceCtorEq, Nat.reduceAdd, sy, f25, g0, g4, g13, g14, g15, g23, hl]) ?_
     rintro s _ ⟨hl, g0, g13, g14, g15, g24, g25, g26, rfl⟩
     refine wpo_nil (then_n ?_)
     obtain ⟨z32, e33, hy10⟩ := bn hy10
     refine range_ref hp0 40 x15.length (fun k x => P_semigroupref14_Shape_l26 t x15 k) (fun _ x s H' => s.length = 40 ∧ gt s 0 = v_0 ∧ gt s 13 = v_0 ∧ gt s 14 = .int .i64 (t.length : Int) ∧ gt s 15 = .int .i64 (k8 : Int) ∧ gt s 24 = y18 ∧ H = H') (fun _ x s H' => s.length = 40 ∧ gt s 0 = v_0 ∧ gt s 13 = v_0 ∧ gt s 14 = .int .i64 (t.length : Int) ∧ gt s 15 = .int .i64 (k8 : Int) ∧ H = H') e33 (fz_big h21) rfl ?_ ?_ hl g26 g25 ?_ ?_
     ·intro k x s H d v hd h; rcases hd with rfl | rfl | rfl <;> simpa only [gt_other, pt_length, Nat.reduceEqDiff, not_false_eq_true] using h
     ·exact ⟨hl, g0, g13, g14, g15, g24, rfl⟩
     ·intro k28 x27 y29 s H hk hI hl g26 g25 hy30 hx31
      change P_semigroupref14_Shape_l26 t x15 k28 = some y29 at hy30
      unfold P_semigroupref14_Shape_l26 at hy30
      obtain ⟨hl, g0, g13, g14, g15, g24, rfl⟩ := hI
      refine AM.wp_seq hp0 (AM.wp_reg hp0 ?_)
      obtain ⟨x35, e36, hy30⟩ := bn hy30
      obtain ⟨p37, _, f39, f40, rfl⟩ := fz_at (k := .i64) hst h21 e36 rfl
      refine wpo_seg hp0 3 (fun s H' => s.length = 40 ∧ gt s 0 = v_0 ∧ gt s 6 = .int .i64 x35 ∧ gt s 13 = v_0 ∧ gt s 14 = .int .i64 (t.length : Int) ∧ gt s 15 = .int .i64 (k8 : Int) ∧ gt s 24 = y18 ∧ gt s 25 = .int .i64 (x15.length : Int) ∧ gt s 26 = .int .i64 (k28 : Int) ∧ H = H') (by simp only [↓runs, isCall, ↓reduceIte, ↓gd_true, ↓gd_false, evs, AV.cells, Nat.reduceEqDiff, Nat.reduceLT, reduceCtorEq, Nat.reduceAdd, sy, f39, f40, g0, g13, g14, g15, g24, g25, g26, hl]) ?_
      rintro s _ ⟨hl, g0, g6, g13, g14, g15, g24, g25, g26, rfl⟩
      refine wpo_nil (then_n ?_)
      refine AM.wp_seq hp0 ?_
      obtain ⟨z42, hj43, hy30⟩ := bn hy30
      refine AM.wp_regK hp0 (fun s H' => s.length = 40 ∧ gt s 37 = .bool z42 ∧ gt s 0 = v_0 ∧ gt s 13 = v_0 ∧ gt s 14 = .int .i64 (t.length : Int) ∧ gt s 15 = .int .i64 (k8 : Int) ∧ gt s 24 = y18 ∧ gt s 25 = .int .i64 (x15.length : Int) ∧ gt s 26 = .int .i64 (k28 : Int) ∧ H = H') ?_ ?_
      ·rcases Bool.eq_false_or_eq_true (decide (x35 < 0)) with c44 | c44
       ·replace hj43 := ifT c44 hj43
        refine wpo_seg hp0 8 (fun s H' => s.length = 40 ∧ gt s 0 = v_0 ∧ gt s 13 = v_0 ∧ gt s 14 = .int .i64 (t.length : Int) ∧ gt s 15 = .int .i64 (k8 : Int) ∧ gt s 24 = y18 ∧ gt s 25 = .int .i64 (x15.length : Int) ∧ gt s 26 = .int .i64 (k28 : Int) ∧ gt s 37 = .bool true ∧ H = H') (by simp only [↓runs, isCall, ↓reduceIte, ↓gd_true, ↓gd_false, evs, AV.cells, Nat.reduceEqDiff, Nat.reduceLT, reduceCtorEq, Nat.reduceAdd, sy, c44, g0, g6, g13, g14, g15, g24, g25, g26, hl]) ?_
        rintro s _ ⟨hl, g0, g13, g14, g15, g24, g25, g26, g37, rfl⟩
        refine wpo_nil ?_
        obtain rfl := Option.some.inj hj43
        exact ⟨hl, g37, g0, g13, g14, g15, g24, g25, g26, rfl⟩
       ·replace hj43 := ifF c44 hj43
        have f45 := fz_ln h_0
        refine wpo_seg hp0 8 (fun s H' => s.length = 40 ∧ gt s 0 = v_0 ∧ gt s 13 = v_0 ∧ gt s 14 = .int .i64 (t.length : Int) ∧ gt s 15 = .int .i64 (k8 : Int) ∧ gt s 24 = y18 ∧ gt s 25 = .int .i64 (x15.length : Int) ∧ gt s 26 = .int .i64 (k28 : Int) ∧ gt s 37 = .bool (decide ((t.length : Int) ≤ x35)) ∧ H = H') (by simp only [↓runs, isCall, ↓reduceIte, ↓gd_true, ↓gd_false, evs, AV.cells, Nat.reduceEqDiff, Nat.reduceLT, reduceCtorEq, Nat.reduceAdd, sy, c44, f45, g0, g6, g13, g14, g15, g24, g25, g26, hl]) ?_
        rintro s _ ⟨hl, g0, g13, g14, g15, g24, g25, g26, g37, rfl⟩
        refine wpo_nil ?_
        obtain rfl := Option.some.inj hj43
        exact ⟨hl, g37, g0, g13, g14, g15, g24, g25, g26, rfl⟩
      ·rintro s _ ⟨hl, g37, g0, g13, g14, g15, g24, g25, g26, rfl⟩
       refine then_n ?_
       rcases Bool.eq_false_or_eq_true (z42) with c47 | c47
       ·replace hy30 := ifT c47 hy30
        refine AM.wp_condT (by simp only [ev_t, ev_c, g37, c47]) ?_
        refine AM.wp_seq hp0 (AM.wp_reg hp0 ?_)
        refine wpo_seg hp0 1 (fun s H' => s.length = 40 ∧ gt s 2 = .int .i64 4 ∧ H = H') (by simp only [↓runs, isCall, ↓reduceIte, ↓gd_true, ↓gd_false, evs, AV.cells, Nat.reduceEqDiff, Nat.reduceLT, reduceCtorEq, Nat.reduceAdd, sy, g0, g13, g14, g15, g24, g25, g26, g37, hl]) ?_
        rintro s _ ⟨hl, g2, rfl⟩
        refine wpo_nil (then_n ?_)
        refine AM.wp_ret ?_
        refine rnd_r ?_
        refine rnd_r ?_
        refine then_r ?_
        obtain rfl := Option.some.inj hy30
        have hx := hx31 _ rfl
        subst hx
        dsimp only at hy10
        obtain rfl := Option.some.inj hy10
        have hx := hx11 _ rfl
        subst hx
        dsimp only at hp
        obtain rfl := Option.some.inj hp
        refine body_ret (vs := [.int .i64 4]) (by simp only [rvs, f_semigroupref14_Shape, Option.map_some, g2]) ?_
        exact ⟨W, .refl _, hst, rfl⟩
       ·replace hy30 := ifF c47 hy30
        refine AM.wp_condF (by simp only [ev_t, ev_c, g37, c47]) ?_
        refine AM.wp_skip ?_
        refine rnd_n ?_
        obtain rfl := Option.some.inj hy30
        exact ⟨_, rfl, hl, g26, g25, ⟨hl, g0, g13, g14, g15, g24, rfl⟩⟩
     ·rintro x48 s Hn hz hI
      replace hI : (fun s H' => s.length = 40 ∧ gt s 0 = v_0 ∧ gt s 13 = v_0 ∧ gt s 14 = .int .i64 (t.length : Int) ∧ gt s 15 = .int .i64 (k8 : Int) ∧ H = H') s Hn := by
       rcases hI with ⟨hI, -⟩ | ⟨_, hI⟩
       ·obtain ⟨hl, g0, g13, g14, g15, g24, e2⟩ := hI
        exact ⟨hl, g0, g13, g14, g15, e2⟩
       ·exact hI
      subst hz
      dsimp only at hy10 hI
      obtain ⟨hl, g0, g13, g14, g15, rfl⟩ := hI
      refine rnd_n ?_
      obtain rfl := Option.some.inj hy10
      exact ⟨_, rfl, hl, g15, g14, ⟨hl, g0, g13, rfl⟩⟩
   ·rintro x50 s Hn hz hI
    replace hI : (fun s H' => s.length = 40 ∧ H = H') s Hn := by
     rcases hI with ⟨hI, -⟩ | ⟨_, hI⟩
     ·obtain ⟨hl, g0, g13, e2⟩ := hI
      exact ⟨hl, e2⟩
     ·exact hI
    subst hz
    dsimp only at hp hI
    obtain ⟨hl, rfl⟩ := hI
    refine then_n ?_
    refine AM.wp_seq hp0 (AM.wp_reg hp0 ?_)
    refine wpo_seg hp0 1 (fun s H' => s.length = 40 ∧ gt s 2 = .int .i64 0 ∧ H = H') (by simp only [↓runs, isCall, ↓reduceIte, ↓gd_true, ↓gd_false, evs, AV.cells, Nat.reduceEqDiff, Nat.reduceLT, reduceCtorEq, Nat.reduceAdd, sy, hl]) ?_
    rintro s _ ⟨hl, g2, rfl⟩
    refine wpo_nil (then_n ?_)
    refine AM.wp_ret ?_
    obtain rfl := Option.some.inj hp
    refine body_ret (vs := [.int .i64 0]) (by simp only [rvs, f_semigroupref14_Shape, Option.map_some, g2]) ?_
    exact ⟨W, .refl _, hst, rfl⟩

end Go.Proofs.Ytmdpejgnkoneoaa.Pu
