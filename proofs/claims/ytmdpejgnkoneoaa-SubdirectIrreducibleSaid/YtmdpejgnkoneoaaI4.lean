/- Part 4 of the proof that the law SubdirectIrreducible holds: words and lemmas it rests on. No condition. -/
import Derived.Test.YtmdpejgnkoneoaaI3
import Derived.Test.YtmdpejgnkoneoaaI2
set_option linter.unusedSimpArgs false
set_option linter.unusedVariables false
set_option linter.unnecessarySimpa false
set_option linter.unusedSectionVars false
/- Slices of slices whose rows are the call's own, too. -/
namespace Go.AM

/-- A list that is not empty (so its slice is not nil). -/
def nzl {α : Type} (L : List α) : Option (List α) := if L = [] then none else some L
theorem nzl_ok {α : Type} {L M : List α} (h : nzl L = some M) : L ≠ [] ∧ L = M := by
  unfold nzl at h
  split at h
  · cases h
  · rename_i h0; cases h; exact ⟨h0, rfl⟩
theorem nl_some {α : Type} [Rp α] {W : AH} {v : AV} {L : List α} (h : L ≠ []) (h2 : Rp.rv W v L) : Rp.rv W v (some L) := by
  refine ⟨?_, h2⟩
  rintro rfl
  rcases (show SlR W .nils L from h2) with ⟨-, rfl⟩ | ⟨o, off, c, l, w, e, -⟩
  · exact h rfl
  · cases e
theorem nl_none {α : Type} [Rp α] (W : AH) : Rp.rv W .nils (none : Option (List α)) := rfl
/-- Values told by themselves. -/
instance : Rp AV := mkRp (fun _ v x => v = x ∧ v.cells = [v] ∧ v.scalar = true) (fun _ h => h) (fun h => h.2)

theorem St.split {a b : Frag} {G : List Frag} {W H : AH} (h : St ((a ++ b) :: G) W H) : St (a :: b :: G) W H :=
  h.sub (by simp)
theorem St.join {a b : Frag} {G : List Frag} {W H : AH} (h : St (a :: b :: G) W H) : St ((a ++ b) :: G) W H :=
  h.sub (by simp)

section
variable {α : Type} [Rp α] {G : List Frag} {W H : AH} {v : AV} {LL : List (List α)} {g : Frag}

theorem ow_scal {L : List α} (h : OwS W v g L) : v.cells = [v] ∧ v.scalar = true := by
  rcases h with ⟨rfl, -⟩ | ⟨o, c, l, rfl, -⟩ <;> exact ⟨rfl, rfl⟩

/-- The rows: their headers and fragments. -/
def Rws (W : AH) : List AV → List Frag → List (List α) → Prop
  | [], [], [] => True
  | v :: vs, g :: gs, L :: LL => OwS W v g L ∧ Rws W vs gs LL
  | _, _, _ => False
theorem Rws.mono {W W' : AH} (hw : Wle W W') : ∀ {vs : List AV} {gs : List Frag} {LL : List (List α)}, Rws W vs gs LL → Rws W' vs gs LL
  | [], [], [], _ => trivial
  | _ :: _, _ :: _, _ :: _, h => ⟨h.1.mono hw, h.2.mono hw⟩
theorem Rws.len {W : AH} : ∀ {vs : List AV} {gs : List Frag} {LL : List (List α)}, Rws W vs gs LL → vs.length = LL.length ∧ gs.length = LL.length
  | [], [], [], _ => ⟨rfl, rfl⟩
  | _ :: _, _ :: _, _ :: _, h => by have := h.2.len; simp [this.1, this.2]
/-- One row taken out. -/
theorem Rws.get {W : AH} : ∀ {vs : List AV} {gs : List Frag} {LL : List (List α)} {i : Nat} {L : List α}, Rws W vs gs LL → LL[i]? = some L →
    ∃ w gr ga gb, vs[i]? = some w ∧ OwS W w gr L ∧ gs = ga ++ gr :: gb ∧
      ∀ W' w' gr' L', Wle W W' → OwS W' w' gr' L' → Rws W' (vs.set i w') (ga ++ gr' :: gb) (LL.set i L') := by
  intro vs
  induction vs with
  | nil => intro gs LL i L h hL; cases gs <;> cases LL <;> first | exact h.elim | simp at hL
  | cons w vs ih =>
    intro gs LL i L h hL
    cases gs with
    | nil => cases LL <;> exact h.elim
    | cons g gs =>
      cases LL with
      | nil => exact h.elim
      | cons L0 LL =>
        cases i with
        | zero =>
          simp only [List.getElem?_cons_zero, Option.some.injEq] at hL
          subst hL
          exact ⟨w, g, [], gs, rfl, h.1, rfl, fun W' w' gr' L' hw h' => ⟨h', h.2.mono hw⟩⟩
        | succ i =>
          simp only [List.getElem?_cons_succ] at hL
          obtain ⟨w1, gr, ga, gb, h1, h2, h3, h4⟩ := ih h.2 hL
          exact ⟨w1, gr, g :: ga, gb, by simpa using h1, h2, by simp [h3], fun W' w' gr' L' hw h' => ⟨h.1.mono hw, h4 W' w' gr' L' hw h'⟩⟩

def OwD (W : AH) (v : AV) (g : Frag) (LL : List (List α)) : Prop := ∃ vs gs g0, OwS W v g0 (vs : List AV) ∧ Rws W vs gs LL ∧ g = g0 ++ gs.flatten

theorem OwS.monoA {W W' : AH} {v : AV} {g : Frag} {vs : List AV} (hw : Wle W W') (h : OwS W v g vs) : OwS W' v g vs := h.mono hw
theorem OwD.mono {W W' : AH} (hw : Wle W W') (h : OwD W v g LL) : OwD W' v g LL := by
  obtain ⟨vs, gs, g0, h1, h2, h3⟩ := h
  exact ⟨vs, gs, g0, h1.mono hw, h2.mono hw, h3⟩
theorem od_ln (h : OwD W v g LL) : ln v = some (.int .i64 LL.length) := by
  obtain ⟨vs, gs, g0, h1, h2, h3⟩ := h
  rw [ow_ln h1, h2.len.1]
theorem od_big (h : OwD W v g LL) : LL.length ≤ 9223372036854775807 := by
  obtain ⟨vs, gs, g0, h1, h2, h3⟩ := h
  rw [← h2.len.1]; exact ow_big h1

/-- One row is told apart: what is left of the whole. -/
structure OdH (W : AH) (v : AV) (g : Frag) (LL : List (List α)) (i : Nat) (w : AV) : Prop where
  ex : ∃ vs ga gb g0, OwS W v g0 (vs : List AV) ∧ vs[i]? = some w ∧ g = g0 ++ (ga ++ gb).flatten ∧ vs.length = LL.length ∧
    ∀ W' w' gr' L', Wle W W' → OwS W' w' gr' L' → Rws W' (vs.set i w') (ga ++ gr' :: gb) (LL.set i L')
theorem OdH.mono {W W' : AH} {i : Nat} {w : AV} (hw : Wle W W') (h : OdH W v g LL i w) : OdH W' v g LL i w := by
  obtain ⟨vs, ga, gb, g0, h1, h2, h3, h4, h5⟩ := h.ex
  exact ⟨vs, ga, gb, g0, h1.mono hw, h2, h3, h4, fun W2 w' gr' L' hw2 ho => h5 W2 w' gr' L' (hw.trans hw2) ho⟩

theorem St.pull3 {a c : Frag} {b d : List Frag} {G : List Frag} {W H : AH} (h : St ((a ++ (b ++ c :: d).flatten) :: G) W H) : St (c :: (a ++ (b ++ d).flatten) :: G) W H := by
  have h1 : St (a :: b.flatten :: c :: d.flatten :: G) W H := h.sub (by simp)
  have h2 : St (c :: a :: b.flatten :: d.flatten :: G) W H := h1.p2
  exact h2.sub (by simp)
theorem St.push3 {a c : Frag} {b d : List Frag} {G : List Frag} {W H : AH} (h : St (c :: (a ++ (b ++ d).flatten) :: G) W H) : St ((a ++ (b ++ c :: d).flatten) :: G) W H := by
  have h1 : St (c :: a :: b.flatten :: d.flatten :: G) W H := h.sub (by simp)
  have h2 : St (a :: b.flatten :: c :: d.flatten :: G) W H := h1.perm ((perm_pull c [a, b.flatten] (d.flatten :: G)).symm)
  exact h2.sub (by simp)

theorem gi_nn {β : Type} {L : List β} {i : Int} {x : β} (h : gi L i = some x) : 0 ≤ i := by
  obtain ⟨k, rfl, -⟩ := gi_some h; omega
/-- A row is looked at. -/
theorem od_open {k : IntKind} {i : Int} {L : List α} (hst : St (g :: G) W H) (h : OwD W v g LL) (hx : gi LL i = some L) :
    ∃ p w gr gd, ia 1 v (.int k i) = some p ∧ ld H p = some w ∧ St (gr :: gd :: G) W H ∧ OwS W w gr L ∧ OdH W v gd LL i.toNat w := by
  obtain ⟨j, rfl, hj, rfl⟩ := gi_some hx
  obtain ⟨vs, gs, g0, h1, h2, rfl⟩ := h
  obtain ⟨w, gr, ga, gb, h3, h4, rfl, h6⟩ := h2.get (List.getElem?_eq_getElem hj)
  have hg : gi vs (j : Int) = some w := by unfold gi; rw [if_pos (by omega)]; simpa using h3
  obtain ⟨p, y, e1, e2, e3⟩ := ow_at (k := k) hst.split (.head _) h1 hg rfl
  have ey : y = w := e3.1
  subst ey
  exact ⟨p, y, gr, g0 ++ (ga ++ gb).flatten, e1, e2, hst.pull3, h4, ⟨vs, ga, gb, g0, h1, by simpa using h3, rfl, h2.len.1, h6⟩⟩
/-- A row that was written is put back. -/
theorem od_close {i : Nat} {w : AV} {gr : Frag} {L : List α} (hst : St (gr :: g :: G) W H) (hr : OwS W w gr L) (h : OdH W v g LL i w) : ∃ g', St (g' :: G) W H ∧ OwD W v g' (LL.set i L) := by
  obtain ⟨vs, ga, gb, g0, h1, h2, rfl, h4, h5⟩ := h.ex
  refine ⟨_, hst.push3, vs, ga ++ gr :: gb, g0, h1, ?_, rfl⟩
  have := h5 W w gr L (.refl _) hr
  have e : vs.set i w = vs := by
    apply List.ext_getElem?
    intro q
    rw [List.getElem?_set]
    split
    · rename_i e; subst e; split
      · exact h2.symm
      · rename_i hh; rw [List.getElem?_eq_none (by omega)]
    · rfl
  rwa [e] at this
/-- A row that was only read is put back. -/
theorem od_same {i : Int} {w : AV} {gr : Frag} {L : List α} (hst : St (gr :: g :: G) W H) (hr : OwS W w gr L) (h : OdH W v g LL i.toNat w) (hx : gi LL i = some L) : ∃ g', St (g' :: G) W H ∧ OwD W v g' LL := by
  obtain ⟨g', h1, h2⟩ := od_close hst hr h
  obtain ⟨j, rfl, hj, rfl⟩ := gi_some hx
  rw [Int.toNat_natCast, List.set_getElem_self] at h2
  exact ⟨g', h1, h2⟩
/-- A header is stored in place of the row that was told apart. -/
theorem od_put {k : IntKind} {i : Int} {w w' : AV} {gr : Frag} {L : List α} (hst : St (gr :: g :: G) W H) (hr : OwS W w' gr L) (h : OdH W v g LL i.toNat w) (hi : 0 ≤ i) :
    ∃ p H' g', ia 1 v (.int k i) = some p ∧ st 1 p w' H = some H' ∧ St (g' :: G) W H' ∧ OwD W v g' (LL.set i.toNat L) := by
  obtain ⟨vs, ga, gb, g0, h1, h2, rfl, h4, h5⟩ := h.ex
  have hs := ow_scal hr
  have hlt := (List.getElem?_eq_some_iff.1 h2).1
  have h6 : St (g0 :: gr :: (ga ++ gb).flatten :: G) W H := hst.p1.split.perm ((List.Perm.cons _ (.swap _ _ _)))
  obtain ⟨p, H', g', e1, e2, e3, e4⟩ := ow_set (k := k) (i := i) (x := w') (L' := vs.set i.toNat w') 1 rfl h6 h1 (show Rp.rv W w' w' from ⟨rfl, hs⟩) (by unfold si; rw [if_pos ⟨hi, by omega⟩])
  refine ⟨p, H', g' ++ (ga ++ gr :: gb).flatten, e1, e2, ?_, vs.set i.toNat w', ga ++ gr :: gb, g', e4, h5 W w' gr L (.refl _) hr, rfl⟩
  have e5 : St (gr :: (g' ++ (ga ++ gb).flatten) :: G) W H' := (e3.perm (.swap _ _ _)).sub (by simp)
  exact e5.push3

theorem rws_frz : ∀ {vs : List AV} {gs : List Frag} {LL : List (List α)} {G : List Frag} {W : AH}, St (gs.flatten :: G) W H → Rws W vs gs LL → ∃ W', Wle W W' ∧ St G W' H ∧ vs.length = LL.length ∧ ∀ (i : Nat) (h : i < LL.length), Rp.rv W' (vs.getD i (.tup [])) LL[i] := by
  intro vs
  induction vs with
  | nil =>
    intro gs LL G W hst h
    cases gs <;> cases LL <;> first | exact h.elim | exact ⟨W, .refl _, hst.drop, rfl, fun i h => by simp at h⟩
  | cons v vs ih =>
    intro gs LL G W hst h
    cases gs with
    | nil => cases LL <;> exact h.elim
    | cons g gs =>
      cases LL with
      | nil => exact h.elim
      | cons L LL =>
        have h1 : St (g :: gs.flatten :: G) W H := by rw [List.flatten_cons] at hst; exact hst.split
        obtain ⟨W1, w1, s1, r1⟩ := ow_frz h1 h.1
        obtain ⟨W2, w2, s2, hl, r2⟩ := ih s1 (h.2.mono w1)
        refine ⟨W2, w1.trans w2, s2, by simp [hl], fun i hi => ?_⟩
        cases i with
        | zero => exact Rp.mono w2 r1
        | succ i => exact r2 i (by simpa using hi)
/-- All is frozen. -/
theorem od_frz (hst : St (g :: G) W H) (h : OwD W v g LL) : ∃ W', Wle W W' ∧ St G W' H ∧ Rp.rv W' v LL := by
  obtain ⟨vs, gs, g0, h1, h2, rfl⟩ := h
  obtain ⟨W1, w1, s1, hl, r1⟩ := rws_frz (hst.split.p1) h2
  obtain ⟨W2, w2, s2, r2⟩ := ow_frz s1 (h1.mono w1)
  refine ⟨W2, w1.trans w2, s2, ?_⟩
  rcases (show SlR W2 v vs from r2) with ⟨rfl, rfl⟩ | ⟨o, off, c, l, w, rfl, q1, q2, q3, q9⟩
  · exact .inl ⟨rfl, by simpa using hl.symm⟩
  · refine .inr ⟨o, off, c, l, w, by rw [hl]; rfl, q1, ⟨by rw [← hl]; exact q2.fit, fun i hi => ?_⟩, by rw [← hl]; exact q3, by rw [← hl]; exact q9⟩
    have a1 := (q2.el i (by rw [hl]; exact hi)).1
    have a2 := Rp.mono w2 (r1 i hi)
    rw [List.getD_eq_getElem?_getD, List.getElem?_eq_getElem (by rw [hl]; exact hi), Option.getD_some, ← a1] at a2
    exact a2
/-- New: all rows are nil. -/
theorem od_mk {kn kc : IntKind} {b : Nat} {n c : Int} (α : Type) [Rp α] {LL : List (List α)} (hst : St G W H) (hx : mkz b n c ([] : List α) = some LL) :
    ∃ v H' g W', mk [.nils] b (.int kn n) (.int kc c) H = some (v, H') ∧ Wle W W' ∧ St (g :: G) W' H' ∧ OwD W' v g LL := by
  have hx' : mkz b n c AV.nils = some (List.replicate n.toNat .nils) ∧ LL = List.replicate n.toNat [] := by
    unfold mkz at hx ⊢
    split at hx
    · rename_i h0
      rw [if_pos h0]; cases hx; exact ⟨rfl, rfl⟩
    · cases hx
  obtain ⟨e, rfl⟩ := hx'
  obtain ⟨v, H', g, W', h1, h2, h3, h4⟩ := ow_mk (kn := kn) (kc := kc) hst (show Rp.rv W AV.nils AV.nils from ⟨rfl, rfl, rfl⟩) [.nils] rfl e
  refine ⟨v, H', g, W', h1, h2, h3, List.replicate n.toNat .nils, List.replicate n.toNat [], g, h4, ?_, by simp⟩
  generalize n.toNat = m
  induction m with
  | zero => exact trivial
  | succ m ih => exact ⟨ow_nil _, ih⟩
theorem od_nil (W : AH) : OwD W .nils [] ([] : List (List α)) := ⟨[], [], [], ow_nil _, trivial, rfl⟩
/-- An own row is put behind. -/
theorem od_push {w : AV} {gr : Frag} {L : List α} {LL' : List (List α)} {b : Nat} (hst : St (gr :: g :: G) W H) (hr : OwS W w gr L) (h : OwD W v g LL) (hx : pus b LL [L] = some LL') :
    ∃ v' H' g' W', ap [.nils] b v (.sli H.length 0 1 1 (some 1)) (H ++ [.row [w] true]) = some (v', H') ∧ Wle W W' ∧ St (g' :: G) W' H' ∧ OwD W' v' g' LL' := by
  obtain ⟨rfl, hb, hm⟩ := pus_some hx
  obtain ⟨vs, gs, g0, h1, h2, rfl⟩ := h
  have hs := ow_scal hr
  have hst1 : St (g0 :: gs.flatten :: gr :: G) W H := (hst.p1.split).perm (by exact .refl _)
  have e2 := hst1.newF (.row [w] true)
  have w2 : Wle W (W ++ [.row [w] true]) := .app _ _
  have hv : Rp.rv (W ++ [.row [w] true]) (.sli H.length 0 1 1 (some 1)) ([w] : List AV) := by
    refine .inr ⟨H.length, 0, some 1, [w], true, rfl, by rw [← hst.len]; simp, ⟨by simp; exact Nat.le_refl _, fun i hi => ?_⟩, by simp, by simp⟩
    have : i = 0 := by simpa using hi
    subst this
    exact ⟨rfl, hs⟩
  obtain ⟨cs, sn⟩ := fz_sn e2 hv
  obtain ⟨v', H', g', W', a1, a2, a3, a4⟩ := ow_apps (L' := vs ++ [w]) [.nils] rfl e2 (h1.mono w2) sn (by unfold pus; rw [if_pos (by rw [h2.len.1]; exact ⟨hb, hm⟩)])
  refine ⟨v', H', g' ++ (gs ++ [gr]).flatten, W', a1, w2.trans a2, a3.sub (by simp), vs ++ [w], gs ++ [gr], g', a4, ?_, rfl⟩
  have h2' := h2.mono (w2.trans a2)
  have hr' := hr.mono (w2.trans a2)
  clear h1 h2 sn a1 a3 a4 hst hst1 hr hx hb hm
  have key : ∀ (vs : List AV) (gs : List Frag) (LL : List (List α)), Rws W' vs gs LL → Rws W' (vs ++ [w]) (gs ++ [gr]) (LL ++ [L]) := by
    intro vs
    induction vs with
    | nil => intro gs LL h; cases gs <;> cases LL <;> first | exact h.elim | exact ⟨hr', trivial⟩
    | cons v vs ih => intro gs LL h; cases gs <;> cases LL <;> first | exact h.elim | exact ⟨h.1, ih _ _ h.2⟩
  exact key vs gs LL h2'
end
end Go.AM
/- Union-find: a list of parents, told by the list of the roots. -/
namespace Go.AM

/-- F leads to the roots R; d falls on the way. -/
structure FoI (F R : List Int) (d : Nat → Nat) : Prop where
  len : F.length = R.length
  at_ : ∀ x, x < F.length → ∃ p : Nat, F[x]? = some (p : Int) ∧ p < F.length ∧ (p ≠ x → d p < d x) ∧ R[p]? = R[x]? ∧ (p = x → R[x]? = some (x : Int))

theorem FoI.root {F R : List Int} {d : Nat → Nat} (h : FoI F R d) : ∀ (m x : Nat), d x ≤ m → x < F.length → ∃ y : Nat, R[x]? = some (y : Int) ∧ y < F.length ∧ R[y]? = some (y : Int) ∧ F[y]? = some (y : Int)
  | m, x, hm, hx => by
    obtain ⟨p, h1, h2, h3, h4, h5⟩ := h.at_ x hx
    by_cases e : p = x
    · exact ⟨x, h5 e, hx, h5 e, by rw [h1, e]⟩
    · have := h3 e
      cases m with
      | zero => omega
      | succ m =>
        have h6 := FoI.root h m p (by omega) h2
        rwa [h4] at h6

theorem set_get {F : List Int} {i j : Nat} {y : Int} (hi : i < F.length) : (F.set i y)[j]? = if i = j then some y else F[j]? := by
  rw [List.getElem?_set]
  split
  · rfl
  · rfl

/-- Two steps of the way at once. -/
theorem FoI.half {F R : List Int} {d : Nat → Nat} (h : FoI F R d) {x p q : Nat} (hx : x < F.length) (h1 : F[x]? = some (p : Int)) (h2 : F[p]? = some (q : Int)) : FoI (F.set x q) R d := by
  obtain ⟨p', a1, a2, a3, a4, a5⟩ := h.at_ x hx
  rw [h1] at a1
  have : p' = p := by have := Option.some.inj a1; omega
  subst this
  obtain ⟨q', b1, b2, b3, b4, b5⟩ := h.at_ p' a2
  rw [h2] at b1
  have : q' = q := by have := Option.some.inj b1; omega
  subst this
  refine ⟨by simp [h.len], fun y hy => ?_⟩
  rw [List.length_set] at hy ⊢
  rw [set_get hx]
  by_cases e : x = y
  · subst e
    rw [if_pos rfl]
    refine ⟨q', rfl, b2, fun hne => ?_, b4.trans a4, fun he => ?_⟩
    · by_cases e1 : p' = x
      · subst e1
        rw [h1] at h2
        have : p' = q' := by have := Option.some.inj h2; omega
        exact absurd this.symm hne
      · have := a3 e1
        by_cases e2 : q' = p'
        · rw [e2]; exact this
        · have := b3 e2; omega
    · by_cases e1 : p' = x
      · exact a5 e1
      · have c1 := a3 e1
        have c2 := b3 (by rw [he]; exact fun e => e1 e.symm)
        rw [he] at c2; omega
  · rw [if_neg e]
    exact h.at_ y hy

/-- A store at a root, of a root. -/
def fset (R : List Int) (x y : Int) : Option (List Int) := if gi R x = some x ∧ gi R y = some y then some (R.map fun z => if z = x then y else z) else none
def fnew (F : List Int) : Option (List Int) := if F = (List.range F.length).map Int.ofNat then some F else none

theorem FoI.set {F R R' : List Int} {d : Nat → Nat} {x y : Int} (h : FoI F R d) (hx : fset R x y = some R') : ∃ F' d', si F x y = some F' ∧ FoI F' R' d' := by
  unfold fset at hx
  split at hx
  · rename_i h0
    cases hx
    obtain ⟨ha, hb⟩ := h0
    obtain ⟨a, rfl, ha1, ha2⟩ := gi_some ha
    obtain ⟨b, rfl, hb1, hb2⟩ := gi_some hb
    have ra : R[a]? = some (a : Int) := by rw [List.getElem?_eq_getElem ha1, ha2]
    have rb : R[b]? = some (b : Int) := by rw [List.getElem?_eq_getElem hb1, hb2]
    rw [← h.len] at ha1 hb1
    refine ⟨F.set a b, fun z => if R[z]? = some (a : Int) ∧ a ≠ b then d z + d b + 1 else d z, by unfold si; rw [if_pos ⟨by omega, by omega⟩]; simp, ?_⟩
    refine ⟨by simp [h.len], fun z hz => ?_⟩
    rw [List.length_set] at hz ⊢
    simp only [set_get ha1, List.getElem?_map]
    by_cases e : a = z
    · subst e
      simp only [if_true]
      refine ⟨b, rfl, hb1, fun hne => ?_, ?_, fun he => ?_⟩
      · simp only [ra, rb, true_and, Option.some.injEq]
        rw [if_neg (by omega), if_pos (fun e => hne e.symm)]
        omega
      · simp only [ra, rb, Option.map_some, if_true]
        split <;> rfl
      · subst he
        simp only [ra, Option.map_some, if_true]
    · simp only [if_neg e]
      obtain ⟨p, a1, a2, a3, a4, a5⟩ := h.at_ z hz
      refine ⟨p, a1, a2, fun hne => ?_, by rw [a4], fun he => ?_⟩
      · have := a3 hne
        rw [a4]
        split <;> omega
      · rw [a5 he]
        simp only [Option.map_some]
        rw [if_neg (by omega)]
  · cases hx

theorem FoI.new {F R : List Int} (h : fnew F = some R) : FoI F R fun _ => 0 := by
  unfold fnew at h
  split at h
  · rename_i h0
    cases h
    have g : ∀ x, x < F.length → F[x]? = some (x : Int) := fun x hx => by rw [h0]; simp [hx]
    exact ⟨rfl, fun x hx => ⟨x, g x hx, hx, fun h => absurd rfl h, rfl, fun _ => g x hx⟩⟩
  · cases h

/-- The call's own list of parents, told by its roots. -/
def OwF (W : AH) (v : AV) (g : Frag) (R : List Int) : Prop := ∃ F d, OwS W v g F ∧ FoI F R d
theorem OwF.mono {W W' : AH} {v : AV} {g : Frag} {R : List Int} (hw : Wle W W') (h : OwF W v g R) : OwF W' v g R := by
  obtain ⟨F, d, h1, h2⟩ := h
  exact ⟨F, d, h1.mono hw, h2⟩
theorem OwF.flat {W W' : AH} {v : AV} {g : Frag} {R : List Int} (h : OwF W v g R) : OwF W' v g R := by
  obtain ⟨F, d, h1, h2⟩ := h
  exact ⟨F, d, h1.flat, h2⟩
section
variable {W H : AH} {v : AV} {g : Frag} {R : List Int} {G : List Frag}
theorem of_ln (h : OwF W v g R) : ln v = some (.int .i64 R.length) := by
  obtain ⟨F, d, h1, h2⟩ := h
  rw [ow_ln h1, h2.len]
theorem of_big (h : OwF W v g R) : R.length ≤ 9223372036854775807 := by
  obtain ⟨F, d, h1, h2⟩ := h
  rw [← h2.len]; exact ow_big h1
theorem of_new {F : List Int} (h : OwS W v g F) (hx : fnew F = some R) : OwF W v g R := ⟨F, _, h, FoI.new hx⟩
theorem of_set {k : IntKind} {x y : Int} {R' : List Int} (hst : St (g :: G) W H) (h : OwF W v g R) (hx : fset R x y = some R') :
    ∃ p H' g', ia 1 v (.int k x) = some p ∧ st 1 p (.int .i64 y) H = some H' ∧ St (g' :: G) W H' ∧ OwF W v g' R' := by
  obtain ⟨F, d, h1, h2⟩ := h
  obtain ⟨F', d', h3, h4⟩ := h2.set hx
  obtain ⟨p, H', g', e1, e2, e3, e4⟩ := ow_set (k := k) 1 rfl hst h1 (show Rp.rv W (.int .i64 y) y from rfl) h3
  exact ⟨p, H', g', e1, e2, e3, F', d', e4, h4⟩
end
end Go.AM
/- From what came in as arguments to the values of pure programs. -/
namespace Go.AM

def Lk {α : Type} [Rp α] (R : AH → List AV → α → Prop) : Prop := ∀ H cs x, R H cs x → ∃ v, cs = v.cells ∧ Rp.rv H v x
theorem Lk.int : Lk (α := Int) (RInt .i64) := fun H cs x h => ⟨.int .i64 x, h.1, rfl⟩
theorem Lk.bool : Lk (α := Bool) RBool := fun H cs x h => ⟨.bool x, h, rfl⟩
theorem Lk.str : Lk (α := Str) RStr := fun H cs x h => ⟨.str x, h.1, rfl⟩
theorem Lk.slice {α : Type} [Rp α] {R : AH → List AV → α → Prop} (hR : Lk R) : Lk (α := List α) (RSl R (Rp.sz α)) := by
  rintro H cs L (⟨rfl, rfl⟩ | ⟨o, cap, cells, rfl, h1, h2, h3, h4, h5⟩)
  · exact ⟨.nils, rfl, .inl ⟨rfl, rfl⟩⟩
  · refine ⟨.sli o 0 L.length (Rp.sz α) (some cap), rfl, ?_⟩
    unfold rowAt at h1
    split at h1
    · rename_i l w hr
      cases h1
      refine .inr ⟨o, 0, some cap, cells, w, rfl, hr, ⟨by rw [h4, Nat.zero_add]; exact Nat.mul_le_mul_right _ h2, fun i hi => ?_⟩, Nat.le_trans h2 h3, h2⟩
      obtain ⟨v, hv, hx⟩ := hR _ _ _ (h5 i hi)
      have : cv α cells (0 + i * Rp.sz α) = v := by
        rw [Nat.zero_add]
        cases ha : Rp.ag α with
        | true => rw [cv_agg ha, hv]; exact (Rp.agg ha hx).symm
        | false =>
          have hz := (Rp.one ha).1
          rw [(Rp.one ha).2 hx, hz] at hv
          rw [cv_one ha, hz, List.getD_eq_getElem?_getD]
          have h0 : ((cells.drop (i * 1)).take 1)[0]? = some v := by rw [hv]; rfl
          rw [List.getElem?_take, if_pos (by omega), List.getElem?_drop, Nat.add_zero] at h0
          rw [h0]; rfl
      rw [this]; exact hx
    · cases h1
theorem Lk.pair {α β : Type} [Rp α] [Rp β] {R : AH → List AV → α → Prop} {S : AH → List AV → β → Prop} (hR : Lk R) (hS : Lk S) : Lk (α := α × β) fun H cs x => ∃ a b, cs = a ++ b ∧ R H a x.1 ∧ S H b x.2 := by
  rintro H cs x ⟨a, b, rfl, h1, h2⟩
  obtain ⟨v, rfl, hv⟩ := hR _ _ _ h1
  obtain ⟨w, rfl, hw⟩ := hS _ _ _ h2
  exact ⟨.agg (v.cells ++ w.cells), rfl, v, w, rfl, hv, hw⟩
/-- One cell. -/
theorem Lk.one {α : Type} [Rp α] {R : AH → List AV → α → Prop} (hR : Lk R) (ha : Rp.ag α = false) {H : AH} {cs : List AV} {x : α} (h : R H cs x) : ∃ v, cs = [v] ∧ Rp.rv H v x := by
  obtain ⟨v, rfl, hv⟩ := hR _ _ _ h
  exact ⟨v, (Rp.one ha).2 hv, hv⟩
theorem St.start (H : AH) : St [] H H := ⟨rfl, fun _ _ h _ => h, by simp, by simp⟩
end Go.AM
