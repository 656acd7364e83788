/- Part 3 of the proof that the law SubdirectEmbeds holds: words and lemmas it rests on. No condition. -/
import Derived.Test.YtmdpejgnkoneoaaE2
set_option linter.unusedSimpArgs false
set_option linter.unusedVariables false
set_option linter.unnecessarySimpa false
set_option linter.unusedSectionVars false
namespace Go.AM

def Wle (W W' : AH) : Prop := ∀ (o : Nat) (a : AO), W[o]? = some a → a ≠ .dead → W'[o]? = some a
theorem Wle.refl (W : AH) : Wle W W := fun _ _ h _ => h
theorem Wle.trans {A B C : AH} (h : Wle A B) (h2 : Wle B C) : Wle A C := fun o a ha hd => h2 o a (h o a ha hd) hd
theorem Wle.app (W T : AH) : Wle W (W ++ T) := fun o a ha _ => by rw [List.getElem?_append_left (lt_of_get ha)]; exact ha

abbrev Frag := List (Nat × AO)

structure St (G : List Frag) (W H : AH) : Prop where
  len : W.length = H.length
  frz : ∀ (o : Nat) (a : AO), W[o]? = some a → a ≠ .dead → H[o]? = some a
  own : ∀ p ∈ G.flatten, H[p.1]? = some p.2 ∧ W[p.1]? = some .dead
  nd : (G.flatten.map Prod.fst).Nodup

theorem St.perm {G G' : List Frag} {W H : AH} (h : St G W H) (hp : G.Perm G') : St G' W H := by
  have hf : G.flatten.Perm G'.flatten := hp.flatten
  exact ⟨h.len, h.frz, fun p hp' => h.own p (hf.mem_iff.2 hp'), (hf.map _).nodup_iff.1 h.nd⟩
theorem St.sub {G G' : List Frag} {W H : AH} (h : St G W H) (hp : List.Sublist G'.flatten G.flatten) : St G' W H :=
  ⟨h.len, h.frz, fun p hp' => h.own p (hp.subset hp'), (hp.map _).nodup h.nd⟩
theorem St.drop {g : Frag} {G : List Frag} {W H : AH} (h : St (g :: G) W H) : St G W H := h.sub (by simp)
theorem St.p1 {a b : Frag} {G : List Frag} {W H : AH} (h : St (a :: b :: G) W H) : St (b :: a :: G) W H := h.perm (.swap _ _ _)
theorem St.p2 {a b c : Frag} {G : List Frag} {W H : AH} (h : St (a :: b :: c :: G) W H) : St (c :: a :: b :: G) W H := h.perm ((List.Perm.cons _ (.swap _ _ _)).trans (.swap _ _ _))
theorem perm_pull {α : Type} (x : α) : ∀ (l r : List α), (l ++ x :: r).Perm (x :: (l ++ r))
  | [], r => .refl _
  | y :: l, r => ((perm_pull x l r).cons y).trans (.swap _ _ _)
theorem St.p3 {a b c d : Frag} {G : List Frag} {W H : AH} (h : St (a :: b :: c :: d :: G) W H) : St (d :: a :: b :: c :: G) W H := h.perm (perm_pull d [a, b, c] G)
theorem St.new {G : List Frag} {W H : AH} (h : St G W H) (a : AO) : St ([(H.length, a)] :: G) (W ++ [.dead]) (H ++ [a]) := by
  refine ⟨by simp [h.len], fun o b hb hd => ?_, fun p hp => ?_, ?_⟩
  · rcases Nat.lt_or_ge o W.length with hlt | hge
    · rw [List.getElem?_append_left hlt] at hb
      have := h.frz o b hb hd
      rw [List.getElem?_append_left (lt_of_get this)]; exact this
    · rw [List.getElem?_append_right hge] at hb
      rcases List.getElem?_eq_some_iff.1 hb with ⟨h1, h2⟩
      simp at h2
      exact absurd h2.symm hd
  · simp only [List.flatten_cons, List.singleton_append, List.mem_cons] at hp
    rcases hp with rfl | hp
    · exact ⟨by simp, by rw [← h.len]; simp⟩
    · have := h.own p hp
      exact ⟨by rw [List.getElem?_append_left (lt_of_get this.1)]; exact this.1, by rw [List.getElem?_append_left (lt_of_get this.2)]; exact this.2⟩
  · simp only [List.flatten_cons, List.singleton_append, List.map_cons, List.nodup_cons]
    refine ⟨fun hm => ?_, h.nd⟩
    obtain ⟨p, hp, he⟩ := List.mem_map.1 hm
    have := lt_of_get (h.own p hp).1
    omega
theorem St.wr {o : Nat} {a : AO} {G : List Frag} {W H : AH} (h : St ([(o, a)] :: G) W H) (b : AO) : St ([(o, b)] :: G) W (H.set o b) := by
  have h0 := h.own (o, a) (by simp)
  have hn := h.nd
  simp only [List.flatten_cons, List.singleton_append, List.map_cons, List.nodup_cons] at hn
  refine ⟨by simp [h.len], fun i x hx hd => ?_, fun p hp => ?_, ?_⟩
  · have := h.frz i x hx hd
    rw [List.getElem?_set_ne]
    · exact this
    · rintro rfl
      rw [h0.2] at hx
      cases hx
      exact hd rfl
  · simp only [List.flatten_cons, List.singleton_append, List.mem_cons] at hp
    rcases hp with rfl | hp
    · exact ⟨by simp [lt_of_get h0.1], h0.2⟩
    · have := h.own p (by simp [hp])
      refine ⟨?_, this.2⟩
      rw [List.getElem?_set_ne]
      · exact this.1
      · rintro rfl
        exact hn.1 (List.mem_map_of_mem hp)
  · simpa using h.nd
theorem St.frzO {o : Nat} {a : AO} {G : List Frag} {W H : AH} (h : St ([(o, a)] :: G) W H) : Wle W (W.set o a) ∧ St G (W.set o a) H := by
  have h0 := h.own (o, a) (by simp)
  have hn := h.nd
  simp only [List.flatten_cons, List.singleton_append, List.map_cons, List.nodup_cons] at hn
  refine ⟨fun i x hx hd => ?_, by simp [h.len], fun i x hx hd => ?_, fun p hp => ?_, hn.2⟩
  · rw [List.getElem?_set_ne]
    · exact hx
    · rintro rfl
      rw [h0.2] at hx
      cases hx
      exact hd rfl
  · rw [List.getElem?_set] at hx
    split at hx
    · rename_i e
      subst e
      split at hx
      · cases hx; exact h0.1
      · cases hx
    · exact h.frz i x hx hd
  · have := h.own p (by simp [hp])
    refine ⟨this.1, ?_⟩
    rw [List.getElem?_set_ne]
    · exact this.2
    · rintro rfl
      exact hn.1 (List.mem_map_of_mem hp)
theorem St.thaw {o : Nat} {a : AO} {G : List Frag} {W H : AH} (h : St G W H) (ho : W[o]? = some a) (ha : a ≠ .dead) : St ([(o, a)] :: G) (W.set o .dead) H := by
  have hlt := lt_of_get ho
  refine ⟨by simp [h.len], fun i x hx hd => ?_, fun p hp => ?_, ?_⟩
  · rw [List.getElem?_set] at hx
    split at hx
    · rename_i e
      subst e
      cases hx; exact absurd rfl hd
    · exact h.frz i x hx hd
  · simp only [List.flatten_cons, List.singleton_append, List.mem_cons] at hp
    rcases hp with rfl | hp
    · exact ⟨h.frz _ _ ho ha, by simp [hlt]⟩
    · have := h.own p hp
      refine ⟨this.1, ?_⟩
      rw [List.getElem?_set]
      split
      · rfl
      · exact this.2
  · simp only [List.flatten_cons, List.singleton_append, List.map_cons, List.nodup_cons]
    refine ⟨fun hm => ?_, h.nd⟩
    obtain ⟨p, hp, he⟩ := List.mem_map.1 hm
    have := (h.own p hp).2
    rw [he, ho] at this
    cases this
    exact ha rfl
theorem Wle.thaw {o : Nat} {a : AO} {W W1 W' : AH} (h1 : W[o]? = some .dead) (h : Wle (W.set o a) W') : Wle W (W'.set o .dead) := by
  intro i x hx hd
  have hne : o ≠ i := by rintro rfl; rw [h1] at hx; cases hx; exact hd rfl
  rw [List.getElem?_set_ne hne]
  exact h i x (by rw [List.getElem?_set_ne hne]; exact hx) hd

class Rp (α : Type) where
  ag : Bool
  sz : Nat
  rv : AH → AV → α → Prop
  mono : ∀ {W W' : AH} {v : AV} {x : α}, Wle W W' → rv W v x → rv W' v x
  cells : ∀ {W : AH} {v : AV} {x : α}, rv W v x → v.cells.length = sz
  scal : ∀ {W : AH} {v : AV} {x : α}, rv W v x → v.cells.all AV.scalar = true
  one : ag = false → sz = 1 ∧ ∀ {W : AH} {v : AV} {x : α}, rv W v x → v.cells = [v]
  agg : ag = true → ∀ {W : AH} {v : AV} {x : α}, rv W v x → v = .agg v.cells
  pos : 0 < sz

class Fl (α : Type) [Rp α] : Prop where
  flat : ∀ {W W' : AH} {v : AV} {x : α}, Rp.rv W v x → Rp.rv W' v x

abbrev mkRp {α : Type} (rv : AH → AV → α → Prop) (mono : ∀ {W W' : AH} {v : AV} {x : α}, Wle W W' → rv W v x → rv W' v x)
    (sc : ∀ {W : AH} {v : AV} {x : α}, rv W v x → v.cells = [v] ∧ v.scalar = true) : Rp α where
  ag := false
  sz := 1
  rv := rv
  mono := mono
  cells h := by rw [(sc h).1]; rfl
  scal h := by rw [(sc h).1]; simp [(sc h).2]
  one := fun _ => ⟨rfl, fun h => (sc h).1⟩
  agg := fun h => by cases h
  pos := Nat.one_pos

instance : Rp Int := mkRp (fun _ v x => v = .int .i64 x) (fun _ h => h) (by rintro _ _ _ rfl; exact ⟨rfl, rfl⟩)
instance : Fl Int := ⟨fun h => h⟩
instance : Rp Bool := mkRp (fun _ v x => v = .bool x) (fun _ h => h) (by rintro _ _ _ rfl; exact ⟨rfl, rfl⟩)
instance : Fl Bool := ⟨fun h => h⟩
instance : Rp UInt8 := mkRp (fun _ v x => v = .int .u8 x.toNat) (fun _ h => h) (by rintro _ _ _ rfl; exact ⟨rfl, rfl⟩)
instance : Fl UInt8 := ⟨fun h => h⟩
def Str := List UInt8
instance : Rp Str := mkRp (fun _ v x => v = .str x) (fun _ h => h) (by rintro _ _ _ rfl; exact ⟨rfl, rfl⟩)
instance : Fl Str := ⟨fun h => h⟩

section
variable {α : Type} [Rp α]
def cv (α : Type) [Rp α] (l : List AV) (k : Nat) : AV := if Rp.ag α then .agg ((l.drop k).take (Rp.sz α)) else l.getD k (.tup [])

structure SlC (W : AH) (l : List AV) (off : Nat) (L : List α) : Prop where
  fit : off + L.length * Rp.sz α ≤ l.length
  el : ∀ (i : Nat) (h : i < L.length), Rp.rv W (cv α l (off + i * Rp.sz α)) L[i]

theorem SlC.mono {W W' : AH} {l : List AV} {off : Nat} {L : List α} (hw : Wle W W') (h : SlC W l off L) : SlC W' l off L := ⟨h.fit, fun i hi => Rp.mono hw (h.el i hi)⟩

def SlR (W : AH) (v : AV) (L : List α) : Prop :=
  (v = .nils ∧ L = []) ∨ ∃ o off c l w, v = .sli o off L.length (Rp.sz α) c ∧ W[o]? = some (.row l w) ∧ SlC W l off L ∧ L.length ≤ 9223372036854775807 ∧ L.length ≤ c.getD L.length

instance : Rp (List α) := mkRp SlR
  (by
    rintro W W' v L hw (⟨rfl, rfl⟩ | ⟨o, off, c, l, w, rfl, h1, h2, h3⟩)
    · exact .inl ⟨rfl, rfl⟩
    · exact .inr ⟨o, off, c, l, w, rfl, hw _ _ h1 (by simp), h2.mono hw, h3⟩)
  (by
    rintro W v L (⟨rfl, rfl⟩ | ⟨o, off, c, l, w, rfl, h1, h2, h3⟩) <;> exact ⟨rfl, rfl⟩)

def NlR (W : AH) (v : AV) (x : Option (List α)) : Prop := match x with
  | none => v = .nils
  | some L => v ≠ .nils ∧ SlR W v L
instance : Rp (Option (List α)) := mkRp NlR
  (by
    rintro W W' v (_ | L) hw h
    · exact h
    · exact ⟨h.1, Rp.mono (α := List α) hw h.2⟩)
  (by
    rintro W v (_ | L) h
    · cases (show v = .nils from h); exact ⟨rfl, rfl⟩
    · exact ⟨(Rp.one (α := List α) rfl).2 h.2, by have := Rp.scal (α := List α) h.2; rw [(Rp.one (α := List α) rfl).2 h.2] at this; simpa using this⟩)
end

section
variable {α β : Type} [Rp α] [Rp β]
def PrR (W : AH) (v : AV) (x : α × β) : Prop := ∃ a b, v = .agg (a.cells ++ b.cells) ∧ Rp.rv W a x.1 ∧ Rp.rv W b x.2
instance : Rp (α × β) where
  ag := true
  sz := Rp.sz α + Rp.sz β
  rv := PrR
  mono := by
    rintro W W' v x hw ⟨a, b, rfl, h1, h2⟩
    exact ⟨a, b, rfl, Rp.mono hw h1, Rp.mono hw h2⟩
  cells := by
    rintro W v x ⟨a, b, rfl, h1, h2⟩
    show (a.cells ++ b.cells).length = _
    rw [List.length_append, Rp.cells h1, Rp.cells h2]
  scal := by
    rintro W v x ⟨a, b, rfl, h1, h2⟩
    show (a.cells ++ b.cells).all AV.scalar = true
    rw [List.all_append, Rp.scal h1, Rp.scal h2]; rfl
  one := fun h => by cases h
  agg := by
    rintro - W v x ⟨a, b, rfl, h1, h2⟩
    rfl
  pos := Nat.add_pos_left Rp.pos _
instance [Fl α] [Fl β] : Fl (α × β) := ⟨fun {W W' v x} ⟨a, b, h, h1, h2⟩ => ⟨a, b, h, Fl.flat h1, Fl.flat h2⟩⟩
end

end Go.AM
namespace Go.AM

abbrev w64 (x : Int) : Int := IntKind.wrap .i64 x
section
variable {α : Type}
def gi (L : List α) (i : Int) : Option α := if 0 ≤ i then L[i.toNat]? else none
def si (L : List α) (i : Int) (x : α) : Option (List α) := if 0 ≤ i ∧ i < L.length then some (L.set i.toNat x) else none
def pus (b : Nat) (L M : List α) : Option (List α) := if (L.length + M.length) * b ≤ 140737488355328 ∧ L.length + M.length ≤ 9223372036854775807 then some (L ++ M) else none
def mkz (b : Nat) (n c : Int) (z : α) : Option (List α) := if 0 ≤ n ∧ n ≤ c ∧ c ≤ 9223372036854775807 ∧ b * c ≤ 281474976710656 then some (List.replicate n.toNat z) else none
def bd (x : Option Int) (dflt top : Nat) : Option Nat := match x with
  | none => some dflt
  | some n => if 0 ≤ n ∧ n ≤ top then some n.toNat else none
def sub (L : List α) (lo hi : Option Int) : Option (List α) :=
  (bd hi L.length L.length).bind fun h => (bd lo 0 h).map fun l => (L.take h).drop l

theorem gi_some {L : List α} {i : Int} {x : α} (h : gi L i = some x) : ∃ k : Nat, i = k ∧ ∃ hk : k < L.length, L[k] = x := by
  unfold gi at h
  split at h
  · rename_i h0
    obtain ⟨h1, h2⟩ := List.getElem?_eq_some_iff.1 h
    exact ⟨i.toNat, by omega, h1, h2⟩
  · cases h
theorem si_some {L L' : List α} {i : Int} {x : α} (h : si L i x = some L') : ∃ k : Nat, i = k ∧ k < L.length ∧ L' = L.set k x := by
  unfold si at h
  split at h
  · rename_i h0
    cases h
    exact ⟨i.toNat, by omega, by omega, rfl⟩
  · cases h
theorem pus_some {b : Nat} {L M L' : List α} (h : pus b L M = some L') : L' = L ++ M ∧ (L.length + M.length) * b ≤ 140737488355328 ∧ L.length + M.length ≤ 9223372036854775807 := by
  unfold pus at h
  split at h
  · rename_i h0
    cases h
    exact ⟨rfl, h0⟩
  · cases h
end

section
variable {α : Type} [Rp α] {G : List Frag} {W H : AH} {v : AV} {L : List α}

theorem sl_ln (h : SlR W v L) : ln v = some (.int .i64 L.length) := by
  rcases h with ⟨rfl, rfl⟩ | ⟨o, off, c, l, w, rfl, -⟩ <;> rfl
theorem fz_ln (h : Rp.rv W v L) : ln v = some (.int .i64 L.length) := sl_ln h

theorem cv_one (h : Rp.ag α = false) (l : List AV) (k : Nat) : cv α l k = l.getD k (.tup []) := by simp [cv, h]
theorem cv_agg (h : Rp.ag α = true) (l : List AV) (k : Nat) : cv α l k = .agg ((l.drop k).take (Rp.sz α)) := by simp [cv, h]

theorem row_ld {o k : Nat} {l : List AV} {w : Bool} (h : H[o]? = some (.row l w)) (hk : k < l.length) : ld H (.ptr o k) = some (l.getD k (.tup [])) := by
  simp only [ld, rowAt, h, Option.bind_some, List.getD_eq_getElem?_getD, List.getElem?_eq_getElem hk, Option.getD_some]
theorem row_lda {o k n : Nat} {l : List AV} {w : Bool} (h : H[o]? = some (.row l w)) (hk : k + n ≤ l.length) : lda n H (.ptr o k) = some (.agg ((l.drop k).take n)) := by
  simp only [lda, rowAt, h, Option.bind_some, hk, if_true]

theorem cell_lt {i n z t m : Nat} (h : i < n) (h2 : t + n * z ≤ m) (hz : 0 < z) : t + i * z + z ≤ m := by
  have : (i + 1) * z ≤ n * z := Nat.mul_le_mul_right z h
  rw [Nat.succ_mul] at this
  omega

theorem ia_sli {o off n z : Nat} {c : Option Nat} {k : IntKind} {i : Nat} (h : i < n) : ia z (.sli o off n z c) (.int k i) = some (.ptr o (off + i * z)) := by
  simp only [ia]
  rw [if_pos ⟨by omega, by omega, trivial⟩]
  simp

theorem fz_at {k : IntKind} {i : Int} {x : α} (hst : St G W H) (h : Rp.rv W v L) (hx : gi L i = some x) (ha : Rp.ag α = false) :
    ∃ p y, ia 1 v (.int k i) = some p ∧ ld H p = some y ∧ Rp.rv W y x := by
  obtain ⟨j, rfl, hj, rfl⟩ := gi_some hx
  rcases (show SlR W v L from h) with ⟨rfl, rfl⟩ | ⟨o, off, c, l, w, rfl, h1, h2, h3, h9⟩
  · simp at hj
  · have hz := (Rp.one ha).1
    have h4 := h2.el j hj
    have h5 := h2.fit
    rw [hz] at h4 h5 ⊢
    rw [cv_one ha] at h4
    exact ⟨_, _, ia_sli hj, row_ld (hst.frz _ _ h1 (by simp)) (by omega), h4⟩
theorem fz_atA {k : IntKind} {i : Int} {x : α} (n : Nat) (hn : Rp.sz α = n) (hst : St G W H) (h : Rp.rv W v L) (hx : gi L i = some x) (ha : Rp.ag α = true) :
    ∃ p y, ia n v (.int k i) = some p ∧ lda n H p = some y ∧ Rp.rv W y x := by
  subst hn
  obtain ⟨j, rfl, hj, rfl⟩ := gi_some hx
  rcases (show SlR W v L from h) with ⟨rfl, rfl⟩ | ⟨o, off, c, l, w, rfl, h1, h2, h3, h9⟩
  · simp at hj
  · have h4 := h2.el j hj
    have h5 := h2.fit
    rw [cv_agg ha] at h4
    exact ⟨_, _, ia_sli hj, row_lda (hst.frz _ _ h1 (by simp)) (cell_lt hj h5 Rp.pos), h4⟩

def OwS (W : AH) (v : AV) (g : Frag) (L : List α) : Prop :=
  (v = .nils ∧ L = [] ∧ g = []) ∨ ∃ o c l, v = .sli o 0 L.length (Rp.sz α) c ∧ g = [(o, .row l true)] ∧ SlC W l 0 L ∧ L.length ≤ 9223372036854775807 ∧ ∀ c', c = some c' → l.length = c' * Rp.sz α

theorem OwS.mono {W W' : AH} {g : Frag} (hw : Wle W W') (h : OwS W v g L) : OwS W' v g L := by
  rcases h with h | ⟨o, c, l, h1, h2, h3, h4⟩
  · exact .inl h
  · exact .inr ⟨o, c, l, h1, h2, h3.mono hw, h4⟩
theorem OwS.flat [Fl α] {W W' : AH} {g : Frag} (h : OwS W v g L) : OwS W' v g L := by
  rcases h with h | ⟨o, c, l, h1, h2, h3, h4⟩
  · exact .inl h
  · exact .inr ⟨o, c, l, h1, h2, ⟨h3.fit, fun i hi => Fl.flat (h3.el i hi)⟩, h4⟩
theorem ow_nil (W : AH) : OwS W .nils [] ([] : List α) := .inl ⟨rfl, rfl, rfl⟩
theorem St.nil {G : List Frag} {W H : AH} (h : St G W H) : St ([] :: G) W H := ⟨h.len, h.frz, by simpa using h.own, by simpa using h.nd⟩

theorem ow_ln {g : Frag} (h : OwS W v g L) : ln v = some (.int .i64 L.length) := by
  rcases h with ⟨rfl, rfl, -⟩ | ⟨o, c, l, rfl, -⟩ <;> rfl

theorem St.mem {g : Frag} (hst : St G W H) (hm : g ∈ G) {o : Nat} {a : AO} (hg : g = [(o, a)]) : H[o]? = some a :=
  (hst.own (o, a) (List.mem_flatten.2 ⟨g, hm, by simp [hg]⟩)).1

theorem ow_at {k : IntKind} {i : Int} {x : α} {g : Frag} (hst : St G W H) (hm : g ∈ G) (h : OwS W v g L) (hx : gi L i = some x) (ha : Rp.ag α = false) :
    ∃ p y, ia 1 v (.int k i) = some p ∧ ld H p = some y ∧ Rp.rv W y x := by
  obtain ⟨j, rfl, hj, rfl⟩ := gi_some hx
  rcases h with ⟨rfl, rfl, -⟩ | ⟨o, c, l, rfl, h1, h2, h3, h4⟩
  · simp at hj
  · have hz := (Rp.one ha).1
    have h4 := h2.el j hj
    have h5 := h2.fit
    rw [hz] at h4 h5 ⊢
    rw [cv_one ha] at h4
    exact ⟨_, _, ia_sli hj, row_ld (hst.mem hm h1) (by omega), h4⟩
theorem ow_atA {k : IntKind} {i : Int} {x : α} {g : Frag} (n : Nat) (hn : Rp.sz α = n) (hst : St G W H) (hm : g ∈ G) (h : OwS W v g L) (hx : gi L i = some x) (ha : Rp.ag α = true) :
    ∃ p y, ia n v (.int k i) = some p ∧ lda n H p = some y ∧ Rp.rv W y x := by
  subst hn
  obtain ⟨j, rfl, hj, rfl⟩ := gi_some hx
  rcases h with ⟨rfl, rfl, -⟩ | ⟨o, c, l, rfl, h1, h2, h3, h4⟩
  · simp at hj
  · have h4 := h2.el j hj
    have h5 := h2.fit
    rw [cv_agg ha] at h4
    exact ⟨_, _, ia_sli hj, row_lda (hst.mem hm h1) (cell_lt hj h5 Rp.pos), h4⟩

theorem Rp.self {W : AH} {v : AV} {x : α} (h : Rp.rv W v x) : (if Rp.ag α then .agg v.cells else v.cells.getD 0 (.tup [])) = v := by
  cases ha : Rp.ag α with
  | true => simp only [if_true]; exact (Rp.agg ha h).symm
  | false => simp [(Rp.one ha).2 h]

theorem splice_len {l xs : List AV} {i : Nat} (h : i + xs.length ≤ l.length) : (splice l i xs).length = l.length := by
  simp [splice]; omega
theorem splice_get {l xs : List AV} {i k : Nat} (h : i + xs.length ≤ l.length) : (splice l i xs)[k]? = if i ≤ k ∧ k < i + xs.length then xs[k - i]? else l[k]? := by
  unfold splice
  rw [List.append_assoc, List.getElem?_append]
  simp only [List.length_take]
  split
  · rename_i h1
    rw [if_neg (by omega), List.getElem?_take, if_pos (by omega)]
  · rename_i h1
    rw [List.getElem?_append]
    split
    · rename_i h2
      rw [if_pos (by omega)]
      congr 1; omega
    · rename_i h2
      rw [List.getElem?_drop]
      by_cases h3 : k < l.length
      · rw [if_neg (by omega)]
        congr 1; omega
      · rw [if_neg (by omega), List.getElem?_eq_none (by omega), List.getElem?_eq_none (by omega)]

theorem cv_ext {l l' : List AV} {k k' : Nat} (hz : Rp.ag α = false → Rp.sz α = 1) (h : ∀ j, j < Rp.sz α → l[k + j]? = l'[k' + j]?) : cv α l k = cv α l' k' := by
  unfold cv
  cases ha : Rp.ag α with
  | false =>
    have := h 0 Rp.pos
    simp only [Nat.add_zero] at this
    simp [List.getD_eq_getElem?_getD, this]
  | true =>
    simp only [if_true, AV.agg.injEq]
    apply List.ext_getElem?
    intro j
    rw [List.getElem?_take, List.getElem?_take]
    split
    · rename_i hj
      rw [List.getElem?_drop, List.getElem?_drop]
      exact h j hj
    · rfl

theorem cv_cells {W : AH} {y : AV} {x : α} (h : Rp.rv W y x) : cv α y.cells 0 = y := by
  have := Rp.self h
  unfold cv
  rw [List.drop_zero, List.take_of_length_le (Nat.le_of_eq (Rp.cells h))]
  exact this

theorem SlC.set {l : List AV} {off : Nat} {y : AV} {x : α} (h : SlC W l off L) {j : Nat} (hj : j < L.length) (hy : Rp.rv W y x) : SlC W (splice l (off + j * Rp.sz α) y.cells) off (L.set j x) := by
  have hc := Rp.cells hy
  have hle := cell_lt hj h.fit (Rp.pos (α := α))
  have hle' : off + j * Rp.sz α + y.cells.length ≤ l.length := by rw [hc]; exact hle
  refine ⟨by rw [splice_len hle', List.length_set]; exact h.fit, fun i hi => ?_⟩
  rw [List.length_set] at hi
  rw [List.getElem_set]
  split
  · rename_i e
    subst e
    have : cv α (splice l (off + j * Rp.sz α) y.cells) (off + j * Rp.sz α) = cv α y.cells 0 := by
      refine cv_ext (fun ha => (Rp.one ha).1) fun t ht => ?_
      rw [splice_get hle', if_pos (by omega)]
      congr 1; omega
    rw [this, cv_cells hy]
    exact hy
  · rename_i e
    have : cv α (splice l (off + j * Rp.sz α) y.cells) (off + i * Rp.sz α) = cv α l (off + i * Rp.sz α) := by
      refine cv_ext (fun ha => (Rp.one ha).1) fun t ht => ?_
      rw [splice_get hle', if_neg]
      rw [hc]
      rintro ⟨a, b⟩
      rcases Nat.lt_or_gt_of_ne e with h1 | h1
      · have := Nat.mul_le_mul_right (Rp.sz α) (show j + 1 ≤ i from h1)
        rw [Nat.succ_mul] at this
        omega
      · have := Nat.mul_le_mul_right (Rp.sz α) (show i + 1 ≤ j from h1)
        rw [Nat.succ_mul] at this
        omega
    rw [this]
    exact h.el i hi

theorem ow_set {k : IntKind} {i : Int} {x : α} {g : Frag} {L' : List α} {y : AV} (n : Nat) (hn : Rp.sz α = n) (hst : St (g :: G) W H) (h : OwS W v g L) (hy : Rp.rv W y x) (hx : si L i x = some L') :
    ∃ p H' g', ia n v (.int k i) = some p ∧ st n p y H = some H' ∧ St (g' :: G) W H' ∧ OwS W v g' L' := by
  subst hn
  obtain ⟨j, rfl, hj, rfl⟩ := si_some hx
  rcases h with ⟨rfl, rfl, -⟩ | ⟨o, c, l, rfl, rfl, h2, h3, h4⟩
  · simp at hj
  · have hc := Rp.cells hy
    have hle := cell_lt hj h2.fit (Rp.pos (α := α))
    have hle' : 0 + j * Rp.sz α + y.cells.length ≤ l.length := by rw [hc]; exact hle
    refine ⟨_, H.set o (.row (splice l (0 + j * Rp.sz α) y.cells) true), [(o, .row (splice l (0 + j * Rp.sz α) y.cells) true)], ia_sli hj, ?_, hst.wr _, .inr ⟨o, c, _, by rw [List.length_set], rfl, h2.set hj hy, by rw [List.length_set]; exact h3, fun c' hc' => by rw [splice_len hle']; exact h4 c' hc'⟩⟩
    have hr := hst.mem (List.mem_cons_self ..) rfl
    simp only [st, ownAt, hr]
    rw [if_pos ⟨hc, hle, Rp.scal hy⟩]

theorem cap_ok {l : List AV} {c : Option Nat} (h2 : SlC W l 0 L) (h4 : ∀ c', c = some c' → l.length = c' * Rp.sz α) : L.length ≤ c.getD L.length := by
  cases c with
  | none => simp
  | some c' =>
    have h := h2.fit
    rw [h4 c' rfl, Nat.zero_add] at h
    exact Nat.le_of_mul_le_mul_right h Rp.pos
theorem ow_frz {g : Frag} (hst : St (g :: G) W H) (h : OwS W v g L) : ∃ W', Wle W W' ∧ St G W' H ∧ Rp.rv W' v L := by
  rcases h with ⟨rfl, rfl, rfl⟩ | ⟨o, c, l, rfl, rfl, h2, h3, h4⟩
  · exact ⟨W, .refl _, hst.drop, .inl ⟨rfl, rfl⟩⟩
  · obtain ⟨h5, h6⟩ := hst.frzO
    exact ⟨_, h5, h6, .inr ⟨o, 0, c, l, true, rfl, by rw [List.getElem?_set_self]; rw [hst.len]; exact lt_of_get (hst.mem (List.mem_cons_self ..) rfl), h2.mono h5, h3, cap_ok h2 h4⟩⟩

theorem ow_lend {g : Frag} (hst : St (g :: G) W H) (h : OwS W v g L) : ∃ W1, Wle W W1 ∧ St G W1 H ∧ Rp.rv W1 v L ∧
    ∀ G' W1' H', Wle W1 W1' → St G' W1' H' → ∃ W', Wle W W' ∧ St (g :: G') W' H' ∧ OwS W' v g L := by
  rcases h with ⟨rfl, rfl, rfl⟩ | ⟨o, c, l, rfl, rfl, h2, h3, h4⟩
  · exact ⟨W, .refl _, hst.drop, .inl ⟨rfl, rfl⟩, fun G' W1' H' hw h => ⟨W1', hw, h.nil, ow_nil _⟩⟩
  · obtain ⟨h5, h6⟩ := hst.frzO
    have hd := (hst.own (o, .row l true) (by simp)).2
    have hlt : o < W.length := lt_of_get hd
    refine ⟨_, h5, h6, .inr ⟨o, 0, c, l, true, rfl, by rw [List.getElem?_set_self hlt], h2.mono h5, h3, cap_ok h2 h4⟩, fun G' W1' H' hw h => ?_⟩
    have h7 := hw o (.row l true) (by rw [List.getElem?_set_self hlt]) (by simp)
    have h8 : Wle W (W1'.set o .dead) := Wle.thaw (W1 := W) hd hw
    exact ⟨_, h8, h.thaw h7 (by simp), .inr ⟨o, c, l, rfl, rfl, h2.mono h8, h3, h4⟩⟩

theorem zrow_ln (z : List AV) : ∀ n, (zrow z n).length = n * z.length
  | 0 => by simp [zrow]
  | n + 1 => by simp only [zrow, List.length_append, zrow_ln z n, Nat.succ_mul]; omega
theorem zrow_at (z : List AV) : ∀ (n i j : Nat), i < n → j < z.length → (zrow z n)[i * z.length + j]? = z[j]?
  | n + 1, 0, j, _, hj => by simp only [zrow, Nat.zero_mul, Nat.zero_add, List.getElem?_append_left hj]
  | n + 1, i + 1, j, hi, hj => by
    simp only [zrow]
    rw [List.getElem?_append_right (by rw [Nat.succ_mul]; omega)]
    have : (i + 1) * z.length + j - z.length = i * z.length + j := by rw [Nat.succ_mul]; omega
    rw [this]
    exact zrow_at z n i j (by omega) hj

theorem ow_mk {kn kc : IntKind} {b : Nat} {n c : Int} {x : α} {y : AV} (hst : St G W H) (hy : Rp.rv W y x) (z : List AV) (hz : y.cells = z) (hx : mkz b n c x = some L) :
    ∃ v H' g W', mk z b (.int kn n) (.int kc c) H = some (v, H') ∧ Wle W W' ∧ St (g :: G) W' H' ∧ OwS W' v g L := by
  subst hz
  unfold mkz at hx
  split at hx
  · rename_i h0
    cases hx
    obtain ⟨h1, h2, h3, h4⟩ := h0
    have hcl := Rp.cells hy
    refine ⟨_, _, [(H.length, .row (zrow y.cells c.toNat) true)], _, by simp only [mk]; rw [if_pos ⟨h1, h2, h3, h4⟩], Wle.app _ _, hst.new _, .inr ⟨H.length, some c.toNat, zrow y.cells c.toNat, by rw [List.length_replicate, hcl], rfl, ⟨?_, fun i hi => ?_⟩, by rw [List.length_replicate]; omega, fun c' hc' => ?_⟩⟩
    · rw [List.length_replicate, zrow_ln, hcl, Nat.zero_add]
      exact Nat.mul_le_mul_right _ (by omega)
    · rw [List.length_replicate] at hi
      rw [List.getElem_replicate]
      have : cv α (zrow y.cells c.toNat) (0 + i * Rp.sz α) = cv α y.cells 0 := by
        refine cv_ext (fun ha => (Rp.one ha).1) fun t ht => ?_
        rw [Nat.zero_add, Nat.zero_add, ← hcl]
        exact zrow_at _ _ _ _ (by omega) (by rw [hcl]; exact ht)
      rw [this, cv_cells hy]
      exact Rp.mono (Wle.app _ _) hy
    · cases hc'
      rw [zrow_ln, hcl]
  · cases hx
end
end Go.AM
namespace Go.AM

section
variable {α : Type} [Rp α] {G : List Frag} {W H : AH} {v : AV} {L : List α}

structure Sn (α : Type) [Rp α] (W H : AH) (v : AV) (L : List α) (cs : List AV) : Prop where
  seen : AM.seen H (Rp.sz α) v = some cs
  len : lenOf v = some L.length
  ln : cs.length = L.length * Rp.sz α
  el : SlC W cs 0 L
  sc : cs.all AV.scalar = true

theorem cv_part {l : List AV} {off n i : Nat} (hi : i < n) (hl : off + n * Rp.sz α ≤ l.length) : cv α ((l.drop off).take (n * Rp.sz α)) (0 + i * Rp.sz α) = cv α l (off + i * Rp.sz α) := by
  refine cv_ext (fun ha => (Rp.one ha).1) fun t ht => ?_
  have := cell_lt (t := 0) hi (Nat.le_refl _) (Rp.pos (α := α))
  rw [List.getElem?_take, if_pos (by omega), List.getElem?_drop]
  congr 1; omega

theorem el_scal {l : List AV} {off n : Nat} (h : SlC W l off L) (hn : n = L.length) : ((l.drop off).take (n * Rp.sz α)).all AV.scalar = true := by
  subst hn
  rw [List.all_eq_true]
  intro c hc
  obtain ⟨k, hk⟩ := List.mem_iff_getElem?.1 hc
  obtain ⟨hk1, -⟩ := List.getElem?_eq_some_iff.1 hk
  simp only [List.length_take, List.length_drop] at hk1
  have hz := Rp.pos (α := α)
  have hi : k / Rp.sz α < L.length := by
    rw [Nat.div_lt_iff_lt_mul hz]; omega
  have he := h.el _ hi
  have hs := Rp.scal he
  rw [List.all_eq_true] at hs
  refine hs c ?_
  have hkk : k / Rp.sz α * Rp.sz α + k % Rp.sz α = k := by rw [Nat.mul_comm]; exact Nat.div_add_mod k (Rp.sz α)
  have hmod := Nat.mod_lt k hz
  rw [List.getElem?_take, if_pos (by omega), List.getElem?_drop] at hk
  cases ha : Rp.ag α with
  | true =>
    rw [cv_agg ha]
    show c ∈ (l.drop _).take _
    refine List.mem_iff_getElem?.2 ⟨k % Rp.sz α, ?_⟩
    rw [List.getElem?_take, if_pos hmod, List.getElem?_drop, ← hk]
    congr 1; omega
  | false =>
    have h1 := (Rp.one ha).1
    have h2 := (Rp.one ha).2 he
    rw [h2, cv_one ha]
    rw [h1] at hmod hkk ⊢
    have : k / 1 = k := Nat.div_one k
    rw [this, Nat.mul_one, List.getD_eq_getElem?_getD, hk]
    simp

theorem fz_sn (hst : St G W H) (h : Rp.rv W v L) : ∃ cs, Sn α W H v L cs := by
  rcases (show SlR W v L from h) with ⟨rfl, rfl⟩ | ⟨o, off, c, l, w, rfl, h1, h2, h3, h9⟩
  · exact ⟨[], rfl, rfl, by simp, ⟨by simp, fun i hi => by simp at hi⟩, rfl⟩
  · refine ⟨(l.drop off).take (L.length * Rp.sz α), ?_, rfl, ?_, ⟨?_, fun i hi => ?_⟩, el_scal h2 rfl⟩
    · have := hst.frz _ _ h1 (by simp)
      have hf := h2.fit
      simp [AM.seen, rowAt, this, hf]
    · have hf := h2.fit
      simp only [List.length_take, List.length_drop]; omega
    · have hf := h2.fit
      simp only [List.length_take, List.length_drop]; omega
    · rw [cv_part hi h2.fit]; exact h2.el i hi
theorem ow_sn {g : Frag} (hst : St G W H) (hm : g ∈ G) (h : OwS W v g L) : ∃ cs, Sn α W H v L cs := by
  rcases h with ⟨rfl, rfl, -⟩ | ⟨o, c, l, rfl, h1, h2, h3, h4⟩
  · exact ⟨[], rfl, rfl, by simp, ⟨by simp, fun i hi => by simp at hi⟩, rfl⟩
  · refine ⟨(l.drop 0).take (L.length * Rp.sz α), ?_, rfl, ?_, ⟨?_, fun i hi => ?_⟩, el_scal h2 rfl⟩
    · have := hst.mem hm h1
      have hf := h2.fit
      simp only [Nat.zero_add] at hf
      simp [AM.seen, rowAt, this, hf]
    · have hf := h2.fit
      simp only [List.length_take, List.length_drop]; omega
    · have hf := h2.fit
      simp only [List.length_take, List.length_drop]; omega
    · rw [cv_part hi h2.fit]; exact h2.el i hi

theorem SlC.append {l cs : List AV} {M : List α} (h : SlC W l 0 L) (hm : SlC W cs 0 M) (hl : l.length = L.length * Rp.sz α) : SlC W (l ++ cs) 0 (L ++ M) := by
  have h1 := h.fit
  have h2 := hm.fit
  refine ⟨by rw [List.length_append, List.length_append, Nat.add_mul]; omega, fun i hi => ?_⟩
  rw [List.getElem_append]
  split
  · rename_i hlt
    have : cv α (l ++ cs) (0 + i * Rp.sz α) = cv α l (0 + i * Rp.sz α) := by
      refine cv_ext (fun ha => (Rp.one ha).1) fun t ht => ?_
      have := cell_lt (t := 0) hlt (Nat.le_refl _) (Rp.pos (α := α))
      rw [List.getElem?_append_left (by omega)]
    rw [this]; exact h.el i hlt
  · rename_i hge
    have hi' : i - L.length < M.length := by rw [List.length_append] at hi; omega
    have : cv α (l ++ cs) (0 + i * Rp.sz α) = cv α cs (0 + (i - L.length) * Rp.sz α) := by
      refine cv_ext (fun ha => (Rp.one ha).1) fun t ht => ?_
      have e : i * Rp.sz α = L.length * Rp.sz α + (i - L.length) * Rp.sz α := by rw [← Nat.add_mul]; congr 1; omega
      rw [List.getElem?_append_right (by omega)]
      congr 1; omega
    rw [this]; exact hm.el _ hi'
theorem SlC.cutTo {l : List AV} {n : Nat} (h : SlC W l 0 L) (hn : n = L.length * Rp.sz α) : SlC W ((l.drop 0).take n) 0 L := by
  subst hn
  exact ⟨by have := h.fit; simp only [List.length_take, List.length_drop]; omega, fun i hi => by rw [cv_part hi h.fit]; exact h.el i hi⟩

theorem ow_apps {g : Frag} {w : AV} {M L' : List α} {cs : List AV} {b : Nat} (z : List AV) (hz : z.length = Rp.sz α) (hst : St (g :: G) W H) (h : OwS W v g L) (hs : Sn α W H w M cs) (hx : pus b L M = some L') :
    ∃ v' H' g' W', ap z b v w H = some (v', H') ∧ Wle W W' ∧ St (g' :: G) W' H' ∧ OwS W' v' g' L' := by
  obtain ⟨rfl, hb, hmx⟩ := pus_some hx
  have e : ap z b v w H = aappend z b v cs M.length H := by simp only [ap, hz, hs.seen, hs.len]
  rw [e]
  have hzp : 0 < z.length := by rw [hz]; exact Rp.pos
  rcases Nat.eq_zero_or_pos M.length with h0 | hpos
  · have hM : M = [] := List.length_eq_zero_iff.1 h0
    subst hM
    have hcs : cs = [] := List.length_eq_zero_iff.1 (by rw [hs.ln]; simp)
    subst hcs
    simp only [List.append_nil]
    rcases h with ⟨rfl, rfl, rfl⟩ | ⟨o, c, l, rfl, rfl, h2, h3, h4⟩
    · exact ⟨.nils, H, [], W, by simp only [aappend]; rw [if_neg (by omega), if_pos (by rfl)], .refl _, hst, ow_nil _⟩
    · refine ⟨_, H, _, W, ?_, .refl _, hst, .inr ⟨o, c, l, rfl, rfl, h2, h3, h4⟩⟩
      simp only [aappend]
      rw [if_neg (by omega), if_neg (by simpa using hz.symm), if_pos (by rfl), hz]
  · have hcl := hs.ln
    rcases h with ⟨rfl, rfl, rfl⟩ | ⟨o, c, l, rfl, rfl, h2, h3, h4⟩
    · refine ⟨.sli H.length 0 M.length (Rp.sz α) none, _, [(H.length, .row cs true)], _, by simp only [aappend]; rw [if_neg (by omega), if_neg (by omega), if_pos ⟨by simpa using hb, by simpa using hmx⟩, hz]; rfl, Wle.app _ _, hst.drop.new _, .inr ⟨H.length, none, cs, by simp, rfl, ?_, by simpa using hmx, by simp⟩⟩
      simpa using hs.el.mono (Wle.app _ _)
    · have hr := hst.mem (List.mem_cons_self ..) rfl
      have hfit := h2.fit
      simp only [Nat.zero_add] at hfit
      simp only [aappend]
      rw [if_neg (by omega), if_neg (by simpa using hz.symm), if_neg (by omega)]
      simp only [rowAt, ownAt, hr, hz, Nat.zero_add, Option.isSome_some, true_and, hs.sc, and_self, if_true]
      by_cases hin : L.length + M.length ≤ c.getD (L.length + M.length) ∧ (L.length + M.length) * Rp.sz α ≤ l.length
      · rw [if_pos hin]
        have hlen : L.length * Rp.sz α + cs.length ≤ l.length := by
          have := hin.2; rw [Nat.add_mul] at this; omega
        refine ⟨_, _, [(o, .row (splice l (L.length * Rp.sz α) cs) true)], W, rfl, .refl _, hst.wr _, .inr ⟨o, c, _, by rw [List.length_append], rfl, ⟨?_, fun i hi => ?_⟩, by rw [List.length_append]; exact hmx, fun c' hc' => by rw [splice_len hlen]; exact h4 c' hc'⟩⟩
        · rw [splice_len hlen, List.length_append]; have := hin.2; omega
        · rw [List.getElem_append]
          split
          · rename_i hlt
            have : cv α (splice l (L.length * Rp.sz α) cs) (0 + i * Rp.sz α) = cv α l (0 + i * Rp.sz α) := by
              refine cv_ext (fun ha => (Rp.one ha).1) fun t ht => ?_
              have := cell_lt (t := 0) hlt (Nat.le_refl _) (Rp.pos (α := α))
              rw [splice_get hlen, if_neg (by omega)]
            rw [this]; exact h2.el i hlt
          · rename_i hge
            have hi' : i - L.length < M.length := by rw [List.length_append] at hi; omega
            have : cv α (splice l (L.length * Rp.sz α) cs) (0 + i * Rp.sz α) = cv α cs (0 + (i - L.length) * Rp.sz α) := by
              refine cv_ext (fun ha => (Rp.one ha).1) fun t ht => ?_
              have e : i * Rp.sz α = L.length * Rp.sz α + (i - L.length) * Rp.sz α := by rw [← Nat.add_mul]; congr 1; omega
              have := cell_lt (t := 0) hi' (Nat.le_refl _) (Rp.pos (α := α))
              rw [splice_get hlen, if_pos (by omega)]
              congr 1; omega
            rw [this]; exact hs.el.el _ hi'
      · rw [if_neg hin]
        rw [if_pos ⟨hfit, hb, hmx⟩]
        have hnew : ∀ K : AH, K.length = H.length → St G W K → OwS (W ++ [.dead]) (.sli K.length 0 (L.length + M.length) (Rp.sz α) none) [(K.length, .row ((l.drop 0).take (L.length * Rp.sz α) ++ cs) true)] (L ++ M) := by
          intro K hK hs'
          refine .inr ⟨K.length, none, (l.drop 0).take (L.length * Rp.sz α) ++ cs, by rw [List.length_append], rfl, ?_, by rw [List.length_append]; exact hmx, by simp⟩
          exact SlC.append ((h2.cutTo rfl).mono (Wle.app _ _)) (hs.el.mono (Wle.app _ _)) (by simp only [List.length_take, List.length_drop]; omega)
        cases c with
        | some c' =>
          have := h4 c' rfl
          simp only [Option.getD_some] at hin
          have hc' : c' < L.length + M.length := by
            rcases Nat.lt_or_ge c' (L.length + M.length) with h5 | h5
            · exact h5
            · exact absurd ⟨h5, by rw [this]; exact Nat.mul_le_mul_right _ h5⟩ hin
          refine ⟨_, _, _, _, by simp only [hc', if_true]; rfl, Wle.app _ _, hst.drop.new _, hnew H rfl hst.drop⟩
        | none =>
          have hs' : St G W (H.set o .dead) := (hst.wr .dead).drop
          have := hnew _ (by simp) hs'
          have hl : (H.set o .dead).length = H.length := by simp
          rw [hl] at this
          refine ⟨_, _, _, _, rfl, Wle.app _ _, ?_, this⟩
          have := hs'.new (.row ((l.drop 0).take (L.length * Rp.sz α) ++ cs) true)
          rw [hl] at this
          exact this

theorem ow_lit {l : List AV} {M : List α} {n k : Nat} (hn : Rp.sz α = n) (hk : M.length = k) (hst : St G W H) (hl : SlC W l 0 M) (hlen : l.length = k * n) (hsm : k ≤ 9223372036854775807) :
    ∃ g W', Wle W W' ∧ St (g :: G) W' (H ++ [.row l true]) ∧ OwS W' (.sli H.length 0 k n (some k)) g M := by
  subst hn hk
  exact ⟨_, _, Wle.app _ _, hst.new _, .inr ⟨H.length, some M.length, l, rfl, rfl, hl.mono (Wle.app _ _), hsm, fun c' hc' => by cases hc'; exact hlen⟩⟩
theorem sc_nil : SlC W [] 0 ([] : List α) := ⟨by simp, fun i hi => by simp at hi⟩
theorem sc_cons {y : AV} {x : α} {l : List AV} (hy : Rp.rv W y x) (h : SlC W l 0 L) : SlC W (y.cells ++ l) 0 (x :: L) := by
  have hc := Rp.cells hy
  refine ⟨by rw [List.length_append, List.length_cons, Nat.succ_mul, hc]; have := h.fit; omega, fun i hi => ?_⟩
  cases i with
  | zero =>
    have : cv α (y.cells ++ l) (0 + 0 * Rp.sz α) = cv α y.cells 0 := by
      refine cv_ext (fun ha => (Rp.one ha).1) fun t ht => ?_
      rw [List.getElem?_append_left (by rw [hc]; omega)]
      congr 1; omega
    rw [this, cv_cells hy]; exact hy
  | succ i =>
    simp only [List.getElem_cons_succ]
    have : cv α (y.cells ++ l) (0 + (i + 1) * Rp.sz α) = cv α l (0 + i * Rp.sz α) := by
      refine cv_ext (fun ha => (Rp.one ha).1) fun t ht => ?_
      rw [Nat.succ_mul, List.getElem?_append_right (by rw [hc]; omega)]
      congr 1; omega
    rw [this]; exact h.el i (by simpa using hi)

def psOf (n : Nat) : Nat → List AV → List (Nat × Nat × AV)
  | _, [] => []
  | k, y :: ys => (k, n, y) :: psOf n (k + n) ys
theorem fill_go {n : Nat} : ∀ (ys : List AV) (pre z : List AV), (∀ y ∈ ys, y.cells.length = n) → z.length = ys.length * n →
    fillA (pre ++ z) (psOf n pre.length ys) = some (pre ++ ys.flatMap AV.cells)
  | [], pre, z, _, hz => by
    have : z = [] := List.length_eq_zero_iff.1 (by simpa using hz)
    simp [psOf, fillA, this]
  | y :: ys, pre, z, hy, hz => by
    have h1 : y.cells.length = n := hy y (by simp)
    have hz' : z.length = ys.length * n + n := by rw [hz, List.length_cons, Nat.succ_mul]
    simp only [psOf, fillA]
    rw [if_pos ⟨h1, by rw [List.length_append]; omega⟩]
    have : splice (pre ++ z) pre.length y.cells = (pre ++ y.cells) ++ z.drop n := by
      unfold splice
      rw [List.take_left, h1, List.drop_append, List.drop_eq_nil_of_le (by omega)]
      simp
    rw [this]
    have h2 := fill_go ys (pre ++ y.cells) (z.drop n) (fun y hy' => hy y (by simp [hy'])) (by simp; omega)
    rw [List.length_append, h1] at h2
    rw [h2]
    simp

theorem ow_cut {n : Nat} {g : Frag} {hi : Int} {kk : IntKind} (hn : Rp.sz α = n) {L' : List α} (h : OwS W v g L) (hx : sub L none (some hi) = some L') :
    ∃ v', slv n v none (some (.int kk hi)) none = some v' ∧ OwS W v' g L' := by
  subst hn
  simp only [sub, bd, Option.bind_eq_some_iff, Option.map_eq_some_iff] at hx
  obtain ⟨m, hm, l, hl, rfl⟩ := hx
  cases hl
  split at hm
  · rename_i h0
    cases hm
    rw [List.drop_zero]
    have hlen : (L.take hi.toNat).length = hi.toNat := by rw [List.length_take]; omega
    rcases h with ⟨rfl, rfl, rfl⟩ | ⟨o, c, l, rfl, rfl, h2, h3, h4⟩
    · simp only [List.length_nil] at h0
      refine ⟨.nils, ?_, by simpa using ow_nil (α := α) _⟩
      simp only [slv, bndV]
      rw [if_pos ⟨h0.1, by omega⟩]
    · have hfit := h2.fit
      have htop : (L.length : Int) ≤ (c.getD L.length : Nat) := by
        cases c with
        | none => simp
        | some c' =>
          have := h4 c' rfl
          simp only [Nat.zero_add] at hfit
          rw [this] at hfit
          have := Nat.le_of_mul_le_mul_right hfit Rp.pos
          simpa using this
      refine ⟨_, by simp only [slv, bndV, ne_eq, not_true_eq_false, if_false]; rw [if_pos ⟨h0.1, by omega⟩], ?_⟩
      refine .inr ⟨o, c.map (· - 0), l, by simp [hlen], rfl, ⟨?_, fun i hi' => ?_⟩, by rw [hlen]; omega, fun c' hc' => ?_⟩
      · rw [hlen]
        have := Nat.mul_le_mul_right (Rp.sz α) (show hi.toNat ≤ L.length by omega)
        omega
      · rw [List.getElem_take]
        exact h2.el i (by rw [hlen] at hi'; omega)
      · cases c with
        | none => cases hc'
        | some c1 => simp at hc'; subst hc'; exact h4 c1 rfl
  · cases hm

theorem bdV {lo : Option Int} {kk : IntKind} {d t : Nat} : bndV (lo.map (AV.int kk)) d t = bd lo d t := by
  cases lo <;> rfl
theorem fz_sub {n : Nat} {lo hi : Option Int} {kl kh : IntKind} (hn : Rp.sz α = n) {L' : List α} (h : Rp.rv W v L) (hx : sub L lo hi = some L') (hc : hi.isSome = true ∨ hi = none) :
    ∃ v', slv n v (lo.map (AV.int kl)) (hi.map (AV.int kh)) none = some v' ∧ Rp.rv W v' L' := by
  subst hn
  simp only [sub, Option.bind_eq_some_iff, Option.map_eq_some_iff] at hx
  obtain ⟨m, hm, l, hl, rfl⟩ := hx
  have hmL : m ≤ L.length := by
    cases hi with
    | none => simp [bd] at hm; omega
    | some i => simp only [bd] at hm; split at hm <;> simp at hm; omega
  have hlm : l ≤ m := by
    cases lo with
    | none => simp [bd] at hl; omega
    | some i => simp only [bd] at hl; split at hl <;> simp at hl; omega
  have hlen : ((L.take m).drop l).length = m - l := by rw [List.length_drop, List.length_take]; omega
  rcases (show SlR W v L from h) with ⟨rfl, rfl⟩ | ⟨o, off, c, r, w, rfl, h1, h2, h3, hch⟩
  · have h0 : m = 0 := by simpa using hmL
    subst h0
    have hm' : bd hi 0 0 = some 0 := by simpa using hm
    exact ⟨.nils, by simp only [slv, bndV.eq_1, bdV, hm', hl], .inl ⟨rfl, by simp⟩⟩
  · have hm2 : bd hi L.length (c.getD L.length) = some m := by
      cases hi with
      | none => exact hm
      | some i =>
        simp only [bd] at hm ⊢
        split at hm
        · rename_i h0; cases hm; rw [if_pos ⟨h0.1, by omega⟩]
        · cases hm
    refine ⟨.sli o (off + l * Rp.sz α) (m - l) (Rp.sz α) (c.map (· - l)), ?_, .inr ⟨o, off + l * Rp.sz α, c.map (· - l), r, w, by rw [hlen], h1, ⟨?_, fun i hi' => ?_⟩, by rw [hlen]; omega, ?_⟩⟩
    · simp only [slv, ne_eq, not_true_eq_false, if_false, bndV.eq_1, bdV, hm2, hl, Option.isSome_none, Bool.false_eq_true]
    · have hf := h2.fit
      rw [hlen]
      have := Nat.mul_le_mul_right (Rp.sz α) hmL
      have e : m * Rp.sz α = l * Rp.sz α + (m - l) * Rp.sz α := by rw [← Nat.add_mul]; congr 1; omega
      omega
    · rw [hlen] at hi'
      have := h2.el (l + i) (by omega)
      rw [Nat.add_mul, ← Nat.add_assoc] at this
      simpa [List.getElem_drop, List.getElem_take] using this
    · rw [hlen]
      cases c with
      | none => simp
      | some c' => simp only [Option.getD_some] at hch; simp; omega
end
end Go.AM
namespace Go.AM

class Ky (κ : Type) extends BEq κ, LawfulBEq κ where
  kk : KK
  enc : κ → AV
  fit : ∀ k, kfit kk (enc k) = true
  eq : ∀ a b, keyEq (enc a) (enc b) = some (a == b)
instance : Ky Int where
  kk := .int
  enc x := .int .i64 x
  fit _ := rfl
  eq a b := by simp [keyEq]
instance : BEq Str := inferInstanceAs (BEq (List UInt8))
instance : LawfulBEq Str := inferInstanceAs (LawfulBEq (List UInt8))
instance : Ky Str where
  kk := .str
  enc x := .str x
  fit _ := rfl
  eq a b := rfl

section
variable {κ ν : Type} [BEq κ]
def mget : List (κ × ν) → κ → Option ν
  | [], _ => none
  | (a, x) :: M, k => if a == k then some x else mget M k
def mput : List (κ × ν) → κ → ν → List (κ × ν)
  | [], k, x => [(k, x)]
  | (a, y) :: M, k, x => if a == k then (k, x) :: M else (a, y) :: mput M k x
end

section
variable {κ ν : Type} [Ky κ] [Rp ν] {G : List Frag} {W H : AH} {v : AV} {M : List (κ × ν)} {g : Frag}
def MpC (W : AH) : List (AV × AV) → List (κ × ν) → Prop
  | [], [] => True
  | (a, b) :: es, (k, x) :: M => a = Ky.enc k ∧ Rp.rv W b x ∧ MpC W es M
  | _, _ => False
theorem MpC.mono {W W' : AH} (hw : Wle W W') : ∀ {es : List (AV × AV)} {M : List (κ × ν)}, MpC W es M → MpC W' es M
  | [], [], _ => trivial
  | (a, b) :: es, (k, x) :: M, h => ⟨h.1, Rp.mono hw h.2.1, h.2.2.mono hw⟩
theorem MpC.len {W : AH} : ∀ {es : List (AV × AV)} {M : List (κ × ν)}, MpC W es M → es.length = M.length
  | [], [], _ => rfl
  | (a, b) :: es, (k, x) :: M, h => by simp [h.2.2.len]

def OwM (W : AH) (v : AV) (g : Frag) (M : List (κ × ν)) : Prop := ∃ o es, v = .map o ∧ g = [(o, .mp es)] ∧ MpC W es M
theorem OwM.mono {W W' : AH} (hw : Wle W W') (h : OwM W v g M) : OwM W' v g M := by
  obtain ⟨o, es, h1, h2, h3⟩ := h
  exact ⟨o, es, h1, h2, h3.mono hw⟩

theorem om_new (κ ν : Type) [Ky κ] [Rp ν] (hst : St G W H) : ∃ g W', Wle W W' ∧ St (g :: G) W' (H ++ [.mp []]) ∧ OwM W' (.map H.length) g ([] : List (κ × ν)) :=
  ⟨_, _, Wle.app _ _, hst.new _, _, _, rfl, rfl, trivial⟩
theorem om_len (hst : St G W H) (hm : g ∈ G) (h : OwM W v g M) : lm H v = some (.int .i64 M.length) := by
  obtain ⟨o, es, rfl, h2, h3⟩ := h
  simp only [lm, mapAt, hst.mem hm h2, Option.map_some, h3.len]

theorem find_get {W : AH} (k : κ) : ∀ {es : List (AV × AV)} {M : List (κ × ν)} (i : Nat), MpC W es M →
    (mget M k = none ∧ find (Ky.enc k) es i = some none) ∨ ∃ j x y, j < es.length ∧ mget M k = some x ∧ find (Ky.enc k) es i = some (some (i + j, y)) ∧ Rp.rv W y x ∧
      ∀ z w, Rp.rv W w z → MpC W (es.set j (Ky.enc k, w)) (mput M k z)
  | [], [], i, _ => .inl ⟨rfl, rfl⟩
  | (a, b) :: es, (k', x') :: M, i, h => by
    obtain ⟨rfl, h2, h3⟩ := h
    simp only [mget, find, Ky.eq, mput]
    by_cases e : k' = k
    · subst e
      refine .inr ⟨0, x', b, by simp, by simp, by simp, h2, fun z w hz => ?_⟩
      simp only [beq_self_eq_true, if_true, List.set_cons_zero]
      exact ⟨rfl, hz, h3⟩
    · have e1 : (k' == k) = false := by simpa using e
      have e2 : (k == k') = false := by simpa using fun h => e h.symm
      simp only [e1, e2, Bool.false_eq_true, if_false]
      rcases find_get k (i + 1) h3 with ⟨h4, h5⟩ | ⟨j, x, y, h4, h5, h6, h7, h8⟩
      · exact .inl ⟨h4, h5⟩
      · refine .inr ⟨j + 1, x, y, by simp; omega, h5, by rw [h6]; congr 3; omega, h7, fun z w hz => ?_⟩
        rw [List.set_cons_succ]
        exact ⟨rfl, h2, h8 z w hz⟩

theorem put_none {W : AH} (k : κ) {z : ν} {w : AV} (hz : Rp.rv W w z) : ∀ {es : List (AV × AV)} {M : List (κ × ν)}, MpC W es M → mget M k = none → MpC W (es ++ [(Ky.enc k, w)]) (mput M k z)
  | [], [], _, _ => ⟨rfl, hz, trivial⟩
  | (a, b) :: es, (k', x') :: M, h, hn => by
    obtain ⟨h1, h2, h3⟩ := h
    simp only [mget] at hn
    split at hn
    · cases hn
    · rename_i e
      simp only [mput, if_neg e]
      exact ⟨h1, h2, put_none k hz h3 hn⟩

theorem om_look {kk : KK} {kv zv : AV} {k : κ} {z : ν} (hst : St G W H) (hm : g ∈ G) (h : OwM W v g M) (hk : kv = Ky.enc k) (hkk : kk = Ky.kk κ) (hz : Rp.rv W zv z) :
    ∃ y, lk kk zv true v kv H = some (.tup [y, .bool (mget M k).isSome]) ∧ lk kk zv false v kv H = some y ∧ Rp.rv W y ((mget M k).getD z) := by
  obtain ⟨o, es, rfl, h2, h3⟩ := h
  subst hk hkk
  simp only [lk, mapAt, hst.mem hm h2, Ky.fit, if_true]
  rcases find_get k 0 h3 with ⟨h4, h5⟩ | ⟨j, x, y, h4, h5, h6, h7, h8⟩
  · exact ⟨zv, by simp [h4, h5], by simp [h5], by simpa [h4] using hz⟩
  · exact ⟨y, by simp [h5, h6], by simp [h6], by simpa [h5] using h7⟩
theorem om_put {kk : KK} {kv y : AV} {k : κ} {x : ν} (hst : St (g :: G) W H) (h : OwM W v g M) (hk : kv = Ky.enc k) (hkk : kk = Ky.kk κ) (hy : Rp.rv W y x) :
    ∃ H' g', mp kk v kv y H = some H' ∧ St (g' :: G) W H' ∧ OwM W v g' (mput M k x) := by
  obtain ⟨o, es, rfl, rfl, h3⟩ := h
  subst hk hkk
  simp only [mp, mapAt, hst.mem (List.mem_cons_self ..) rfl, Ky.fit, if_true]
  rcases find_get k 0 h3 with ⟨h4, h5⟩ | ⟨j, x', y', h4, h5, h6, h7, h8⟩
  · rw [h5]
    exact ⟨_, _, rfl, hst.wr _, _, _, rfl, rfl, put_none k hy h3 h4⟩
  · rw [h6]
    exact ⟨_, _, rfl, hst.wr _, _, _, rfl, rfl, by rw [Nat.zero_add]; exact h8 _ _ hy⟩
end

section
variable {G : List Frag} {W H : AH} {o : Nat} {v : AV}
theorem bx_ld {cs : List AV} {w : Bool} (hst : St G W H) (hm : [(o, AO.row cs w)] ∈ G) {i : Nat} (hi : cs[i]? = some v) : ld H (.ptr o i) = some v := by
  have := hst.mem hm rfl
  simp [ld, rowAt, this, hi]
theorem bx_st {cs : List AV} {y : AV} {n : Nat} (hst : St ([(o, .row cs true)] :: G) W H) (hc : y.cells.length = n) (hs : y.cells.all AV.scalar = true) (hn : cs.length = n) :
    ∃ H', st n (.ptr o 0) y H = some H' ∧ St ([(o, .row y.cells true)] :: G) W H' := by
  have := hst.mem (List.mem_cons_self ..) rfl
  subst hc
  refine ⟨_, ?_, hst.wr _⟩
  simp only [st, ownAt, this]
  rw [if_pos ⟨trivial, by omega, hs⟩]
  simp [splice, List.drop_eq_nil_of_le (Nat.le_of_eq hn)]
theorem bx_new (hst : St G W H) (cs : List AV) : ∃ W', Wle W W' ∧ St ([(H.length, .row cs true)] :: G) W' (H ++ [.row cs true]) := ⟨_, Wle.app _ _, hst.new _⟩
end

inductive Lp (σ β : Type) where
  | go (x : σ)
  | br (x : σ)
  | ex (b : β)

section
variable {σ β : Type}
def forSg (f : Nat → σ → Option σ) : Nat → Nat → σ → Option σ
  | 0, _, x => some x
  | n + 1, k, x => (f k x).bind fun y => forSg f n (k + 1) y
def forS (n : Nat) (f : Nat → σ → Option σ) (x : σ) : Option σ := forSg f n 0 x
def forRg (f : Nat → σ → Option (Lp σ β)) : Nat → Nat → σ → Option (σ ⊕ β)
  | 0, _, x => some (.inl x)
  | n + 1, k, x => (f k x).bind fun y => match y with
    | .go x => forRg f n (k + 1) x
    | .br x => some (.inl x)
    | .ex b => some (.inr b)
def forR (n : Nat) (f : Nat → σ → Option (Lp σ β)) (x : σ) : Option (σ ⊕ β) := forRg f n 0 x
def loopF (f : σ → Option (Lp σ β)) : Nat → σ → Option (σ ⊕ β)
  | 0, _ => none
  | n + 1, x => (f x).bind fun y => match y with
    | .go x => loopF f n x
    | .br x => some (.inl x)
    | .ex b => some (.inr b)
open Classical in
noncomputable def loopO (f : σ → Option (Lp σ β)) (x : σ) : Option (σ ⊕ β) := if h : ∃ n, (loopF f n x).isSome then loopF f h.choose x else none

theorem forS_inv {n : Nat} {f : Nat → σ → Option σ} {x : σ} (P : Nat → σ → Prop) (h0 : P 0 x) (hs : ∀ k x, k < n → P k x → ∃ y, f k x = some y ∧ P (k + 1) y) : ∃ y, forS n f x = some y ∧ P n y := by
  have key : ∀ m k x, k + m = n → P k x → ∃ y, forSg f m k x = some y ∧ P n y := by
    intro m
    induction m with
    | zero => intro k x hk h; exact ⟨x, rfl, by have : k = n := by omega
                                                subst this; exact h⟩
    | succ m ih =>
      intro k x hk h
      obtain ⟨y, hy, hP⟩ := hs k x (by omega) h
      obtain ⟨z, hz, hQ⟩ := ih (k + 1) y (by omega) hP
      exact ⟨z, by simp only [forSg, hy, Option.bind_some, hz], hQ⟩
  exact key n 0 x (by omega) h0
theorem forR_inv {n : Nat} {f : Nat → σ → Option (Lp σ β)} {x : σ} (P : Nat → σ → Prop) (Q : σ ⊕ β → Prop) (h0 : P 0 x)
    (hs : ∀ k x, k < n → P k x → (∃ y, f k x = some (.go y) ∧ P (k + 1) y) ∨ (∃ y, f k x = some (.br y) ∧ Q (.inl y)) ∨ ∃ b, f k x = some (.ex b) ∧ Q (.inr b))
    (he : ∀ x, P n x → Q (.inl x)) : ∃ y, forR n f x = some y ∧ Q y := by
  have key : ∀ m k x, k + m = n → P k x → ∃ y, forRg f m k x = some y ∧ Q y := by
    intro m
    induction m with
    | zero => intro k x hk h; exact ⟨_, rfl, he x (by have : k = n := by omega
                                                      subst this; exact h)⟩
    | succ m ih =>
      intro k x hk h
      rcases hs k x (by omega) h with ⟨y, hy, hP⟩ | ⟨y, hy, hP⟩ | ⟨b, hy, hP⟩
      · obtain ⟨z, hz, hQ⟩ := ih (k + 1) y (by omega) hP
        exact ⟨z, by simp only [forRg, hy, Option.bind_some, hz], hQ⟩
      · exact ⟨_, by simp only [forRg, hy, Option.bind_some], hP⟩
      · exact ⟨_, by simp only [forRg, hy, Option.bind_some], hP⟩
  exact key n 0 x (by omega) h0

theorem loopF_mono {f : σ → Option (Lp σ β)} {y : σ ⊕ β} : ∀ {n m : Nat} {x : σ}, n ≤ m → loopF f n x = some y → loopF f m x = some y
  | 0, _, _, _, h => by cases h
  | n + 1, 0, _, hle, _ => by omega
  | n + 1, m + 1, x, hle, h => by
    simp only [loopF] at h ⊢
    cases hf : f x with
    | none => rw [hf] at h; cases h
    | some z =>
      rw [hf] at h
      simp only [Option.bind_some] at h ⊢
      cases z with
      | go z => exact loopF_mono (by omega) h
      | br z => exact h
      | ex z => exact h
theorem loopO_some {f : σ → Option (Lp σ β)} {x : σ} {y : σ ⊕ β} : loopO f x = some y ↔ ∃ n, loopF f n x = some y := by
  unfold loopO
  constructor
  · intro h
    split at h
    · exact ⟨_, h⟩
    · cases h
  · rintro ⟨n, h⟩
    have hex : ∃ n, (loopF f n x).isSome := ⟨n, by rw [h]; rfl⟩
    rw [dif_pos hex]
    obtain ⟨z, hz⟩ := Option.isSome_iff_exists.1 hex.choose_spec
    rw [hz]
    rcases Nat.le_total n hex.choose with hl | hl
    · have := loopF_mono hl h
      rw [hz] at this; exact this
    · have := loopF_mono hl hz
      rw [h] at this; exact this.symm
theorem loop_inv {f : σ → Option (Lp σ β)} {x : σ} (P : σ → Prop) (m : σ → Nat) (Q : σ ⊕ β → Prop) (h0 : P x)
    (hs : ∀ x, P x → (∃ y, f x = some (.go y) ∧ P y ∧ m y < m x) ∨ (∃ y, f x = some (.br y) ∧ Q (.inl y)) ∨ ∃ b, f x = some (.ex b) ∧ Q (.inr b)) : ∃ y, loopO f x = some y ∧ Q y := by
  have key : ∀ n x, m x < n → P x → ∃ y, loopF f n x = some y ∧ Q y := by
    intro n
    induction n with
    | zero => intro x h; omega
    | succ n ih =>
      intro x hx h
      rcases hs x h with ⟨y, hy, hP, hm⟩ | ⟨y, hy, hP⟩ | ⟨b, hy, hP⟩
      · obtain ⟨z, hz, hQ⟩ := ih y (by omega) hP
        exact ⟨z, by simp only [loopF, hy, Option.bind_some, hz], hQ⟩
      · exact ⟨_, by simp only [loopF, hy, Option.bind_some], hP⟩
      · exact ⟨_, by simp only [loopF, hy, Option.bind_some], hP⟩
  obtain ⟨y, hy, hQ⟩ := key (m x + 1) x (by omega) h0
  exact ⟨y, loopO_some.2 ⟨_, hy⟩, hQ⟩
end

section
variable {E : Env} {σ β : Type} {s : Sl} {H : AH} {Q : Ex → Sl → AH → Prop}

def rnd (b b2 : Nat) (A B : Sl → AH → Prop) (Q : Ex → Sl → AH → Prop) : Ex → Sl → AH → Prop
  | .normal, s, H => A s H
  | .exit j, s, H => if j = b2 then A s H else if j = b then B s H else Q (.exit j) s H
  | .ret, s, H => Q .ret s H
theorem rnd_n {b b2 : Nat} {A B : Sl → AH → Prop} (h : A s H) : rnd b b2 A B Q .normal s H := h
theorem rnd_c {b b2 j : Nat} {A B : Sl → AH → Prop} (e : j = b2) (h : A s H) : rnd b b2 A B Q (.exit j) s H := by simp only [rnd, e, if_true]; exact h
theorem rnd_b {b b2 j : Nat} {A B : Sl → AH → Prop} (e2 : j ≠ b2) (e : j = b) (h : B s H) : rnd b b2 A B Q (.exit j) s H := by simp only [rnd, if_neg e2, if_pos e]; exact h
theorem rnd_r {b b2 : Nat} {A B : Sl → AH → Prop} (h : Q .ret s H) : rnd b b2 A B Q .ret s H := h
theorem then_n {K : Sl → AH → Prop} (h : K s H) : then_ K Q .normal s H := h
theorem then_x {K : Sl → AH → Prop} {j : Nat} (h : Q (.exit j) s H) : then_ K Q (.exit j) s H := h
theorem then_r {K : Sl → AH → Prop} (h : Q .ret s H) : then_ K Q .ret s H := h
theorem blk_n {b : Nat} (h : Q .normal s H) : blk b Q .normal s H := h
theorem blk_h {b j : Nat} (e : j = b) (h : Q .normal s H) : blk b Q (.exit j) s H := by simp only [blk, if_pos e]; exact h
theorem blk_o {b j : Nat} (e : j ≠ b) (h : Q (.exit j) s H) : blk b Q (.exit j) s H := by simp only [blk, if_neg e]; exact h
theorem blk_r {b : Nat} (h : Q .ret s H) : blk b Q .ret s H := h

def rangeC (b c i n j b2 : Nat) (body : C) : C := .block b (.loop (.seq (.reg [[⟨some c, .bin .lss (.t i) (.t n), none⟩]]) (.seq (.cond (.t c) .skip (.exit b)) (.seq (.block b2 body) (.reg [[⟨some j, .bin .add (.t i) (.c (.int .i64 1)), none⟩, ⟨some i, .mv (.t j), none⟩]])))))

theorem range_ref (hp : PrimOk E) {b c i n j b2 : Nat} {body : C} (m N : Nat) (f : Nat → σ → Option (Lp σ β)) (I P : Nat → σ → Sl → AH → Prop) {x0 : σ} {out : σ ⊕ β}
    (hf : forR N f x0 = some out) (hN : N ≤ 9223372036854775807)
    (hd : (decide (i < m) && decide (c < m) && decide (j < m) && !decide (i = c) && !decide (n = c) && !decide (n = i) && !decide (n = j) && !decide (b = b2)) = true)
    (hfr : ∀ k x s H d v, (d = c ∨ d = i ∨ d = j) → I k x s H → I k x (pt s (some d) v) H)
    (h0 : I 0 x0 s H) (hl : s.length = m) (hi : gt s i = .int .i64 0) (hn : gt s n = .int .i64 N)
    (hb : ∀ k x y s H, k < N → I k x s H → s.length = m → gt s i = .int .i64 k → gt s n = .int .i64 N → f k x = some y → (∀ e, y = .ex e → out = .inr e) →
      wp E body s H (rnd b b2 (fun s' H' => ∃ x', y = .go x' ∧ s'.length = m ∧ gt s' i = .int .i64 k ∧ gt s' n = .int .i64 N ∧ I (k + 1) x' s' H') (fun s' H' => ∃ x', y = .br x' ∧ P k x' s' H') Q))
    (hq : ∀ x s H, out = .inl x → (I N x s H ∧ s.length = m) ∨ (∃ k, P k x s H) → Q .normal s H) :
    wp E (rangeC b c i n j b2 body) s H Q := by
  simp only [Bool.and_eq_true, decide_eq_true_eq, Bool.not_eq_true', decide_eq_false_iff_not] at hd
  obtain ⟨⟨⟨⟨⟨⟨⟨d1, d2⟩, d3⟩, d4⟩, d5⟩, d6⟩, d7⟩, d8⟩ := hd
  refine wp_block (wp_loop hp (n := N + 1) (fun q s H => ∃ k x, q = N + 1 - k ∧ k ≤ N ∧ s.length = m ∧ gt s i = .int .i64 k ∧ gt s n = .int .i64 N ∧ I k x s H ∧ forRg f (N - k) k x = some out) ⟨0, x0, rfl, Nat.zero_le _, hl, hi, hn, h0, hf⟩ ?_)
  clear hf h0 hl hi hn
  rintro q s H ⟨k, x, rfl, hk, hl, gi, gn, hI, hf⟩
  refine wp_seq hp (wp_reg hp (wpo_runs hp ?_))
  simp only [runs, isCall, Bool.false_eq_true, if_false, aop_bin, ev_t, gi, gn, abin_lss, Option.map_some, then_]
  have hc : ev (pt s (some c) (.bool (decide ((k : Int) < N)))) (.t c) = .bool (decide ((k : Int) < N)) := by rw [ev_t, gt_same (by omega)]
  have hI2 : ∀ v, I k x (pt s (some c) v) H := fun v => hfr _ _ _ _ _ _ (.inl rfl) hI
  have gi2 : ∀ v, gt (pt s (some c) v) i = .int .i64 k := fun v => by rw [gt_other (Ne.symm d4), gi]
  have gn2 : ∀ v, gt (pt s (some c) v) n = .int .i64 N := fun v => by rw [gt_other (Ne.symm d5), gn]
  rcases Nat.lt_or_ge k N with hlt | hge
  · have hdd : decide ((k : Int) < N) = true := by simpa using hlt
    rw [hdd] at hc ⊢
    refine wp_seq hp (wp_cond hc ?_)
    simp only [if_true]
    refine wp_skip ?_
    simp only [then_]
    obtain ⟨mm, hmm⟩ : ∃ mm, N - k = mm + 1 := ⟨N - k - 1, by omega⟩
    rw [hmm] at hf
    simp only [forRg, Option.bind_eq_some_iff] at hf
    obtain ⟨y, hy, hf⟩ := hf
    have hex : ∀ e, y = .ex e → out = .inr e := by rintro e rfl; simpa using hf.symm
    refine wp_seq hp (wp_block (wp_mono hp (hb k x y _ H hlt (hI2 _) (by simpa using hl) (gi2 _) (gn2 _) hy hex) ?_))
    have fin : ∀ s' H', (∃ x', y = .go x' ∧ s'.length = m ∧ gt s' i = .int .i64 k ∧ gt s' n = .int .i64 N ∧ I (k + 1) x' s' H') →
        wp E (.reg [[⟨some j, .bin .add (.t i) (.c (.int .i64 1)), none⟩, ⟨some i, .mv (.t j), none⟩]]) s' H' (then_ (fun s' H' => ∃ m_1, m_1 < N + 1 - k ∧ ∃ k x, m_1 = N + 1 - k ∧ k ≤ N ∧ s'.length = m ∧ gt s' i = .int .i64 k ∧ gt s' n = .int .i64 N ∧ I k x s' H' ∧ forRg f (N - k) k x = some out) (blk b Q)) := by
      rintro s' H' ⟨x', rfl, hl', gi', gn', hI'⟩
      refine wp_reg hp (wpo_runs hp ?_)
      simp only [runs, isCall, Bool.false_eq_true, if_false, aop_bin, aop_mv, ev_t, ev_c, gi', abin_add, Option.map_some, then_]
      rw [wrap_inc hlt hN, gt_same (by omega)]
      refine ⟨N + 1 - (k + 1), by omega, k + 1, x', rfl, by omega, by simpa using hl', by rw [gt_same (by simp; omega)], ?_, hfr _ _ _ _ _ _ (.inr (.inl rfl)) (hfr _ _ _ _ _ _ (.inr (.inr rfl)) hI'), ?_⟩
      · rw [gt_other (Ne.symm d6), gt_other (Ne.symm d7), gn']
      · have : N - (k + 1) = mm := by omega
        rw [this]; exact hf
    intro e s' H' h
    cases e with
    | normal => simpa only [blk, then_] using fin s' H' h
    | exit j' =>
      simp only [rnd] at h
      simp only [blk]
      split at h
      · rename_i hj
        simp only [hj, if_true, then_]
        exact fin s' H' h
      · rename_i hj
        simp only [hj, if_false, then_]
        split at h
        · rename_i hj2
          simp only [blk, if_pos hj2]
          obtain ⟨x', rfl, hP⟩ := h
          exact hq x' s' H' (by simpa using hf.symm) (.inr ⟨k, hP⟩)
        · rename_i hj2
          simp only [blk, if_neg hj2]; exact h
    | ret => exact h
  · have hkN : k = N := by omega
    subst hkN
    have hdd : decide ((k : Int) < k) = false := by simp
    rw [hdd] at hc ⊢
    refine wp_seq hp (wp_cond hc ?_)
    simp only [Bool.false_eq_true, if_false]
    refine wp_exit ?_
    simp only [then_, blk, if_true]
    rw [Nat.sub_self] at hf
    simp only [forRg, Option.some.injEq] at hf
    exact hq x _ H hf.symm (.inl ⟨hI2 _, by simpa using hl⟩)

theorem rangeS_ref (hp : PrimOk E) {b c i n j b2 : Nat} {body : C} (m N : Nat) (f : Nat → σ → Option σ) (I : Nat → σ → Sl → AH → Prop) {x0 out : σ}
    (hf : forS N f x0 = some out) (hN : N ≤ 9223372036854775807)
    (hd : (decide (i < m) && decide (c < m) && decide (j < m) && !decide (i = c) && !decide (n = c) && !decide (n = i) && !decide (n = j) && !decide (b = b2)) = true)
    (hfr : ∀ k x s H d v, (d = c ∨ d = i ∨ d = j) → I k x s H → I k x (pt s (some d) v) H)
    (h0 : I 0 x0 s H) (hl : s.length = m) (hi : gt s i = .int .i64 0) (hn : gt s n = .int .i64 N)
    (hb : ∀ k x y s H, k < N → I k x s H → s.length = m → gt s i = .int .i64 k → gt s n = .int .i64 N → f k x = some y →
      wp E body s H (rnd b b2 (fun s' H' => s'.length = m ∧ gt s' i = .int .i64 k ∧ gt s' n = .int .i64 N ∧ I (k + 1) y s' H') (fun _ _ => False) Q))
    (hq : ∀ s H, I N out s H → s.length = m → Q .normal s H) :
    wp E (rangeC b c i n j b2 body) s H Q := by
  have conv : ∀ n k x, forRg (β := Empty) (fun k x => (f k x).map Lp.go) n k x = (forSg f n k x).map .inl := by
    intro n
    induction n with
    | zero => intro k x; rfl
    | succ n ih =>
      intro k x
      simp only [forRg, forSg]
      cases f k x with
      | none => rfl
      | some y => simp [ih]
  refine range_ref hp m N (fun k x => (f k x).map Lp.go) I (fun _ _ _ _ => False) (x0 := x0) (out := .inl out) (by rw [forR, conv, show forSg f N 0 x0 = some out from hf]; rfl) hN hd hfr h0 hl hi hn ?_ ?_
  · intro k x y s H hk hI h1 h2 h3 hy _
    simp only [Option.map_eq_some_iff] at hy
    obtain ⟨y, hy, rfl⟩ := hy
    refine wp_mono hp (hb k x y s H hk hI h1 h2 h3 hy) ?_
    intro e s' H' h
    have conv2 : (s'.length = m ∧ gt s' i = .int .i64 k ∧ gt s' n = .int .i64 N ∧ I (k + 1) y s' H') → ∃ x', (Lp.go y : Lp σ Empty) = .go x' ∧ s'.length = m ∧ gt s' i = .int .i64 k ∧ gt s' n = .int .i64 N ∧ I (k + 1) x' s' H' := fun h => ⟨y, rfl, h⟩
    cases e with
    | normal => exact conv2 h
    | exit j' =>
      simp only [rnd] at h ⊢
      split
      · rename_i hj; rw [if_pos hj] at h; exact conv2 h
      · rename_i hj; rw [if_neg hj] at h
        split
        · rename_i hj2; rw [if_pos hj2] at h; exact h.elim
        · rename_i hj2; rw [if_neg hj2] at h; exact h
    | ret => exact h
  · rintro x s H h (⟨hI, hl⟩ | ⟨k, hk⟩)
    · cases h; exact hq s H hI hl
    · exact hk.elim

theorem loop_ref (hp : PrimOk E) {b : Nat} {body : C} (f : σ → Option (Lp σ β)) (I P : σ → Sl → AH → Prop) {x0 : σ} {out : σ ⊕ β} (hf : loopO f x0 = some out) (h0 : I x0 s H)
    (hb : ∀ x y s H, I x s H → f x = some y → (∀ e, y = .ex e → out = .inr e) →
      wp E body s H (then_ (fun s' H' => ∃ x', y = .go x' ∧ I x' s' H') (rnd b b (fun s' H' => ∃ x', y = .br x' ∧ P x' s' H') (fun _ _ => False) Q)))
    (hq : ∀ x s H, out = .inl x → P x s H → Q .normal s H) : wp E (.block b (.loop body)) s H Q := by
  obtain ⟨n, hf⟩ := loopO_some.1 hf
  refine wp_block (wp_loop hp (n := n) (fun q s H => ∃ x, I x s H ∧ loopF f q x = some out) ⟨x0, h0, hf⟩ ?_)
  clear hf h0
  rintro q s H ⟨x, hI, hf⟩
  cases q with
  | zero => cases hf
  | succ q =>
    simp only [loopF, Option.bind_eq_some_iff] at hf
    obtain ⟨y, hy, hf⟩ := hf
    have hex : ∀ e, y = .ex e → out = .inr e := by rintro e rfl; simpa using hf.symm
    refine wp_mono hp (hb x y s H hI hy hex) ?_
    intro e s' H' h
    cases e with
    | normal =>
      obtain ⟨x', rfl, hI'⟩ := h
      exact ⟨q, Nat.lt_succ_self q, x', hI', hf⟩
    | exit j =>
      simp only [then_, rnd] at h
      simp only [then_, blk]
      split
      · rename_i hj
        rw [if_pos hj] at h
        obtain ⟨x', rfl, hP⟩ := h
        exact hq x' s' H' (by simpa using hf.symm) hP
      · rename_i hj
        rw [if_neg hj, if_neg hj] at h
        exact h
    | ret => exact h

theorem wp_regK (hp : PrimOk E) {l : List SO} (K : Sl → AH → Prop) (h : wpo E l s H K) (hk : ∀ s H, K s H → Q .normal s H) : wp E (.reg [l]) s H Q := wp_reg hp (wpo_mono hp h hk)
theorem wp_regsK (hp : PrimOk E) {ls : List (List SO)} (K : Sl → AH → Prop) (hne : ls ≠ []) (h : ∀ l ∈ ls, wpo E l s H K) (hk : ∀ s H, K s H → Q .normal s H) : wp E (.reg ls) s H Q :=
  wp_regs hp hne fun l hl => wpo_mono hp (h l hl) hk
theorem wp_condT {c : Od} {a b : C} (hc : ev s c = .bool true) (h : wp E a s H Q) : wp E (.cond c a b) s H Q := wp_cond hc (by simpa using h)
theorem wp_condF {c : Od} {a b : C} (hc : ev s c = .bool false) (h : wp E b s H Q) : wp E (.cond c a b) s H Q := wp_cond hc (by simpa using h)
end

end Go.AM
namespace Go.AM

section
variable {E : Env} {s : Sl} {H : AH} {Q : Ex → Sl → AH → Prop} {R : Sl → AH → Prop}

theorem wpo_append (hp : PrimOk E) {K : Sl → AH → Prop} : ∀ {l m : List SO} {s : Sl} {H : AH}, wpo E l s H K → (∀ s H, K s H → wpo E m s H R) → wpo E (l ++ m) s H R := by
  intro l m s H h hk
  have h1 : wpo E l s H (fun s H => ∃ j, Wops (Wp E j) m s H R) := wpo_mono hp h fun s H hK => hk s H hK
  obtain ⟨k, h1⟩ := h1
  obtain ⟨j, h2⟩ := Wops_cont (Wp_mono' hp (W_mono' hp k)) (Wp_cont hp (W_cont hp k)) (R := fun j s H => Wops (Wp E j) m s H R) (fun j s H hh => Wops_le (Wp_mono' hp (W_mono' hp _)) (Wp_le hp (Nat.le_succ j)) hh) h1
  have key : ∀ (l : List SO) s H, Wops (Wp E (max k j)) l s H (fun s H => Wops (Wp E (max k j)) m s H R) → Wops (Wp E (max k j)) (l ++ m) s H R := by
    intro l
    induction l with
    | nil => exact fun s H h => h
    | cons o l ih =>
      intro s H h
      simp only [List.cons_append, Wops] at h ⊢
      split at h
      · rename_i hw
        rw [if_pos hw]
        exact Wop_mono' (Wp_mono' hp (W_mono' hp _)) h fun v H' hh => ih _ _ hh
      · rename_i hw
        rw [if_neg hw]
        exact ih _ _ h
  refine ⟨max k j, key l s H ?_⟩
  refine Wops_mono' (Wp_mono' hp (W_mono' hp _)) (fun s H hh => Wops_le (Wp_mono' hp (W_mono' hp _)) (Wp_le hp (Nat.le_max_right k j)) hh) (Wops_le (Wp_mono' hp (W_mono' hp _)) (Wp_le hp (Nat.le_max_left k j)) h2)
theorem wpo_seg (hp : PrimOk E) (n : Nat) {l : List SO} (K : Sl → AH → Prop) (h : runs E (l.take n) s H K) (hk : ∀ s H, K s H → wpo E (l.drop n) s H R) : wpo E l s H R := by
  have := wpo_append hp (wpo_runs hp h) hk
  rwa [List.take_append_drop] at this
theorem wpo_callK (hp : PrimOk E) {d : Option Nat} {f : FuncId} {g : Option (Option Nat × Bool)} {xs : List Od} {l : List SO} {ys : List AV} {R1 : AV → AH → Prop} (hw : wanted s ⟨d, .callF f xs, g⟩ = true) (hx : evs s xs = ys)
    (h : wpc E f ys H R1) (hk : ∀ r H', R1 r H' → wpo E l (pt s d r) H' R) : wpo E (⟨d, .callF f xs, g⟩ :: l) s H R := by
  subst hx
  exact wpo_call hp hw (wpc_mono hp h hk)
theorem body_ret {F : FnC} {R : AV → AH → Prop} {vs : List AV} (hv : rvs s H F.res = some vs) (h : R (retOf vs) H) : bodyR F R .ret s H := by
  simp only [bodyR, hv]; exact h
theorem body_norm {F : FnC} {R : AV → AH → Prop} {vs : List AV} (hv : rvs s H F.res = some vs) (h : R (retOf vs) H) : bodyR F R .normal s H := by
  simp only [bodyR, hv]; exact h
theorem enterN {f : FuncId} {F : FnC} {xs : List AV} {R : AV → AH → Prop} (hf : E f = some (.code F)) (hn : xs.length ≤ F.n) (h : ∀ s, s.length = F.n → (∀ i, i < xs.length → gt s i = xs.getD i (.tup [])) → wp E F.body s H (bodyR F R)) : wpc E f xs H R :=
  wpc_code hf (h _ (init_length hn) fun i hi => by rw [gt_init hi, List.getD_eq_getElem?_getD, List.getElem?_eq_getElem hi, Option.getD_some])
end

section
variable {α : Type} [Rp α] {W : AH} {v : AV} {L : List α} {g : Frag}
theorem fz_big (h : Rp.rv W v L) : L.length ≤ 9223372036854775807 := by
  rcases (show SlR W v L from h) with ⟨rfl, rfl⟩ | ⟨o, off, c, l, w, rfl, h1, h2, h3, h9⟩
  · simp
  · exact h3
theorem ow_big (h : OwS W v g L) : L.length ≤ 9223372036854775807 := by
  rcases h with ⟨rfl, rfl, -⟩ | ⟨o, c, l, rfl, h1, h2, h3, h4⟩
  · simp
  · exact h3
theorem fz_nil (W : AH) : Rp.rv W .nils ([] : List α) := .inl ⟨rfl, rfl⟩
end

theorem om_new' (κ ν : Type) [Ky κ] [Rp ν] {G : List Frag} {W H : AH} (hst : St G W H) : ∃ v H' g W', AV.map H.length = v ∧ H ++ [.mp []] = H' ∧ Wle W W' ∧ St (g :: G) W' H' ∧ OwM W' v g ([] : List (κ × ν)) := by
  obtain ⟨g, W', h1, h2, h3⟩ := om_new κ ν hst
  exact ⟨_, _, g, W', rfl, rfl, h1, h2, h3⟩
theorem bx_new' {G : List Frag} {W H : AH} (hst : St G W H) (cs : List AV) : ∃ o H' W', H.length = o ∧ H ++ [.row cs true] = H' ∧ Wle W W' ∧ St ([(o, .row cs true)] :: G) W' H' := by
  obtain ⟨W', h1, h2⟩ := bx_new hst cs
  exact ⟨_, _, W', rfl, rfl, h1, h2⟩
theorem ow_lit' {α : Type} [Rp α] {G : List Frag} {W H : AH} {z : List AV} {ys : List AV} {M : List α} {n k : Nat} (ps : List (Nat × Nat × AV)) (hn : Rp.sz α = n) (hk : M.length = k) (hst : St G W H) (hl : SlC W (ys.flatMap AV.cells) 0 M)
    (hc : ∀ y ∈ ys, y.cells.length = n) (hps : ps = psOf n 0 ys) (hz : z.length = ys.length * n) (hyk : ys.length = k) (hsm : k ≤ 9223372036854775807) :
    ∃ v l H' g W', fillA z ps = some l ∧ AV.sli H.length 0 k n (some k) = v ∧ H ++ [.row l true] = H' ∧ Wle W W' ∧ St (g :: G) W' H' ∧ OwS W' v g M := by
  have h1 := fill_go ys [] z hc hz
  simp only [List.nil_append, List.length_nil] at h1
  have hlen : (ys.flatMap AV.cells).length = k * n := by
    rw [← hyk]
    clear hl hps hz hyk h1
    induction ys with
    | nil => simp
    | cons y ys ih =>
      simp only [List.flatMap_cons, List.length_append, List.length_cons, Nat.succ_mul]
      rw [ih fun y hy => hc y (by simp [hy]), hc y (by simp)]
      omega
  obtain ⟨g, W', h2, h3, h4⟩ := ow_lit hn hk hst hl hlen hsm
  subst hps
  exact ⟨_, _, _, g, W', h1, rfl, rfl, h2, h3, h4⟩

theorem pr_ii {W : AH} {v : AV} {x : Int × Int} (h : Rp.rv W v x) : v = .agg [.int .i64 x.1, .int .i64 x.2] := by
  obtain ⟨a, b, rfl, h1, h2⟩ := h
  cases (show a = _ from h1); cases (show b = _ from h2); rfl
theorem mk_ii (W : AH) (x y : Int) : Rp.rv W (.agg [.int .i64 x, .int .i64 y]) ((x, y) : Int × Int) := ⟨.int .i64 x, .int .i64 y, rfl, rfl, rfl⟩

theorem mm2 (a b : Int) : amm true [.int .i64 a, .int .i64 b] = some (.int .i64 (if b > a then b else a)) := rfl
theorem mn2 (a b : Int) : amm false [.int .i64 a, .int .i64 b] = some (.int .i64 (if b < a then b else a)) := rfl
theorem aop_min {c : Call} {s : Sl} {H : AH} (xs : List Od) : aop c s H (.min xs) = (amm false (evs s xs)).map (·, H) := rfl
theorem aop_eqv {c : Call} {s : Sl} {H : AH} (e : EqK) (neg : Bool) (x y : Od) : aop c s H (.eqv e neg x y) = (aeq e (ev s x) (ev s y)).map fun b => (.bool (if neg then !b else b), H) := rfl
theorem aeq_bool (a b : Bool) : aeq .bool (.bool a) (.bool b) = some (a == b) := rfl
theorem nl_eq {α : Type} [Rp α] {W : AH} {v : AV} {x : Option (List α)} (h : Rp.rv W v x) : aeq .sl v .nils = some x.isNone := by
  cases x with
  | none => cases (show v = .nils from h); rfl
  | some L =>
    obtain ⟨h1, h2⟩ := (show v ≠ .nils ∧ SlR W v L from h)
    rcases h2 with ⟨rfl, -⟩ | ⟨o, off, c, l, w, rfl, -⟩
    · exact absurd rfl h1
    · rfl
theorem nl_get {α : Type} [Rp α] {W : AH} {v : AV} {x : Option (List α)} (h : Rp.rv W v x) : Rp.rv W v (x.getD []) := by
  cases x with
  | none => cases (show v = .nils from h); exact .inl ⟨rfl, rfl⟩
  | some L => exact h.2

theorem bn {α β : Type} {o : Option α} {f : α → Option β} {r : β} (h : o.bind f = some r) : ∃ a, o = some a ∧ f a = some r := Option.bind_eq_some_iff.1 h
theorem ifT {α : Type} {c : Bool} {a b : Option α} {r : α} (hc : c = true) (h : (if c = true then a else b) = some r) : a = some r := by rw [if_pos hc] at h; exact h
theorem ifF {α : Type} {c : Bool} {a b : Option α} {r : α} (hc : c = false) (h : (if c = true then a else b) = some r) : b = some r := by rw [if_neg (by rw [hc]; exact Bool.false_ne_true)] at h; exact h
end Go.AM
namespace Go.AM

def nzl {α : Type} (L : List α) : Option (List α) := if L = [] then none else some L
theorem nzl_ok {α : Type} {L M : List α} (h : nzl L = some M) : L ≠ [] ∧ L = M := by
  unfold nzl at h
  split at h
  · cases h
  · rename_i h0; cases h; exact ⟨h0, rfl⟩
theorem nl_some {α : Type} [Rp α] {W : AH} {v : AV} {L : List α} (h : L ≠ []) (h2 : Rp.rv W v L) : Rp.rv W v (some L) := by
  refine ⟨?_, h2⟩
  rintro rfl
  rcases (show SlR W .nils L from h2) with ⟨-, rfl⟩ | ⟨o, off, c, l, w, e, -⟩
  · exact h rfl
  · cases e
theorem nl_none {α : Type} [Rp α] (W : AH) : Rp.rv W .nils (none : Option (List α)) := rfl
instance : Rp AV := mkRp (fun _ v x => v = x ∧ v.cells = [v] ∧ v.scalar = true) (fun _ h => h) (fun h => h.2)

theorem St.split {a b : Frag} {G : List Frag} {W H : AH} (h : St ((a ++ b) :: G) W H) : St (a :: b :: G) W H :=
  h.sub (by simp)
section
variable {α : Type} [Rp α] {G : List Frag} {W H : AH} {v : AV} {LL : List (List α)} {g : Frag}

theorem ow_scal {L : List α} (h : OwS W v g L) : v.cells = [v] ∧ v.scalar = true := by
  rcases h with ⟨rfl, -⟩ | ⟨o, c, l, rfl, -⟩ <;> exact ⟨rfl, rfl⟩

def Rws (W : AH) : List AV → List Frag → List (List α) → Prop
  | [], [], [] => True
  | v :: vs, g :: gs, L :: LL => OwS W v g L ∧ Rws W vs gs LL
  | _, _, _ => False
theorem Rws.mono {W W' : AH} (hw : Wle W W') : ∀ {vs : List AV} {gs : List Frag} {LL : List (List α)}, Rws W vs gs LL → Rws W' vs gs LL
  | [], [], [], _ => trivial
  | _ :: _, _ :: _, _ :: _, h => ⟨h.1.mono hw, h.2.mono hw⟩
theorem Rws.len {W : AH} : ∀ {vs : List AV} {gs : List Frag} {LL : List (List α)}, Rws W vs gs LL → vs.length = LL.length ∧ gs.length = LL.length
  | [], [], [], _ => ⟨rfl, rfl⟩
  | _ :: _, _ :: _, _ :: _, h => by have := h.2.len; simp [this.1, this.2]
theorem Rws.get {W : AH} : ∀ {vs : List AV} {gs : List Frag} {LL : List (List α)} {i : Nat} {L : List α}, Rws W vs gs LL → LL[i]? = some L →
    ∃ w gr ga gb, vs[i]? = some w ∧ OwS W w gr L ∧ gs = ga ++ gr :: gb ∧
      ∀ W' w' gr' L', Wle W W' → OwS W' w' gr' L' → Rws W' (vs.set i w') (ga ++ gr' :: gb) (LL.set i L') := by
  intro vs
  induction vs with
  | nil => intro gs LL i L h hL; cases gs <;> cases LL <;> first | exact h.elim | simp at hL
  | cons w vs ih =>
    intro gs LL i L h hL
    cases gs with
    | nil => cases LL <;> exact h.elim
    | cons g gs =>
      cases LL with
      | nil => exact h.elim
      | cons L0 LL =>
        cases i with
        | zero =>
          simp only [List.getElem?_cons_zero, Option.some.injEq] at hL
          subst hL
          exact ⟨w, g, [], gs, rfl, h.1, rfl, fun W' w' gr' L' hw h' => ⟨h', h.2.mono hw⟩⟩
        | succ i =>
          simp only [List.getElem?_cons_succ] at hL
          obtain ⟨w1, gr, ga, gb, h1, h2, h3, h4⟩ := ih h.2 hL
          exact ⟨w1, gr, g :: ga, gb, by simpa using h1, h2, by simp [h3], fun W' w' gr' L' hw h' => ⟨h.1.mono hw, h4 W' w' gr' L' hw h'⟩⟩

def OwD (W : AH) (v : AV) (g : Frag) (LL : List (List α)) : Prop := ∃ vs gs g0, OwS W v g0 (vs : List AV) ∧ Rws W vs gs LL ∧ g = g0 ++ gs.flatten

theorem OwD.mono {W W' : AH} (hw : Wle W W') (h : OwD W v g LL) : OwD W' v g LL := by
  obtain ⟨vs, gs, g0, h1, h2, h3⟩ := h
  exact ⟨vs, gs, g0, h1.mono hw, h2.mono hw, h3⟩
theorem od_ln (h : OwD W v g LL) : ln v = some (.int .i64 LL.length) := by
  obtain ⟨vs, gs, g0, h1, h2, h3⟩ := h
  rw [ow_ln h1, h2.len.1]
theorem od_big (h : OwD W v g LL) : LL.length ≤ 9223372036854775807 := by
  obtain ⟨vs, gs, g0, h1, h2, h3⟩ := h
  rw [← h2.len.1]; exact ow_big h1

structure OdH (W : AH) (v : AV) (g : Frag) (LL : List (List α)) (i : Nat) (w : AV) : Prop where
  ex : ∃ vs ga gb g0, OwS W v g0 (vs : List AV) ∧ vs[i]? = some w ∧ g = g0 ++ (ga ++ gb).flatten ∧ vs.length = LL.length ∧
    ∀ W' w' gr' L', Wle W W' → OwS W' w' gr' L' → Rws W' (vs.set i w') (ga ++ gr' :: gb) (LL.set i L')
theorem OdH.mono {W W' : AH} {i : Nat} {w : AV} (hw : Wle W W') (h : OdH W v g LL i w) : OdH W' v g LL i w := by
  obtain ⟨vs, ga, gb, g0, h1, h2, h3, h4, h5⟩ := h.ex
  exact ⟨vs, ga, gb, g0, h1.mono hw, h2, h3, h4, fun W2 w' gr' L' hw2 ho => h5 W2 w' gr' L' (hw.trans hw2) ho⟩

theorem St.pull3 {a c : Frag} {b d : List Frag} {G : List Frag} {W H : AH} (h : St ((a ++ (b ++ c :: d).flatten) :: G) W H) : St (c :: (a ++ (b ++ d).flatten) :: G) W H := by
  have h1 : St (a :: b.flatten :: c :: d.flatten :: G) W H := h.sub (by simp)
  have h2 : St (c :: a :: b.flatten :: d.flatten :: G) W H := h1.p2
  exact h2.sub (by simp)
theorem St.push3 {a c : Frag} {b d : List Frag} {G : List Frag} {W H : AH} (h : St (c :: (a ++ (b ++ d).flatten) :: G) W H) : St ((a ++ (b ++ c :: d).flatten) :: G) W H := by
  have h1 : St (c :: a :: b.flatten :: d.flatten :: G) W H := h.sub (by simp)
  have h2 : St (a :: b.flatten :: c :: d.flatten :: G) W H := h1.perm ((perm_pull c [a, b.flatten] (d.flatten :: G)).symm)
  exact h2.sub (by simp)

theorem gi_nn {β : Type} {L : List β} {i : Int} {x : β} (h : gi L i = some x) : 0 ≤ i := by
  obtain ⟨k, rfl, -⟩ := gi_some h; omega
theorem od_open {k : IntKind} {i : Int} {L : List α} (hst : St (g :: G) W H) (h : OwD W v g LL) (hx : gi LL i = some L) :
    ∃ p w gr gd, ia 1 v (.int k i) = some p ∧ ld H p = some w ∧ St (gr :: gd :: G) W H ∧ OwS W w gr L ∧ OdH W v gd LL i.toNat w := by
  obtain ⟨j, rfl, hj, rfl⟩ := gi_some hx
  obtain ⟨vs, gs, g0, h1, h2, rfl⟩ := h
  obtain ⟨w, gr, ga, gb, h3, h4, rfl, h6⟩ := h2.get (List.getElem?_eq_getElem hj)
  have hg : gi vs (j : Int) = some w := by unfold gi; rw [if_pos (by omega)]; simpa using h3
  obtain ⟨p, y, e1, e2, e3⟩ := ow_at (k := k) hst.split (.head _) h1 hg rfl
  have ey : y = w := e3.1
  subst ey
  exact ⟨p, y, gr, g0 ++ (ga ++ gb).flatten, e1, e2, hst.pull3, h4, ⟨vs, ga, gb, g0, h1, by simpa using h3, rfl, h2.len.1, h6⟩⟩
theorem od_close {i : Nat} {w : AV} {gr : Frag} {L : List α} (hst : St (gr :: g :: G) W H) (hr : OwS W w gr L) (h : OdH W v g LL i w) : ∃ g', St (g' :: G) W H ∧ OwD W v g' (LL.set i L) := by
  obtain ⟨vs, ga, gb, g0, h1, h2, rfl, h4, h5⟩ := h.ex
  refine ⟨_, hst.push3, vs, ga ++ gr :: gb, g0, h1, ?_, rfl⟩
  have := h5 W w gr L (.refl _) hr
  have e : vs.set i w = vs := by
    apply List.ext_getElem?
    intro q
    rw [List.getElem?_set]
    split
    · rename_i e; subst e; split
      · exact h2.symm
      · rename_i hh; rw [List.getElem?_eq_none (by omega)]
    · rfl
  rwa [e] at this
theorem od_put {k : IntKind} {i : Int} {w w' : AV} {gr : Frag} {L : List α} (hst : St (gr :: g :: G) W H) (hr : OwS W w' gr L) (h : OdH W v g LL i.toNat w) (hi : 0 ≤ i) :
    ∃ p H' g', ia 1 v (.int k i) = some p ∧ st 1 p w' H = some H' ∧ St (g' :: G) W H' ∧ OwD W v g' (LL.set i.toNat L) := by
  obtain ⟨vs, ga, gb, g0, h1, h2, rfl, h4, h5⟩ := h.ex
  have hs := ow_scal hr
  have hlt := (List.getElem?_eq_some_iff.1 h2).1
  have h6 : St (g0 :: gr :: (ga ++ gb).flatten :: G) W H := hst.p1.split.perm ((List.Perm.cons _ (.swap _ _ _)))
  obtain ⟨p, H', g', e1, e2, e3, e4⟩ := ow_set (k := k) (i := i) (x := w') (L' := vs.set i.toNat w') 1 rfl h6 h1 (show Rp.rv W w' w' from ⟨rfl, hs⟩) (by unfold si; rw [if_pos ⟨hi, by omega⟩])
  refine ⟨p, H', g' ++ (ga ++ gr :: gb).flatten, e1, e2, ?_, vs.set i.toNat w', ga ++ gr :: gb, g', e4, h5 W w' gr L (.refl _) hr, rfl⟩
  have e5 : St (gr :: (g' ++ (ga ++ gb).flatten) :: G) W H' := (e3.perm (.swap _ _ _)).sub (by simp)
  exact e5.push3

theorem rws_frz : ∀ {vs : List AV} {gs : List Frag} {LL : List (List α)} {G : List Frag} {W : AH}, St (gs.flatten :: G) W H → Rws W vs gs LL → ∃ W', Wle W W' ∧ St G W' H ∧ vs.length = LL.length ∧ ∀ (i : Nat) (h : i < LL.length), Rp.rv W' (vs.getD i (.tup [])) LL[i] := by
  intro vs
  induction vs with
  | nil =>
    intro gs LL G W hst h
    cases gs <;> cases LL <;> first | exact h.elim | exact ⟨W, .refl _, hst.drop, rfl, fun i h => by simp at h⟩
  | cons v vs ih =>
    intro gs LL G W hst h
    cases gs with
    | nil => cases LL <;> exact h.elim
    | cons g gs =>
      cases LL with
      | nil => exact h.elim
      | cons L LL =>
        have h1 : St (g :: gs.flatten :: G) W H := by rw [List.flatten_cons] at hst; exact hst.split
        obtain ⟨W1, w1, s1, r1⟩ := ow_frz h1 h.1
        obtain ⟨W2, w2, s2, hl, r2⟩ := ih s1 (h.2.mono w1)
        refine ⟨W2, w1.trans w2, s2, by simp [hl], fun i hi => ?_⟩
        cases i with
        | zero => exact Rp.mono w2 r1
        | succ i => exact r2 i (by simpa using hi)
theorem od_frz (hst : St (g :: G) W H) (h : OwD W v g LL) : ∃ W', Wle W W' ∧ St G W' H ∧ Rp.rv W' v LL := by
  obtain ⟨vs, gs, g0, h1, h2, rfl⟩ := h
  obtain ⟨W1, w1, s1, hl, r1⟩ := rws_frz (hst.split.p1) h2
  obtain ⟨W2, w2, s2, r2⟩ := ow_frz s1 (h1.mono w1)
  refine ⟨W2, w1.trans w2, s2, ?_⟩
  rcases (show SlR W2 v vs from r2) with ⟨rfl, rfl⟩ | ⟨o, off, c, l, w, rfl, q1, q2, q3, q9⟩
  · exact .inl ⟨rfl, by simpa using hl.symm⟩
  · refine .inr ⟨o, off, c, l, w, by rw [hl]; rfl, q1, ⟨by rw [← hl]; exact q2.fit, fun i hi => ?_⟩, by rw [← hl]; exact q3, by rw [← hl]; exact q9⟩
    have a1 := (q2.el i (by rw [hl]; exact hi)).1
    have a2 := Rp.mono w2 (r1 i hi)
    rw [List.getD_eq_getElem?_getD, List.getElem?_eq_getElem (by rw [hl]; exact hi), Option.getD_some, ← a1] at a2
    exact a2
theorem od_mk {kn kc : IntKind} {b : Nat} {n c : Int} (α : Type) [Rp α] {LL : List (List α)} (hst : St G W H) (hx : mkz b n c ([] : List α) = some LL) :
    ∃ v H' g W', mk [.nils] b (.int kn n) (.int kc c) H = some (v, H') ∧ Wle W W' ∧ St (g :: G) W' H' ∧ OwD W' v g LL := by
  have hx' : mkz b n c AV.nils = some (List.replicate n.toNat .nils) ∧ LL = List.replicate n.toNat [] := by
    unfold mkz at hx ⊢
    split at hx
    · rename_i h0
      rw [if_pos h0]; cases hx; exact ⟨rfl, rfl⟩
    · cases hx
  obtain ⟨e, rfl⟩ := hx'
  obtain ⟨v, H', g, W', h1, h2, h3, h4⟩ := ow_mk (kn := kn) (kc := kc) hst (show Rp.rv W AV.nils AV.nils from ⟨rfl, rfl, rfl⟩) [.nils] rfl e
  refine ⟨v, H', g, W', h1, h2, h3, List.replicate n.toNat .nils, List.replicate n.toNat [], g, h4, ?_, by simp⟩
  generalize n.toNat = m
  induction m with
  | zero => exact trivial
  | succ m ih => exact ⟨ow_nil _, ih⟩
end
end Go.AM
namespace Go.AM

structure FoI (F R : List Int) (d : Nat → Nat) : Prop where
  len : F.length = R.length
  at_ : ∀ x, x < F.length → ∃ p : Nat, F[x]? = some (p : Int) ∧ p < F.length ∧ (p ≠ x → d p < d x) ∧ R[p]? = R[x]? ∧ (p = x → R[x]? = some (x : Int))

theorem set_get {F : List Int} {i j : Nat} {y : Int} (hi : i < F.length) : (F.set i y)[j]? = if i = j then some y else F[j]? := by
  rw [List.getElem?_set]
  split
  · rfl
  · rfl

theorem FoI.half {F R : List Int} {d : Nat → Nat} (h : FoI F R d) {x p q : Nat} (hx : x < F.length) (h1 : F[x]? = some (p : Int)) (h2 : F[p]? = some (q : Int)) : FoI (F.set x q) R d := by
  obtain ⟨p', a1, a2, a3, a4, a5⟩ := h.at_ x hx
  rw [h1] at a1
  have : p' = p := by have := Option.some.inj a1; omega
  subst this
  obtain ⟨q', b1, b2, b3, b4, b5⟩ := h.at_ p' a2
  rw [h2] at b1
  have : q' = q := by have := Option.some.inj b1; omega
  subst this
  refine ⟨by simp [h.len], fun y hy => ?_⟩
  rw [List.length_set] at hy ⊢
  rw [set_get hx]
  by_cases e : x = y
  · subst e
    rw [if_pos rfl]
    refine ⟨q', rfl, b2, fun hne => ?_, b4.trans a4, fun he => ?_⟩
    · by_cases e1 : p' = x
      · subst e1
        rw [h1] at h2
        have : p' = q' := by have := Option.some.inj h2; omega
        exact absurd this.symm hne
      · have := a3 e1
        by_cases e2 : q' = p'
        · rw [e2]; exact this
        · have := b3 e2; omega
    · by_cases e1 : p' = x
      · exact a5 e1
      · have c1 := a3 e1
        have c2 := b3 (by rw [he]; exact fun e => e1 e.symm)
        rw [he] at c2; omega
  · rw [if_neg e]
    exact h.at_ y hy

def fset (R : List Int) (x y : Int) : Option (List Int) := if gi R x = some x ∧ gi R y = some y then some (R.map fun z => if z = x then y else z) else none
def fnew (F : List Int) : Option (List Int) := if F = (List.range F.length).map Int.ofNat then some F else none

theorem FoI.set {F R R' : List Int} {d : Nat → Nat} {x y : Int} (h : FoI F R d) (hx : fset R x y = some R') : ∃ F' d', si F x y = some F' ∧ FoI F' R' d' := by
  unfold fset at hx
  split at hx
  · rename_i h0
    cases hx
    obtain ⟨ha, hb⟩ := h0
    obtain ⟨a, rfl, ha1, ha2⟩ := gi_some ha
    obtain ⟨b, rfl, hb1, hb2⟩ := gi_some hb
    have ra : R[a]? = some (a : Int) := by rw [List.getElem?_eq_getElem ha1, ha2]
    have rb : R[b]? = some (b : Int) := by rw [List.getElem?_eq_getElem hb1, hb2]
    rw [← h.len] at ha1 hb1
    refine ⟨F.set a b, fun z => if R[z]? = some (a : Int) ∧ a ≠ b then d z + d b + 1 else d z, by unfold si; rw [if_pos ⟨by omega, by omega⟩]; simp, ?_⟩
    refine ⟨by simp [h.len], fun z hz => ?_⟩
    rw [List.length_set] at hz ⊢
    simp only [set_get ha1, List.getElem?_map]
    by_cases e : a = z
    · subst e
      simp only [if_true]
      refine ⟨b, rfl, hb1, fun hne => ?_, ?_, fun he => ?_⟩
      · simp only [ra, rb, true_and, Option.some.injEq]
        rw [if_neg (by omega), if_pos (fun e => hne e.symm)]
        omega
      · simp only [ra, rb, Option.map_some, if_true]
        split <;> rfl
      · subst he
        simp only [ra, Option.map_some, if_true]
    · simp only [if_neg e]
      obtain ⟨p, a1, a2, a3, a4, a5⟩ := h.at_ z hz
      refine ⟨p, a1, a2, fun hne => ?_, by rw [a4], fun he => ?_⟩
      · have := a3 hne
        rw [a4]
        split <;> omega
      · rw [a5 he]
        simp only [Option.map_some]
        rw [if_neg (by omega)]
  · cases hx

theorem FoI.new {F R : List Int} (h : fnew F = some R) : FoI F R fun _ => 0 := by
  unfold fnew at h
  split at h
  · rename_i h0
    cases h
    have g : ∀ x, x < F.length → F[x]? = some (x : Int) := fun x hx => by rw [h0]; simp [hx]
    exact ⟨rfl, fun x hx => ⟨x, g x hx, hx, fun h => absurd rfl h, rfl, fun _ => g x hx⟩⟩
  · cases h

def OwF (W : AH) (v : AV) (g : Frag) (R : List Int) : Prop := ∃ F d, OwS W v g F ∧ FoI F R d
theorem OwF.mono {W W' : AH} {v : AV} {g : Frag} {R : List Int} (hw : Wle W W') (h : OwF W v g R) : OwF W' v g R := by
  obtain ⟨F, d, h1, h2⟩ := h
  exact ⟨F, d, h1.mono hw, h2⟩
section
variable {W H : AH} {v : AV} {g : Frag} {R : List Int} {G : List Frag}
theorem of_ln (h : OwF W v g R) : ln v = some (.int .i64 R.length) := by
  obtain ⟨F, d, h1, h2⟩ := h
  rw [ow_ln h1, h2.len]
theorem of_big (h : OwF W v g R) : R.length ≤ 9223372036854775807 := by
  obtain ⟨F, d, h1, h2⟩ := h
  rw [← h2.len]; exact ow_big h1
theorem of_new {F : List Int} (h : OwS W v g F) (hx : fnew F = some R) : OwF W v g R := ⟨F, _, h, FoI.new hx⟩
theorem of_set {k : IntKind} {x y : Int} {R' : List Int} (hst : St (g :: G) W H) (h : OwF W v g R) (hx : fset R x y = some R') :
    ∃ p H' g', ia 1 v (.int k x) = some p ∧ st 1 p (.int .i64 y) H = some H' ∧ St (g' :: G) W H' ∧ OwF W v g' R' := by
  obtain ⟨F, d, h1, h2⟩ := h
  obtain ⟨F', d', h3, h4⟩ := h2.set hx
  obtain ⟨p, H', g', e1, e2, e3, e4⟩ := ow_set (k := k) 1 rfl hst h1 (show Rp.rv W (.int .i64 y) y from rfl) h3
  exact ⟨p, H', g', e1, e2, e3, F', d', e4, h4⟩
end
end Go.AM
namespace Go.AM

def Lk {α : Type} [Rp α] (R : AH → List AV → α → Prop) : Prop := ∀ H cs x, R H cs x → ∃ v, cs = v.cells ∧ Rp.rv H v x
theorem Lk.int : Lk (α := Int) (RInt .i64) := fun H cs x h => ⟨.int .i64 x, h.1, rfl⟩
theorem Lk.slice {α : Type} [Rp α] {R : AH → List AV → α → Prop} (hR : Lk R) : Lk (α := List α) (RSl R (Rp.sz α)) := by
  rintro H cs L (⟨rfl, rfl⟩ | ⟨o, cap, cells, rfl, h1, h2, h3, h4, h5⟩)
  · exact ⟨.nils, rfl, .inl ⟨rfl, rfl⟩⟩
  · refine ⟨.sli o 0 L.length (Rp.sz α) (some cap), rfl, ?_⟩
    unfold rowAt at h1
    split at h1
    · rename_i l w hr
      cases h1
      refine .inr ⟨o, 0, some cap, cells, w, rfl, hr, ⟨by rw [h4, Nat.zero_add]; exact Nat.mul_le_mul_right _ h2, fun i hi => ?_⟩, Nat.le_trans h2 h3, h2⟩
      obtain ⟨v, hv, hx⟩ := hR _ _ _ (h5 i hi)
      have : cv α cells (0 + i * Rp.sz α) = v := by
        rw [Nat.zero_add]
        cases ha : Rp.ag α with
        | true => rw [cv_agg ha, hv]; exact (Rp.agg ha hx).symm
        | false =>
          have hz := (Rp.one ha).1
          rw [(Rp.one ha).2 hx, hz] at hv
          rw [cv_one ha, hz, List.getD_eq_getElem?_getD]
          have h0 : ((cells.drop (i * 1)).take 1)[0]? = some v := by rw [hv]; rfl
          rw [List.getElem?_take, if_pos (by omega), List.getElem?_drop, Nat.add_zero] at h0
          rw [h0]; rfl
      rw [this]; exact hx
    · cases h1
theorem Lk.one {α : Type} [Rp α] {R : AH → List AV → α → Prop} (hR : Lk R) (ha : Rp.ag α = false) {H : AH} {cs : List AV} {x : α} (h : R H cs x) : ∃ v, cs = [v] ∧ Rp.rv H v x := by
  obtain ⟨v, rfl, hv⟩ := hR _ _ _ h
  exact ⟨v, (Rp.one ha).2 hv, hv⟩
theorem St.start (H : AH) : St [] H H := ⟨rfl, fun _ _ h _ => h, by simp, by simp⟩
end Go.AM
