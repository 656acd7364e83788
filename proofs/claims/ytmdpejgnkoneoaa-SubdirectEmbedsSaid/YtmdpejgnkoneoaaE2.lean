/- Part 2 of the proof that the law SubdirectEmbeds holds: words and lemmas it rests on. No condition. -/
import Derived.Test.YtmdpejgnkoneoaaE1
import Derived.LoopN
import GoSem.ClaimChange
import Derived.ProofKit
set_option linter.unusedSimpArgs false
set_option linter.unusedVariables false
set_option linter.unnecessarySimpa false
set_option linter.unusedSectionVars false
namespace Go.AM
open Go.RowKit

def Enters (P : Program) (f : FuncId) : Prop := ∃ fn c, P.funcs[f]? = some fn ∧ (fn.name == "runtime.NumGoroutine") = false ∧ fn.body = some c

def Ret (P : Program) (B : Nat) (ρ : RL) (w : World) (f : FuncId) (vs : List Value) (R : AV → AH → Prop) : Prop :=
  Calls P f ⟨vs⟩ w fun e w' => ∃ ρ' u v H', e = .returned u ∧ Ext ρ ρ' ∧ VR ρ' v u ∧ RH B ρ' H' w' ∧ Below B w w' ∧ R v H'

structure PTok (P : Program) (c : PT) : Prop where
  enters : ∀ f xs H R, c f xs H R → Enters P f
  sound : ∀ f xs H R, c f xs H R → ∀ (B : Nat) (ρ : RL) (w : World) (vs : List Value), VRs ρ xs vs → RH B ρ H w → Ret P B ρ w f vs R
  some : ∀ f xs H R, c f xs H R → ∃ v H', R v H'
  mono : ∀ f xs H (R R' : AV → AH → Prop), c f xs H R → (∀ v H', R v H' → R' v H') → c f xs H R'

structure CodeOK (P : Program) (f : FuncId) (F : FnC) : Prop where
  ok : ∃ fn c, P.funcs[f]? = some fn ∧ (fn.name == "runtime.NumGoroutine") = false ∧ fn.body = some c ∧ comp P c = some F.body ∧ fn.ntmps = F.n ∧ cres P fn.results.toList = some F.res

def PrimOK (P : Program) (f : FuncId) (g : PT → List AV → AH → (AV → AH → Prop) → Prop) : Prop :=
  ∀ c, PTok P c → ∀ xs H (R : AV → AH → Prop), g c xs H R →
    Enters P f ∧ (∀ (B : Nat) (ρ : RL) (w : World) (vs : List Value), VRs ρ xs vs → RH B ρ H w → Ret P B ρ w f vs R) ∧ (∃ v H', R v H') ∧ ∀ R' : AV → AH → Prop, (∀ v H', R v H' → R' v H') → g c xs H R'

def EnvOK (P : Program) (E : Env) : Prop := ∀ f, match E f with
  | some (.code F) => CodeOK P f F
  | some (.prim g) => PrimOK P f g
  | none => True

section
variable {P : Program} {B : Nat} {ρ : RL} {H : AH} {w : World} {a : Act} {s : Sl}

theorem VRs_put (hs : VRs ρ s a.tmps.toList) (d : Option Nat) {v : AV} {u : Value} (hv : VR ρ v u) : VRs ρ (pt s d v) (a.put d u).tmps.toList := by
  cases d with
  | none => exact hs
  | some d =>
    simp only [pt, Act.put, Array.toList_setIfInBounds]
    exact hs.set d hv

theorem put_defers (a : Act) (d : Option Nat) (u : Value) : (a.put d u).defers = a.defers := by cases d <;> rfl

theorem wanted_eq {ops : Array Oper} {o : Oper} (hs : VRs ρ s a.tmps.toList) : Region.wanted o (yielded ops a.tmps) = wanted s (cso P ops o) := by
  unfold Region.wanted wanted cso
  cases hg : o.guard with
  | none => rfl
  | some jw =>
    obtain ⟨j, wt⟩ := jw
    simp only
    cases hd : (ops[j]?).bind (·.dst) with
    | none => simp [yielded, hd]
    | some t =>
      have h := VR_gt hs t
      simp only [yielded, hd, Option.bind_some]
      have hval : a.tmps.getD t undef = (a.tmps[t]?).getD undef := by simp
      rw [hval] at h
      cases hx : a.tmps[t]? with
      | none =>
        rw [hx] at h
        simp only [Option.getD_none] at h
        cases hg' : gt s t <;> simp
        rename_i b
        rw [hg'] at h
        have := VR_bool h
        simp [undef] at this
      | some u =>
        rw [hx] at h
        simp only [Option.getD_some] at h
        cases hg' : gt s t <;> rw [hg'] at h <;> simp only [VR] at h
        case bool b => subst h; simp
        all_goals first
          | (subst h; rfl)
          | (obtain ⟨_, _, _, _, rfl, _⟩ := h; rfl)
          | (obtain ⟨_, rfl, _⟩ := h; rfl)
          | (obtain ⟨_, _, rfl⟩ := h; rfl)

theorem badK_none : aop nocall s H badK = none := by simp [aop, badK, ev]


theorem call_sound {c : PT} (hcs : PTok P c) {o : Oper} {k : K} {R : AV → AH → Prop} (hc : cop P o.op = some k) (hv : Wcall c s H R k) (hs : VRs ρ s a.tmps.toList) (hR : RH B ρ H w) :
    ∃ f vs, (execOp a.eval o).run P w = .ok (.enter f ⟨vs⟩) w ∧ Ret P B ρ w f vs R := by
  have hk : isCall k = true := by cases k <;> simp [Wcall] at hv <;> rfl
  have hop : ∃ c, o.op = .call c := by
    cases ho : o.op <;> rw [ho] at hc <;> (try simp only [cop, reduceCtorEq] at hc)
    case call c => exact ⟨c, rfl⟩
    case makeFunc fn first cs =>
      exfalso
      cases fn <;> simp only [cop, reduceCtorEq] at hc
      split at hc
      · obtain ⟨y, _, rfl⟩ := Option.map_eq_some_iff.1 hc; simp [isCall] at hk
      · simp at hc
    case makeMap t r =>
      exfalso
      cases r <;> simp only [cop, reduceCtorEq] at hc
      simp only [Option.some.injEq] at hc; subst hc; simp [isCall] at hk
    all_goals
      exfalso
      first
        | (obtain ⟨y, _, rfl⟩ := Option.map_eq_some_iff.1 hc; simp [isCall] at hk; done)
        | (repeat' split at hc) <;> first
            | (simp at hc; done)
            | (simp only [Option.some.injEq] at hc; subst hc; simp [isCall] at hk; done)
            | (obtain ⟨y, _, rfl⟩ := Option.map_eq_some_iff.1 hc; simp [isCall] at hk; done)
  obtain ⟨⟨callee, args, ats⟩, ho⟩ := hop
  rw [ho] at hc
  simp only [cop] at hc
  split at hc
  · rename_i f xs hxs
    simp only [Option.some.injEq] at hc; subst hc
    simp only [Wcall] at hv
    obtain ⟨fn, c, h1, h2, h3⟩ := hcs.enters _ _ _ _ hv
    have hvs := VRs_evs hs hxs
    refine ⟨f, args.toList.map a.eval, ?_, hcs.sound _ _ _ _ hv B ρ w _ hvs hR⟩
    have h2' : fn.name ≠ "runtime.NumGoroutine" := by simpa using h2
    simp [execOp, ho, resolve, Act.eval, Deferred.ofValue, invoke, callFunc, h1, h2', h3]
    exact Array.ext' (by simp)
  · obtain ⟨y, hf, rfl⟩ := Option.map_eq_some_iff.1 hc
    rename_i fo xs _ hxs
    simp only [Wcall] at hv
    split at hv <;> try (exact hv.elim)
    rename_i f cs hfe
    obtain ⟨fn, c, h1, h2, h3⟩ := hcs.enters _ _ _ _ hv
    have hfv := VR_ev hs hf
    rw [hfe] at hfv
    obtain ⟨cvs, hfv, hcvs⟩ := VR_fn hfv
    have hvs := VRs_evs hs hxs
    refine ⟨f, args.toList.map a.eval ++ cvs, ?_, hcs.sound _ _ _ _ hv B ρ w _ (hvs.append hcvs) hR⟩
    have h2' : fn.name ≠ "runtime.NumGoroutine" := by simpa using h2
    simp [execOp, ho, resolve, hfv, Deferred.ofValue, invoke, callFunc, h1, h2', h3]
  all_goals
    exfalso
    (repeat' split at hc) <;> first
      | (simp at hc; done)
      | (simp only [Option.some.injEq] at hc; subst hc; simp [isCall] at hk; done)

theorem op_sound {c : PT} (hcs : PTok P c) {Q : Exit → Act → World → Prop} {o : Oper} {R : AV → AH → Prop} {K : Act → World → Prop} (hv : Wop c s H ((cop P o.op).getD badK) R)
    (hs : VRs ρ s a.tmps.toList) (hd : a.defers = []) (hR : RH B ρ H w) (ih : ∀ (a1 : Act) (w1 : World) (ρ1 : RL) (v : AV) (H1 : AH), R v H1 → Ext ρ ρ1 → VRs ρ1 (pt s o.dst v) a1.tmps.toList → a1.defers = [] → RH B ρ1 H1 w1 → Below B w w1 → K a1 w1) : o.wp P a w K Q := by
  cases hc : cop P o.op with
  | none =>
    rw [hc] at hv
    simp only [Option.getD_none, Wop, badK, isCall, Bool.false_eq_true, if_false] at hv
    have : aop nocall s H (.same (.c .nilp)) = none := badK_none
    rw [this] at hv
    exact hv.elim
  | some k =>
    rw [hc] at hv
    simp only [Option.getD_some, Wop] at hv
    unfold Oper.wp
    split at hv
    · obtain ⟨f, vs, hr, hret⟩ := call_sound hcs hc hv hs hR
      rw [hr]
      refine Calls.mono hret ?_
      rintro e w' ⟨ρ', u, v, H', rfl, he, hvr, hR', hb, hRR⟩
      exact ih _ _ ρ' v H' hRR he (VRs_put (VRs.mono he _ _ hs) _ hvr) (by rw [put_defers]; exact hd) hR' hb
    · rename_i hk
      split at hv <;> try (exact hv.elim)
      rename_i v H' hva
      obtain ⟨ρ', w', n, v', hr, hn, he, hvr, hR', hb⟩ := aop_sound hc (by simpa using hk) hva hs hR
      rw [hr]
      have hs1 : VRs ρ' s a.tmps.toList := VRs.mono he _ _ hs
      rcases hn with rfl | ⟨rfl, rfl⟩
      · exact ih _ _ ρ' v H' hv he (VRs_put hs1 _ hvr) (by rw [put_defers]; exact hd) hR' hb
      · exact ih _ _ ρ' v H' hv he (VRs_put hs1 _ hvr) (by rw [put_defers]; exact hd) hR' hb

theorem aops_sound {c : PT} (hcs : PTok P c) {ops : Array Oper} {Q : Exit → Act → World → Prop} {R : Sl → AH → Prop} : ∀ (l : List Nat) (s : Sl) (H : AH) (a : Act) (w : World) (ρ : RL), (∀ i ∈ l, i < ops.size) → Wops c (sos P ops l) s H R →
    VRs ρ s a.tmps.toList → a.defers = [] → RH B ρ H w → (∀ a' w' ρ' s' H', R s' H' → Ext ρ ρ' → VRs ρ' s' a'.tmps.toList → a'.defers = [] → RH B ρ' H' w' → Below B w w' → Q .normal a' w') → wpOps P ops Q l a w
  | [], s, H, a, w, ρ, _, h, hs, hd, hR, hQ => by
    simp only [sos, List.map_nil, Wops] at h
    exact hQ a w ρ s H h (Ext.refl _) hs hd hR (Below.refl _ _)
  | i :: l, s, H, a, w, ρ, hi, h, hs, hd, hR, hQ => by
    have hilt := hi i (by simp)
    have ho : ops[i]? = some ops[i] := Array.getElem?_eq_getElem hilt
    generalize ops[i] = o at ho
    have hsos : sos P ops (i :: l) = cso P ops o :: sos P ops l := by simp [sos, soAt, ho]
    rw [hsos] at h
    simp only [Wops] at h
    simp only [wpOps, ho]
    rw [wanted_eq (P := P) hs]
    split at h
    · rename_i hw
      rw [if_pos hw]
      left
      refine op_sound (K := wpOps P ops Q l) hcs h hs hd hR ?_
      intro a1 w1 ρ1 v H1 hRR e1 hs1 hd1 hR1 hb1
      exact aops_sound hcs l _ H1 a1 w1 ρ1 (fun j hj => hi j (by simp [hj])) hRR hs1 hd1 hR1 (fun a' w' ρ' s' H' hRR' e' hs' hd' hR' hb' => hQ a' w' ρ' s' H' hRR' (e1.trans e') hs' hd' hR' (hb1.trans hb'))
    · rename_i hw
      rw [if_neg hw]
      have hsk : VRs ρ (pt s o.dst (.tup [])) (a.put o.dst undef).tmps.toList := VRs_put hs _ (by simp [VR, VRs, undef])
      exact aops_sound hcs l _ H _ w ρ (fun j hj => hi j (by simp [hj])) h hsk (by rw [put_defers]; exact hd) hR hQ

end

theorem swapW {P : Program} {c : PT} (hcs : PTok P c) {x y : SO} {l : List SO} {s : Sl} {H : AH} {R : Sl → AH → Prop} (hm : mayS x y = true) (h : Wops c (x :: y :: l) s H R) : Wops c (y :: x :: l) s H R := by
  obtain ⟨m1, m2, m3, m4⟩ := mayS_spec hm
  have ak : ∀ {o : SO} {s s' : Sl}, agree (readsS o) s s' → agree (readsK o.k) s s' := fun h => agree.left h
  have noc : ∀ {k : K}, cls k ≠ .loud → isCall k = false := by intro k hk; cases k <;> first | rfl | (exact (hk rfl).elim)
  have callAgree : ∀ {k : K} {s s' : Sl} {H : AH} {R : AV → AH → Prop}, agree (readsK k) s s' → Wcall c s H R k → Wcall c s' H R k := by
    intro k s s' H R hag hw
    cases k <;> simp only [Wcall] at hw ⊢
    · rw [← evs_agree hag]; exact hw
    · rw [← ev_agree hag.left, ← evs_agree hag.right]; exact hw
  have callMono : ∀ {k : K} {s : Sl} {H : AH} {R R' : AV → AH → Prop}, Wcall c s H R k → (∀ v H', R v H' → R' v H') → Wcall c s H R' k := by
    intro k s H R R' hw hr
    cases k <;> simp only [Wcall] at hw ⊢
    · exact hcs.mono _ _ _ _ _ hw hr
    · split at hw
      · exact hcs.mono _ _ _ _ _ hw hr
      · exact hw
  have callSome : ∀ {k : K} {s : Sl} {H : AH} {R : AV → AH → Prop}, Wcall c s H R k → ∃ v H', R v H' := by
    intro k s H R hw
    cases k <;> simp only [Wcall] at hw
    · exact hcs.some _ _ _ _ hw
    · split at hw
      · exact hcs.some _ _ _ _ hw
      · exact hw.elim
  -- one operation, wanted or not, that is no call
  have one : ∀ (o : SO) (s : Sl) (H : AH) (K : Sl → AH → Prop), isCall o.k = false → ((if wanted s o then Wop c s H o.k fun v H' => K (pt s o.dst v) H' else K (pt s o.dst (.tup [])) H) ↔ ∃ v H', (if wanted s o then aop nocall s H o.k = some (v, H') else (v = .tup [] ∧ H' = H)) ∧ K (pt s o.dst v) H') := by
    intro o s H K hk
    constructor
    · intro h
      split at h
      · rename_i hw
        simp only [Wop, hk, Bool.false_eq_true, if_false] at h
        split at h <;> try (exact h.elim)
        rename_i v H' hv
        exact ⟨v, H', by rw [if_pos hw]; exact hv, h⟩
      · rename_i hw
        exact ⟨_, _, by rw [if_neg hw]; exact ⟨rfl, rfl⟩, h⟩
    · rintro ⟨v, H', h1, h2⟩
      split at h1
      · rename_i hw
        rw [if_pos hw]
        simp only [Wop, hk, Bool.false_eq_true, if_false, h1]
        exact h2
      · rename_i hw
        rw [if_neg hw]
        obtain ⟨rfl, rfl⟩ := h1
        exact h2
  have step : ∀ (o : SO) (l : List SO) (s : Sl) (H : AH), Wops c (o :: l) s H R = (if wanted s o then Wop c s H o.k fun v H' => Wops c l (pt s o.dst v) H' R else Wops c l (pt s o.dst (.tup [])) H R) := fun _ _ _ _ => rfl
  rw [step] at h ⊢
  cases hx : isCall x.k with
  | false =>
    rw [one x s H (fun s' H' => Wops c (y :: l) s' H' R) hx] at h
    obtain ⟨vx, Hx, h1, h2⟩ := h
    rw [step] at h2
    have agy : agree (readsS y) (pt s x.dst vx) s := agree_pt m1
    rw [wanted_agree agy] at h2
    cases hy : isCall y.k with
    | false =>
      have h2' : ∃ vy Hy, (if wanted s y then aop nocall s Hx y.k = some (vy, Hy) else (vy = .tup [] ∧ Hy = Hx)) ∧ Wops c l (pt (pt s x.dst vx) y.dst vy) Hy R := by
        have h3 := (one y (pt s x.dst vx) Hx (fun s' H' => Wops c l s' H' R) hy).1 (by rw [wanted_agree agy]; exact h2)
        rw [wanted_agree agy, ] at h3
        obtain ⟨vy, Hy, h4, h5⟩ := h3
        rw [aop_agree _ (ak agy)] at h4
        exact ⟨vy, Hy, h4, h5⟩
      obtain ⟨vy, Hy, h3, h4⟩ := h2'
      have agx : agree (readsS x) (pt s y.dst vy) s := agree_pt m3
      have key : ∃ J, (if wanted s y then aop nocall s H y.k = some (vy, J) else (vy = .tup [] ∧ J = H)) ∧ (if wanted s x then aop nocall s J x.k = some (vx, Hy) else (vx = .tup [] ∧ Hy = J)) := by
        by_cases wx : wanted s x = true
        · rw [if_pos wx] at h1
          simp only [if_pos wx]
          by_cases wy : wanted s y = true
          · rw [if_pos wy] at h3
            simp only [if_pos wy]
            rcases m4 with h | h | ⟨h, h' | h'⟩
            · obtain ⟨rfl, hp⟩ := aop_pure h h1
              exact ⟨Hy, h3, hp Hy⟩
            · obtain ⟨rfl, hp⟩ := aop_pure h h3
              exact ⟨H, hp H, h1⟩
            · obtain ⟨rfl, _⟩ := aop_read h h1
              obtain ⟨rfl, _⟩ := aop_read h' h3
              exact ⟨_, h3, h1⟩
            · obtain ⟨rfl, hp⟩ := aop_read h h1
              obtain ⟨q, rfl⟩ := aop_alloc h' h3
              exact ⟨_, h3, hp q⟩
          · rw [if_neg wy] at h3
            simp only [if_neg wy]
            obtain ⟨rfl, rfl⟩ := h3
            exact ⟨H, ⟨rfl, rfl⟩, h1⟩
        · rw [if_neg wx] at h1
          simp only [if_neg wx]
          obtain ⟨rfl, rfl⟩ := h1
          by_cases wy : wanted s y = true
          · rw [if_pos wy] at h3
            simp only [if_pos wy]
            exact ⟨Hy, h3, by simp⟩
          · rw [if_neg wy] at h3
            simp only [if_neg wy]
            obtain ⟨rfl, rfl⟩ := h3
            exact ⟨_, ⟨rfl, rfl⟩, by simp⟩
      obtain ⟨J, k1, k2⟩ := key
      rw [one y s H (fun s' H' => Wops c (x :: l) s' H' R) hy]
      refine ⟨vy, J, k1, ?_⟩
      rw [step, one x (pt s y.dst vy) J (fun s' H' => Wops c l s' H' R) hx]
      refine ⟨vx, Hy, ?_, ?_⟩
      · rw [wanted_agree agx, aop_agree _ (ak agx)]; exact k2
      · rw [← pt_comm m2]; exact h4
    | true =>
      -- x is pure: it goes behind the call
      have hcy : cls y.k = .loud := by cases hk : y.k <;> rw [hk] at hy <;> simp [isCall] at hy <;> rfl
      have hpx : cls x.k = .pure := by
        rcases m4 with h | h | ⟨_, h | h⟩
        · exact h
        · rw [hcy] at h; cases h
        · rw [hcy] at h; cases h
        · rw [hcy] at h; cases h
      have after : ∀ v J, ∃ v2 H2, (if wanted (pt s y.dst v) x then aop nocall (pt s y.dst v) J x.k = some (v2, H2) else (v2 = .tup [] ∧ H2 = J)) ∧ v2 = vx ∧ H2 = J := by
        intro v J
        have agx : agree (readsS x) (pt s y.dst v) s := agree_pt m3
        rw [wanted_agree agx, ]
        by_cases wx : wanted s x = true
        · rw [if_pos wx] at h1
          simp only [if_pos wx]
          obtain ⟨_, hp⟩ := aop_pure hpx h1
          exact ⟨vx, J, by rw [aop_agree _ (ak agx)]; exact hp J, rfl, rfl⟩
        · rw [if_neg wx] at h1
          simp only [if_neg wx]
          exact ⟨vx, J, ⟨h1.1, rfl⟩, rfl, rfl⟩
      have hHx : Hx = H := by
        by_cases wx : wanted s x = true
        · rw [if_pos wx] at h1
          exact (aop_pure hpx h1).1
        · rw [if_neg wx] at h1; exact h1.2
      subst hHx
      split at h2
      · rename_i wy
        rw [if_pos wy]
        simp only [Wop, hy, if_true] at h2 ⊢
        refine callMono (callAgree (ak agy) h2) ?_
        intro v J hl
        rw [step, one x (pt s y.dst v) J (fun s' H' => Wops c l s' H' R) hx]
        obtain ⟨v2, H2, g1, rfl, rfl⟩ := after v J
        exact ⟨_, _, g1, by rw [← pt_comm m2]; exact hl⟩
      · rename_i wy
        rw [if_neg wy, step, one x (pt s y.dst (.tup [])) _ (fun s' H' => Wops c l s' H' R) hx]
        obtain ⟨v2, H2, g1, rfl, rfl⟩ := after (.tup []) Hx
        exact ⟨_, _, g1, by rw [← pt_comm m2]; exact h2⟩
  | true =>
    -- y is pure: it goes ahead of the call
    have hcx : cls x.k = .loud := by cases hk : x.k <;> rw [hk] at hx <;> simp [isCall] at hx <;> rfl
    have hpy : cls y.k = .pure := by
      rcases m4 with h | h | ⟨h, _⟩
      · rw [hcx] at h; cases h
      · exact h
      · rw [hcx] at h; cases h
    have hy : isCall y.k = false := noc (by rw [hpy]; simp)
    -- what y gives behind whatever x gave
    have yon : ∀ v J, Wops c (y :: l) (pt s x.dst v) J R → ∃ vy, (if wanted s y then (∀ J, aop nocall s J y.k = some (vy, J)) else vy = .tup []) ∧ Wops c l (pt (pt s x.dst v) y.dst vy) J R := by
      intro v J h
      have agy : agree (readsS y) (pt s x.dst v) s := agree_pt m1
      rw [step, one y (pt s x.dst v) J (fun s' H' => Wops c l s' H' R) hy, ] at h
      obtain ⟨vy, Hy, g1, g2⟩ := h
      rw [wanted_agree agy, aop_agree _ (ak agy)] at g1
      by_cases wy : wanted s y = true
      · rw [if_pos wy] at g1
        obtain ⟨rfl, hp⟩ := aop_pure hpy g1
        exact ⟨vy, by rw [if_pos wy]; exact hp, g2⟩
      · rw [if_neg wy] at g1
        obtain ⟨rfl, rfl⟩ := g1
        exact ⟨_, by rw [if_neg wy], g2⟩
    have fin : ∀ vy, (if wanted s y then (∀ J, aop nocall s J y.k = some (vy, J)) else vy = .tup []) → (if wanted (pt s y.dst vy) x then Wop c (pt s y.dst vy) H x.k fun v H' => Wops c l (pt (pt s y.dst vy) x.dst v) H' R else Wops c l (pt (pt s y.dst vy) x.dst (.tup [])) H R) →
        (if wanted s y then Wop c s H y.k fun v H' => Wops c (x :: l) (pt s y.dst v) H' R else Wops c (x :: l) (pt s y.dst (.tup [])) H R) := by
      intro vy g1 g2
      rw [one y s H (fun s' H' => Wops c (x :: l) s' H' R) hy]
      refine ⟨vy, H, ?_, ?_⟩
      · by_cases wy : wanted s y = true
        · rw [if_pos wy] at g1 ⊢; exact g1 H
        · rw [if_neg wy] at g1 ⊢; exact ⟨g1, rfl⟩
      · rw [step]; exact g2
    split at h
    · rename_i wx
      simp only [Wop, hx, if_true] at h
      obtain ⟨v0, J0, h0⟩ := callSome h
      obtain ⟨vy, g1, _⟩ := yon v0 J0 h0
      refine fin vy g1 ?_
      have agx : agree (readsS x) (pt s y.dst vy) s := agree_pt m3
      rw [wanted_agree agx, if_pos wx]
      simp only [Wop, hx, if_true]
      refine callMono (callAgree (fun i hi => ((ak agx) i hi).symm) h) ?_
      intro v J hl
      obtain ⟨vy2, g2, g3⟩ := yon v J hl
      have : vy2 = vy := by
        by_cases wy : wanted s y = true
        · rw [if_pos wy] at g1 g2
          have := (g1 H).symm.trans (g2 H)
          simp at this
          exact this.symm
        · rw [if_neg wy] at g1 g2; rw [g1, g2]
      subst this
      rw [← pt_comm m2]; exact g3
    · rename_i wx
      obtain ⟨vy, g1, g3⟩ := yon (.tup []) H h
      refine fin vy g1 ?_
      have agx : agree (readsS x) (pt s y.dst vy) s := agree_pt m3
      rw [wanted_agree agx, if_neg wx, ← pt_comm m2]
      exact g3


theorem frontW {P : Program} {c : PT} (hcs : PTok P c) {R : Sl → AH → Prop} {i : SO} {post : List SO} : ∀ (pre : List SO) (s : Sl) (H : AH), (∀ j ∈ pre, mayS j i = true) → Wops c (pre ++ i :: post) s H R → Wops c (i :: (pre ++ post)) s H R
  | [], s, H, _, h => h
  | j :: pre, s, H, hm, h => by
    refine swapW hcs (hm j (by simp)) ?_
    have hmono : ∀ (k : K) (s : Sl) (H : AH) (A B : AV → AH → Prop), Wop c s H k A → (∀ v H', A v H' → B v H') → Wop c s H k B := by
      intro k s H A B hw hr
      unfold Wop at hw ⊢
      split at hw
      · rename_i hk
        rw [if_pos hk]
        cases k <;> simp only [Wcall] at hw ⊢
        · exact hcs.mono _ _ _ _ _ hw hr
        · split at hw
          · exact hcs.mono _ _ _ _ _ hw hr
          · exact hw
      · rename_i hk
        rw [if_neg hk]
        split at hw
        · exact hr _ _ hw
        · exact hw
    show (if wanted s j then Wop c s H j.k fun v H' => Wops c (i :: (pre ++ post)) (pt s j.dst v) H' R else Wops c (i :: (pre ++ post)) (pt s j.dst (.tup [])) H R)
    have h' : (if wanted s j then Wop c s H j.k fun v H' => Wops c (pre ++ i :: post) (pt s j.dst v) H' R else Wops c (pre ++ i :: post) (pt s j.dst (.tup [])) H R) := h
    split at h'
    · rename_i hw
      rw [if_pos hw]
      exact hmono _ _ _ _ _ h' fun v H' hl => frontW hcs pre _ _ (fun q hq => hm q (by simp [hq])) hl
    · rename_i hw
      rw [if_neg hw]
      exact frontW hcs pre _ _ (fun q hq => hm q (by simp [hq])) h'

theorem Wop_mono {P : Program} {c : PT} (hcs : PTok P c) {k : K} {s : Sl} {H : AH} {A B : AV → AH → Prop} (hw : Wop c s H k A) (hr : ∀ v H', A v H' → B v H') : Wop c s H k B := by
  unfold Wop at hw ⊢
  split at hw
  · rename_i hk
    rw [if_pos hk]
    cases k <;> simp only [Wcall] at hw ⊢
    · exact hcs.mono _ _ _ _ _ hw hr
    · split at hw
      · exact hcs.mono _ _ _ _ _ hw hr
      · exact hw
  · rename_i hk
    rw [if_neg hk]
    split at hw
    · exact hr _ _ hw
    · exact hw

theorem bringW {P : Program} {c : PT} (hcs : PTok P c) {R : Sl → AH → Prop} (f : Nat → SO) : ∀ (l r : List Nat) (s : Sl) (H : AH), l.Nodup → r.Nodup → (∀ x, x ∈ l ↔ x ∈ r) → (∀ x y, [x, y].Sublist r → [y, x].Sublist l → mayS (f x) (f y) = true) →
    Wops c (r.map f) s H R → Wops c (l.map f) s H R
  | [], r, s, H, _, _, hm, _, h => by
    have : r = [] := List.eq_nil_iff_forall_not_mem.2 fun x hx => by have := (hm x).2 hx; simp at this
    subst this
    exact h
  | i :: l, r, s, H, hl, hr, hm, hi, h => by
    obtain ⟨pre, post, rfl⟩ := List.append_of_mem ((hm i).1 (by simp))
    have hil := (List.nodup_cons.1 hl).1
    have hpre : ∀ x ∈ pre, x ≠ i := by
      intro x hx e
      subst e
      exact (List.nodup_append.1 hr).2.2 x hx x (by simp) rfl
    have h1 : Wops c (f i :: (pre.map f ++ post.map f)) s H R := by
      refine frontW hcs (pre.map f) s H ?_ (by simpa using h)
      intro j hj
      obtain ⟨x, hx, rfl⟩ := List.mem_map.1 hj
      refine hi x i ?_ ?_
      · exact (List.singleton_sublist.2 hx).append (List.Sublist.cons_cons i (List.nil_sublist post))
      · have : x ∈ i :: l := (hm x).2 (by simp [hx])
        rcases List.mem_cons.1 this with e | hxl
        · exact (hpre x hx e).elim
        · exact List.Sublist.cons_cons i (List.singleton_sublist.2 hxl)
    have hrn : (pre ++ post).Nodup := hr.sublist ((List.Sublist.refl pre).append (List.sublist_cons_self i post))
    have hmm : ∀ x, x ∈ l ↔ x ∈ pre ++ post := by
      intro x
      have h2 := hm x
      simp only [List.mem_cons, List.mem_append] at h2 ⊢
      constructor
      · intro hx
        have hxi : x ≠ i := fun e => hil (e ▸ hx)
        rcases h2.1 (.inr hx) with h3 | h3 | h3
        · exact .inl h3
        · exact (hxi h3).elim
        · exact .inr h3
      · intro hx
        have hxi : x ≠ i := by
          rcases hx with hx | hx
          · exact hpre x hx
          · intro e
            subst e
            exact (List.nodup_cons.1 (List.nodup_append.1 hr).2.1).1 hx
        rcases h2.2 (hx.elim .inl fun h => .inr (.inr h)) with h3 | h3
        · exact (hxi h3).elim
        · exact h3
    have ih := fun (s : Sl) (H : AH) => bringW hcs (R := R) f l (pre ++ post) s H (List.nodup_cons.1 hl).2 hrn hmm
      (fun x y h3 h4 => hi x y (h3.trans ((List.Sublist.refl pre).append (List.sublist_cons_self i post))) (h4.cons i))
    show (if wanted s (f i) then Wop c s H (f i).k fun v H' => Wops c (l.map f) (pt s (f i).dst v) H' R else Wops c (l.map f) (pt s (f i).dst (.tup [])) H R)
    have h1' : (if wanted s (f i) then Wop c s H (f i).k fun v H' => Wops c (pre.map f ++ post.map f) (pt s (f i).dst v) H' R else Wops c (pre.map f ++ post.map f) (pt s (f i).dst (.tup [])) H R) := h1
    split at h1'
    · rename_i hw
      rw [if_pos hw]
      exact Wop_mono hcs h1' fun v H' hh => ih _ _ (by simpa using hh)
    · rename_i hw
      rw [if_neg hw]
      exact ih _ _ (by simpa using h1')

theorem befores_sub {ops : Array Oper} {l : List Nat} (hn : l.Nodup) (hall : ∀ i, i < ops.size → i ∈ l) (hlt : ∀ i ∈ l, i < ops.size) (hacy : ∀ i, i < ops.size → ∀ j ∈ edgesOf ops i, j < i) (he : ∀ i ∈ l, ∀ j ∈ edgesOf ops i, [j, i].Sublist l) : ∀ i, i < ops.size → ∀ k ∈ (befores ops).getD i [], [k, i].Sublist l := by
  have hb := befores_get ops ops.size (Nat.le_refl _)
  change (befores ops).length = ops.size ∧ (∀ i, i < ops.size → ∀ k ∈ (befores ops).getD i [], ∃ j ∈ edgesOf ops i, k = j ∨ (j < i ∧ k ∈ (befores ops).getD j [])) at hb
  obtain ⟨_, hb⟩ := hb
  have all : ∀ n i, i ≤ n → i < ops.size → ∀ k ∈ (befores ops).getD i [], [k, i].Sublist l := by
    intro n
    induction n with
    | zero =>
      intro i h0 hi k hk
      obtain ⟨j, hj, rfl | ⟨h1, _⟩⟩ := hb i hi k hk
      · exact he i (hall i hi) _ hj
      · omega
    | succ n ih =>
      intro i h0 hi k hk
      obtain ⟨j, hj, rfl | ⟨h1, h2⟩⟩ := hb i hi k hk
      · exact he i (hall i hi) _ hj
      · exact sub2_trans hn (ih j (by omega) (by omega) k h2) (he i (hall i hi) j hj)
  exact fun i hi k hk => all i i (Nat.le_refl _) hi k hk

theorem range_sub {n i j : Nat} (h : [i, j].Sublist (List.range n)) : i < j := by
  have := List.pairwise_lt_range (n := n)
  have h2 := this.sublist h
  simpa using h2

open Classical in
theorem orders_rep {P : Program} {ops : Array Oper} {ls : List (List Nat)} (ho : ordersOf P ops = some ls) {l : List Nat} (hn : l.Nodup) (hm : ∀ i, i ∈ l ↔ i < ops.size) (he : (∀ i, i < ops.size → ∀ j ∈ edgesOf ops i, j < i) → ∀ i ∈ l, ∀ j ∈ edgesOf ops i, [j, i].Sublist l) :
    ∃ r ∈ ls, r.Nodup ∧ (∀ x, x ∈ l ↔ x ∈ r) ∧ ∀ x y, [x, y].Sublist r → [y, x].Sublist l → mayS (soAt P ops x) (soAt P ops y) = true := by
  have hedge : ∀ j i, (j, i) ∈ edgesAll ops ↔ i < ops.size ∧ j ∈ edgesOf ops i := by
    intro j i
    simp only [edgesAll, List.mem_flatMap, List.mem_range, List.mem_map, Prod.mk.injEq]
    constructor
    · rintro ⟨a, ha, b, hb, rfl, rfl⟩; exact ⟨ha, hb⟩
    · rintro ⟨h1, h2⟩; exact ⟨i, h1, j, h2, rfl, rfl⟩
  have hpairs : ∀ x y, (x, y) ∈ pairsOf ops ↔ x < y ∧ y < ops.size ∧ x ∉ (befores ops).getD y [] := by
    intro x y
    simp only [pairsOf, List.mem_flatMap, List.mem_range, List.mem_map, List.mem_filter, Prod.mk.injEq, Bool.not_eq_true', List.contains_eq_mem, decide_eq_false_iff_not]
    constructor
    · rintro ⟨a, ha, b, ⟨hb1, hb2⟩, rfl, rfl⟩; exact ⟨hb1, ha, hb2⟩
    · rintro ⟨h1, h2, h3⟩; exact ⟨y, h2, x, ⟨h1, h3⟩, rfl, rfl⟩
  have hmay : ∀ x y, mayAt ((List.range ops.size).map (soAt P ops)) x y = true → mayS (soAt P ops x) (soAt P ops y) = true := by
    intro x y h
    unfold mayAt at h
    split at h
    · rename_i a b ha hb
      rw [List.getElem?_map] at ha hb
      simp only [Option.map_eq_some_iff] at ha hb
      obtain ⟨a', ha', rfl⟩ := ha
      obtain ⟨b', hb', rfl⟩ := hb
      have e1 := (List.getElem?_eq_some_iff.1 ha').2
      have e2 := (List.getElem?_eq_some_iff.1 hb').2
      simp at e1 e2
      subst e1 e2
      exact h
    · simp at h
  unfold ordersOf at ho
  simp only at ho
  split at ho
  · simp at ho
  rename_i hacy0
  have hacy : ∀ i, i < ops.size → ∀ j ∈ edgesOf ops i, j < i := by
    intro i hi j hj
    simp only [Bool.not_eq_true', Bool.not_eq_false, List.all_eq_true, decide_eq_true_eq] at hacy0
    exact hacy0 (j, i) ((hedge j i).2 ⟨hi, hj⟩)
  have he := he hacy
  have hlb := befores_sub hn (fun i hi => (hm i).2 hi) (fun i hi => (hm i).1 hi) hacy he
  generalize (List.range ops.size).map (soAt P ops) = S at ho hmay
  split at ho
  · rename_i hall
    simp only [Option.some.injEq] at ho; subst ho
    refine ⟨List.range ops.size, by simp, List.nodup_range, fun x => by rw [hm x]; simp, ?_⟩
    intro x y h1 h2
    have hxy := range_sub h1
    have hy : y < ops.size := by simpa using h1.subset (by simp : y ∈ [x, y])
    by_cases hb : x ∈ (befores ops).getD y []
    · exact (sub2_anti hn (hlb y hy x hb) h2).elim
    · rw [List.all_eq_true] at hall
      exact hmay x y (hall (x, y) ((hpairs x y).2 ⟨hxy, hy, hb⟩))
  · split at ho
    · simp at ho
    · split at ho <;> simp only [Option.some.injEq, reduceCtorEq] at ho
      rename_i hways
      subst ho
      -- how l orders what cannot change places
      let o : List (Nat × Nat) := (confOf S (pairsOf ops)).map fun e => if [e.1, e.2].Sublist l then (e.1, e.2) else (e.2, e.1)
      have hoa : o ∈ asg (confOf S (pairsOf ops)) := asg_mem (fun i j => [i, j].Sublist l) _
      have hol : ∀ e ∈ o, [e.1, e.2].Sublist l := by
        intro e heo
        obtain ⟨c, hc, rfl⟩ := List.mem_map.1 heo
        have hcp : c ∈ pairsOf ops := (List.mem_filter.1 hc).1
        obtain ⟨g1, g2, _⟩ := (hpairs c.1 c.2).1 hcp
        split
        · rename_i h; exact h
        · rename_i h
          rcases sub2_total ((hm c.1).2 (by omega)) ((hm c.2).2 g2) (by omega) with h2 | h2
          · exact (h h2).elim
          · exact h2
      rw [List.all_eq_true] at hways
      have hw := hways _ (List.mem_map.2 ⟨o, hoa, rfl⟩)
      simp only [Bool.and_eq_true, Bool.or_eq_true, Bool.not_eq_true'] at hw
      obtain ⟨hw1, hw2⟩ := hw
      have hf1 : full ops.size (topo ops.size (edgesAll ops ++ o)).1 = true := by
        refine topo_full hn (fun i hi => (hm i).2 hi) (fun i hi => (hm i).1 hi) ?_ hw1
        intro j i hji hi
        rcases List.mem_append.1 hji with h | h
        · exact he i ((hm i).2 hi) j ((hedge j i).1 h).2
        · exact hol _ h
      have hf2 : full ops.size (topo ops.size (edgesAll ops ++ o ++ forcedOf S (pairsOf ops))).1 = true := by
        rcases hw2 with h | h
        · rw [hf1] at h; cases h
        · exact h
      refine ⟨(topo ops.size (edgesAll ops ++ o ++ forcedOf S (pairsOf ops))).1, ?_, ?_⟩
      · refine List.mem_map.2 ⟨_, List.mem_filter.2 ⟨List.mem_map.2 ⟨o, hoa, rfl⟩, ?_⟩, rfl⟩
        exact hf2
      · have hg := topoGo_grow (n := ops.size) (prec := edgesAll ops ++ o ++ forcedOf S (pairsOf ops)) (ops.size + 1) []
        change Grow ops.size _ [] (topo ops.size (edgesAll ops ++ o ++ forcedOf S (pairsOf ops))).1 at hg
        generalize (topo ops.size (edgesAll ops ++ o ++ forcedOf S (pairsOf ops))).1 = r at hg hf2
        obtain ⟨r1, r2, r3⟩ := hg.spec
        have r3' : ∀ i ∈ r, ∀ j, (j, i) ∈ edgesAll ops ++ o ++ forcedOf S (pairsOf ops) → [j, i].Sublist r := by
          intro i hi j hj
          rcases r3 i hi j hj with h | h
          · simp at h
          · exact h
        have hmem : ∀ x, x ∈ l ↔ x ∈ r := by
          intro x
          rw [hm x]
          constructor
          · intro hx
            simp only [full, List.all_eq_true, List.mem_range] at hf2
            simpa using hf2 x hx
          · intro hx; exact (r2 x hx).1
        refine ⟨r1, hmem, ?_⟩
        have hrb := befores_sub r1 (fun i hi => (hmem i).1 ((hm i).2 hi)) (fun i hi => (r2 i hi).1) hacy (fun i hi j hj => r3' i hi j (List.mem_append.2 (.inl (List.mem_append.2 (.inl ((hedge j i).2 ⟨(r2 i hi).1, hj⟩))))))
        intro x y h1 h2
        have hx : x < ops.size := (r2 x (h1.subset (by simp))).1
        have hy : y < ops.size := (r2 y (h1.subset (by simp))).1
        have hxy : x ≠ y := by
          intro e
          subst e
          exact sub2_anti r1 h1 h1
        -- neither is among the other's befores
        have nb1 : x ∉ (befores ops).getD y [] := fun h => sub2_anti hn (hlb y hy x h) h2
        have nb2 : y ∉ (befores ops).getD x [] := fun h => sub2_anti r1 (hrb x hx y h) h1
        -- a pair that cannot change places stands in r as in l
        have conf : ∀ a b, (a, b) ∈ pairsOf ops → mayAt S a b = false → mayAt S b a = false → ([a, b].Sublist l → [a, b].Sublist r) ∧ ([b, a].Sublist l → [b, a].Sublist r) := by
          intro a b hp m1 m2
          have hc : (a, b) ∈ confOf S (pairsOf ops) := List.mem_filter.2 ⟨hp, by simp [m1, m2]⟩
          obtain ⟨g1, g2, _⟩ := (hpairs a b).1 hp
          constructor
          · intro h
            have : (a, b) ∈ o := List.mem_map.2 ⟨(a, b), hc, by simp [h]⟩
            exact r3' b ((hmem b).1 ((hm b).2 g2)) a (List.mem_append.2 (.inl (List.mem_append.2 (.inr this))))
          · intro h
            have hno : ¬ [a, b].Sublist l := fun h3 => sub2_anti hn h h3
            have : (b, a) ∈ o := List.mem_map.2 ⟨(a, b), hc, by simp [hno]⟩
            exact r3' a ((hmem a).1 ((hm a).2 (by omega))) b (List.mem_append.2 (.inl (List.mem_append.2 (.inr this))))
        have forced : ∀ a b, (a, b) ∈ forcedOf S (pairsOf ops) → b < ops.size → [a, b].Sublist r := by
          intro a b hf hb
          exact r3' b ((hmem b).1 ((hm b).2 hb)) a (List.mem_append.2 (.inr hf))
        rcases Nat.lt_or_gt_of_ne hxy with hlt | hlt
        · have hp := (hpairs x y).2 ⟨hlt, hy, nb1⟩
          cases m1 : mayAt S x y with
          | true => exact hmay x y m1
          | false =>
            exfalso
            cases m2 : mayAt S y x with
            | false => exact sub2_anti r1 h1 ((conf x y hp m1 m2).2 h2)
            | true =>
              have : (y, x) ∈ forcedOf S (pairsOf ops) := List.mem_filterMap.2 ⟨(x, y), hp, by simp [m1, m2]⟩
              exact sub2_anti r1 h1 (forced y x this hx)
        · have hp := (hpairs y x).2 ⟨hlt, hx, nb2⟩
          cases m1 : mayAt S x y with
          | true => exact hmay x y m1
          | false =>
            exfalso
            cases m2 : mayAt S y x with
            | false => exact sub2_anti r1 h1 ((conf y x hp m2 m1).1 h2)
            | true =>
              have : (y, x) ∈ forcedOf S (pairsOf ops) := List.mem_filterMap.2 ⟨(y, x), hp, by simp [m1, m2]⟩
              exact sub2_anti r1 h1 (forced y x this hx)

end Go.AM
namespace Go.AM
open Go.RowKit

def exitOf : Ex → Exit
  | .normal => .normal
  | .exit id => .exit id
  | .ret => .ret


def resOf (a : Act) : ResultVar → Sem Value
  | .tmp t => pure (a.tmps.getD t undef)
  | .cell b t => do loadVar t (← asAddr (a.tmps.getD b undef))

theorem results_eq (fn : Func) (a : Act) : results fn a.tmps = (fn.results.mapM (resOf a) >>= fun vs => pure (if h : vs.size = 1 then vs[0] else .tuple vs)) := by
  unfold results
  congr 1

theorem run_asAddr {P : Program} (ad : Addr) (w : World) : (asAddr (.pointer (some ad))).run P w = .ok ad w := rfl

theorem rvs_sound {P : Program} {B : Nat} {ρ : RL} {H : AH} {w : World} {a : Act} {s : Sl} : ∀ {rs : List ResultVar} {rv : List RV} {vs : List AV}, cres P rs = some rv → rvs s H rv = some vs → VRs ρ s a.tmps.toList → RH B ρ H w →
    ∃ us, (rs.mapM (resOf a)).run P w = .ok us w ∧ VRs ρ vs us
  | [], rv, vs, hc, hv, hs, hR => by
    simp [cres] at hc; subst hc
    simp [rvs] at hv; subst hv
    exact ⟨[], by simp, by simp [VRs]⟩
  | .tmp t :: r, rv, vs, hc, hv, hs, hR => by
    simp only [cres, Option.map_eq_some_iff] at hc
    obtain ⟨q, hq, rfl⟩ := hc
    simp only [rvs, Option.map_eq_some_iff] at hv
    obtain ⟨us, hus, rfl⟩ := hv
    obtain ⟨ws, h1, h2⟩ := rvs_sound hq hus hs hR
    refine ⟨a.tmps.getD t undef :: ws, ?_, VRs_cons.2 ⟨_, _, rfl, VR_gt hs t, h2⟩⟩
    simp only [List.mapM_cons, resOf, Sem.run_bind, Sem.run_pure, Result.andThen_ok, h1]
  | .cell b t :: r, rv, vs, hc, hv, hs, hR => by
    unfold cres at hc
    split at hc <;> simp only [Option.some.injEq, reduceCtorEq] at hc
    · rename_i l hp hq
      subst hc
      simp only [rvs] at hv
      split at hv <;> try (simp at hv; done)
      rename_i ob off hb
      split at hv <;> try (simp at hv; done)
      rename_i cl hcl
      split at hv <;> try (simp at hv; done)
      rename_i v hvv
      simp only [Option.map_eq_some_iff] at hv
      obtain ⟨us, hus, rfl⟩ := hv
      obtain ⟨ws, h1, h2⟩ := rvs_sound hq hus hs hR
      have hg := VR_gt hs b
      rw [hb] at hg
      obtain ⟨lc, g1, g2⟩ := VR_ptr hg
      obtain ⟨d, i, p1, p2, p3⟩ := psize_none hp
      obtain ⟨vs1, q1, q2, q3⟩ := hR.cellsAt hcl g1 off 1 (by have := (List.getElem?_eq_some_iff.1 hvv).1; omega)
      obtain ⟨u, hu, huv⟩ := q2.get (i := 0) (x := v) (by rw [List.getElem?_take]; simpa using hvv)
      have q4 := q3 0 u hu
      rw [addr_add] at q4
      simp only [Nat.add_zero] at q4
      refine ⟨u :: ws, ?_, VRs_cons.2 ⟨_, _, rfl, huv, h2⟩⟩
      have hone : (resOf a (.cell b t)).run P w = .ok u w := by
        simp only [resOf, Sem.run_bind, g2, run_asAddr, Result.andThen_ok, loadVar, run_isAgg p1, p3, Bool.false_eq_true, if_false, run_load, q4]
      simp only [List.mapM_cons, Sem.run_bind, hone, Result.andThen_ok, h1, Sem.run_pure]
    · rename_i n l hp hq
      subst hc
      simp only [rvs] at hv
      split at hv <;> try (simp at hv; done)
      rename_i ob off hb
      split at hv <;> try (simp at hv; done)
      rename_i cl hcl
      split at hv <;> try (simp at hv; done)
      rename_i hle
      simp only [Option.map_eq_some_iff] at hv
      obtain ⟨us, hus, rfl⟩ := hv
      obtain ⟨ws, h1, h2⟩ := rvs_sound hq hus hs hR
      have hg := VR_gt hs b
      rw [hb] at hg
      obtain ⟨lc, g1, g2⟩ := VR_ptr hg
      obtain ⟨d, i, p1, p2, p3, p4⟩ := psize_some hp
      obtain ⟨vs1, q1, q2, q3⟩ := hR.cellsAt hcl g1 off n hle
      have hr := run_loadCells_list (P := P) w ⟨lc.b, lc.base + off, none⟩ vs1 q3
      rw [q1] at hr
      refine ⟨.agg vs1.toArray :: ws, ?_, VRs_cons.2 ⟨_, _, rfl, ?_, h2⟩⟩
      · have hone : (resOf a (.cell b t)).run P w = .ok (.agg vs1.toArray) w := by
          simp only [resOf, Sem.run_bind, g2, run_asAddr, Result.andThen_ok, loadVar, run_isAgg p1, p3, if_true, run_sizeOf' p2, p4, hr, Sem.run_pure]
        simp only [List.mapM_cons, Sem.run_bind, hone, Result.andThen_ok, h1, Sem.run_pure]
      · simp only [VR]
        exact ⟨vs1, rfl, q2⟩

theorem results_sound {P : Program} {B : Nat} {ρ : RL} {H : AH} {w : World} {a : Act} {s : Sl} {fn : Func} {rv : List RV} {vs : List AV} (hc : cres P fn.results.toList = some rv) (hv : rvs s H rv = some vs) (hs : VRs ρ s a.tmps.toList) (hR : RH B ρ H w) :
    ∃ u, (results fn a.tmps).run P w = .ok u w ∧ VR ρ (retOf vs) u := by
  obtain ⟨us, h1, h2⟩ := rvs_sound hc hv hs hR
  have hl := h2.length
  have hm : (fn.results.mapM (resOf a)).run P w = .ok ⟨us⟩ w := by
    rw [Array.mapM_eq_mapM_toList]
    simp only [Sem.run_map, h1, Result.andThen_ok]
  rw [results_eq]
  simp only [Sem.run_bind]
  rw [hm]
  simp only [Result.andThen_ok, Sem.run_pure]
  refine ⟨_, rfl, ?_⟩
  cases vs with
  | nil =>
    rw [VRs_nil] at h2; subst h2
    simp [retOf, VR, VRs]
  | cons v vs =>
    cases vs with
    | nil =>
      rw [VRs_cons] at h2
      obtain ⟨u, r, rfl, hu, hr⟩ := h2
      rw [VRs_nil] at hr; subst hr
      simpa [retOf] using hu
    | cons v2 vs =>
      have : ¬ (⟨us⟩ : Array Value).size = 1 := by simp [hl]
      rw [dif_neg this]
      simp only [retOf, VR]
      exact ⟨us, rfl, h2⟩


theorem region_sound {P : Program} {B : Nat} {c : PT} (hm : P.follows .mixedOrders = true) (hcs : PTok P c) {ops : Array Oper} {ls : List (List Nat)} (ho : ordersOf P ops = some ls) {Q : Exit → Act → World → Prop} {R : Sl → AH → Prop} {s : Sl} {H : AH} {a : Act} {w : World} {ρ : RL} {id : Nat}
    (h : ∀ r ∈ ls, Wops c (sos P ops r) s H R) (hs : VRs ρ s a.tmps.toList) (hd : a.defers = []) (hR : RH B ρ H w) (hQ : ∀ a' w' ρ' s' H', R s' H' → Ext ρ ρ' → VRs ρ' s' a'.tmps.toList → a'.defers = [] → RH B ρ' H' w' → Below B w w' → Q .normal a' w') : (Code.region id ops true).wp P Q a w := by
  refine wp_region_draw fun t => ?_
  simp only [Region.schedule, hm, Bool.true_or, if_true]
  have hacy : (∀ i, i < ops.size → ∀ j ∈ edgesOf ops i, j < i) := by
    intro i hi j hj
    unfold ordersOf at ho
    simp only at ho
    split at ho
    · simp at ho
    rename_i hacy0
    simp only [Bool.not_eq_true', Bool.not_eq_false, List.all_eq_true, decide_eq_true_eq] at hacy0
    refine hacy0 (j, i) ?_
    simp only [edgesAll, List.mem_flatMap, List.mem_range, List.mem_map, Prod.mk.injEq]
    exact ⟨i, hi, j, hj, rfl, rfl⟩
  have hrest : rest ops.size (Array.replicate ops.size false) = List.range ops.size := by
    unfold rest
    apply List.filter_eq_self.2
    intro i hi
    have hi' : i < ops.size := by simpa using hi
    simp [Array.getD_eq_getD_getElem?, hi']
  have hsc := sched_go hacy ops.size t (Array.replicate ops.size false) (by simp) (by rw [hrest]; simp)
  have hmem : ∀ i, i ∈ Region.linearise .any ops t ↔ i < ops.size := by
    intro i
    have h1 := hsc.mem i
    rw [hrest, List.mem_range] at h1
    exact h1
  obtain ⟨r, hr, r1, r2, r3⟩ := orders_rep ho (l := Region.linearise .any ops t) hsc.nodup hmem (fun _ i hi j hj => by
    rcases hsc.ord i hi j hj with h | h
    · exfalso
      simp only [Array.getD_eq_getD_getElem?] at h
      have hj' : j < ops.size := by have := hacy i ((hmem i).1 hi) j hj; have := (hmem i).1 hi; omega
      simp [hj'] at h
    · exact h)
  have hw := bringW hcs (soAt P ops) (Region.linearise .any ops t) r s H hsc.nodup r1 r2 r3 (h r hr)
  refine aops_sound hcs (Region.linearise .any ops t) s H a _ ρ (fun i hi => (hmem i).1 hi) hw hs hd (hR.world (Nat.le_refl _) (fun _ _ _ _ _ _ => rfl)) ?_
  intro a' w' ρ' s' H' hRR e hs' hd' hR' hb'
  exact hQ a' w' ρ' s' H' hRR e hs' hd' hR' (((Below.refl B w).drew).trans hb')

theorem Wops_mono {P : Program} {c : PT} (hcs : PTok P c) {R R' : Sl → AH → Prop} (hr : ∀ s H, R s H → R' s H) : ∀ (l : List SO) (s : Sl) (H : AH), Wops c l s H R → Wops c l s H R'
  | [], s, H, h => hr _ _ h
  | o :: l, s, H, h => by
    simp only [Wops] at h ⊢
    split at h
    · rename_i hw
      rw [if_pos hw]
      exact Wop_mono hcs h fun v H' hh => Wops_mono hcs hr l _ _ hh
    · rename_i hw
      rw [if_neg hw]
      exact Wops_mono hcs hr l _ _ h

theorem Wops_some {P : Program} {c : PT} (hcs : PTok P c) {R : Sl → AH → Prop} : ∀ (l : List SO) (s : Sl) (H : AH), Wops c l s H R → ∃ s' H', R s' H'
  | [], s, H, h => ⟨s, H, h⟩
  | o :: l, s, H, h => by
    simp only [Wops] at h
    split at h
    · simp only [Wop] at h
      split at h
      · have : ∃ v H', Wops c l (pt s o.dst v) H' R := by
          cases hk : o.k <;> rw [hk] at h <;> simp only [Wcall] at h
          · exact hcs.some _ _ _ _ h
          · split at h
            · exact hcs.some _ _ _ _ h
            · exact h.elim
        obtain ⟨v, H', hh⟩ := this
        exact Wops_some hcs l _ _ hh
      · split at h
        · exact Wops_some hcs l _ _ h
        · exact h.elim
    · exact Wops_some hcs l _ _ h

section
variable {P : Program} {E : Env}

structure Sound (P : Program) (E : Env) (k : Nat) : Prop where
  mono : ∀ (c : C) (s : Sl) (H : AH) (Q Q' : Ex → Sl → AH → Prop), W E k c s H Q → (∀ e s H, Q e s H → Q' e s H) → W E k c s H Q'
  ends : ∀ (c : C) (s : Sl) (H : AH) (Q : Ex → Sl → AH → Prop), W E k c s H Q → ∃ e s' H', Q e s' H'
  code : ∀ (c : Code) (c' : C) (s : Sl) (H : AH) (R : Ex → Sl → AH → Prop), comp P c = some c' → W E k c' s H R → ∀ (B : Nat) (ρ : RL) (a : Act) (w : World) (Q : Exit → Act → World → Prop),
      VRs ρ s a.tmps.toList → a.defers = [] → RH B ρ H w → (∀ ex a' w' ρ' s' H', R ex s' H' → Ext ρ ρ' → VRs ρ' s' a'.tmps.toList → a'.defers = [] → RH B ρ' H' w' → Below B w w' → Q (exitOf ex) a' w') → c.wp P Q a w
  rounds : ∀ (c : Code) (c' : C) (s : Sl) (H : AH) (R : Ex → Sl → AH → Prop), comp P c = some c' → W E k (.loop c') s H R → ∀ (B : Nat) (ρ : RL) (a : Act) (w : World) (Q : Exit → Act → World → Prop),
      VRs ρ s a.tmps.toList → a.defers = [] → RH B ρ H w → (∀ ex a' w' ρ' s' H', R ex s' H' → Ext ρ ρ' → VRs ρ' s' a'.tmps.toList → a'.defers = [] → RH B ρ' H' w' → Below B w w' → Q (exitOf ex) a' w') → Code.rounds P c Q k a w

theorem bodyR_mono {F : FnC} {R R' : AV → AH → Prop} (h : ∀ v H, R v H → R' v H) : ∀ e s H, bodyR F R e s H → bodyR F R' e s H := by
  intro e s H hb
  cases e <;> simp only [bodyR] at hb ⊢ <;> first
    | exact hb
    | (split at hb
       · exact h _ _ hb
       · exact hb)

theorem bodyR_some {F : FnC} {R : AV → AH → Prop} {e : Ex} {s : Sl} {H : AH} (hb : bodyR F R e s H) : ∃ v H', R v H' := by
  cases e <;> simp only [bodyR] at hb <;> first
    | exact hb.elim
    | (split at hb
       · exact ⟨_, _, hb⟩
       · exact hb.elim)

theorem Wc_ok (hE : EnvOK P E) {k : Nat} (hk : Sound P E k) : PTok P (Wc E k) := by
  have hF : ∀ {f xs H R}, Wc E k f xs H R → ∃ F, E f = .some (.code F) ∧ W E k F.body (initOf F xs) H (bodyR F R) := by
    intro f xs H R h
    unfold Wc at h
    split at h
    · rename_i F hF; exact ⟨F, hF, h⟩
    · exact h.elim
  refine ⟨?_, ?_, ?_, ?_⟩
  · intro f xs H R h
    obtain ⟨F, hf, _⟩ := hF h
    have := hE f
    rw [hf] at this
    obtain ⟨fn, c, g1, g2, g3, _⟩ := this.ok
    exact ⟨fn, c, g1, g2, g3⟩
  · intro f xs H R h B ρ w vs hvs hR
    obtain ⟨F, hf, hw⟩ := hF h
    have := hE f
    rw [hf] at this
    obtain ⟨fn, c, g1, g2, g3, g4, g5, g6⟩ := this.ok
    refine calls_of_wp g1 g3 ?_
    have hinit : VRs ρ (initOf F xs) ((⟨vs⟩ : Array Value) ++ Array.replicate (fn.ntmps - (⟨vs⟩ : Array Value).size) undef).toList := by
      rw [Array.toList_append, Array.toList_replicate]
      have hl := hvs.length
      have : (⟨vs⟩ : Array Value).size = xs.length := by simpa using hl
      rw [this, g5]
      exact hvs.append (VRs.replicate (by simp [VR, VRs, undef]) _)
    refine hk.code c F.body _ H _ g4 hw B ρ _ w _ hinit rfl hR ?_
    intro ex a' w' ρ' s' H' hb e hs' hd' hR' hbl
    have key : ∀ vs, rvs s' H' F.res = .some vs → R (retOf vs) H' → a'.defers = [] ∧ ∃ v, (results fn a'.tmps).run P w' = .ok v w' ∧ ∃ ρ'' u v' H'', Ending.returned v = .returned u ∧ Ext ρ ρ'' ∧ VR ρ'' v' u ∧ RH B ρ'' H'' w' ∧ Below B w w' ∧ R v' H'' := by
      intro vs hvs hr
      obtain ⟨u, r1, r2⟩ := results_sound g6 hvs hs' hR'
      exact ⟨hd', u, r1, ρ', u, _, H', rfl, e, r2, hR', hbl, hr⟩
    cases ex with
    | normal =>
      simp only [bodyR] at hb
      split at hb
      · rename_i vs hvs; exact key vs hvs hb
      · exact hb.elim
    | ret =>
      simp only [bodyR] at hb
      split at hb
      · rename_i vs hvs; exact key vs hvs hb
      · exact hb.elim
    | exit id => exact hb.elim
  · intro f xs H R h
    obtain ⟨F, hf, hw⟩ := hF h
    obtain ⟨e, s', H', hb⟩ := hk.ends _ _ _ _ hw
    exact bodyR_some hb
  · intro f xs H R R' h hr
    obtain ⟨F, hf, hw⟩ := hF h
    unfold Wc
    rw [hf]
    exact hk.mono _ _ _ _ _ hw (bodyR_mono hr)

theorem Wp_ok (hE : EnvOK P E) {k : Nat} (hk : Sound P E k) : PTok P (Wp E k) := by
  have hc := Wc_ok hE hk
  have split : ∀ {f xs H R}, Wp E k f xs H R → (∃ g, E f = .some (.prim g) ∧ g (Wc E k) xs H R) ∨ Wc E k f xs H R := by
    intro f xs H R h
    unfold Wp at h
    split at h
    · rename_i g hg; exact .inl ⟨g, hg, h⟩
    · rename_i F hF
      right
      unfold Wc
      rw [hF]
      exact h
    · exact h.elim
  have ofc : ∀ {f xs H R}, Wc E k f xs H R → Wp E k f xs H R := by
    intro f xs H R h
    unfold Wc at h
    unfold Wp
    split at h
    · rename_i F hF; rw [hF]; exact h
    · exact h.elim
  have hp : ∀ {f g}, E f = .some (.prim g) → PrimOK P f g := by
    intro f g hg
    have := hE f
    rw [hg] at this
    exact this
  refine ⟨?_, ?_, ?_, ?_⟩
  · intro f xs H R h
    rcases split h with ⟨g, hg, h⟩ | h
    · exact (hp hg _ hc xs H R h).1
    · exact hc.enters _ _ _ _ h
  · intro f xs H R h
    rcases split h with ⟨g, hg, h⟩ | h
    · exact (hp hg _ hc xs H R h).2.1
    · exact hc.sound _ _ _ _ h
  · intro f xs H R h
    rcases split h with ⟨g, hg, h⟩ | h
    · exact (hp hg _ hc xs H R h).2.2.1
    · exact hc.some _ _ _ _ h
  · intro f xs H R R' h hr
    rcases split h with ⟨g, hg, h⟩ | h
    · have := (hp hg _ hc xs H R h).2.2.2 R' hr
      unfold Wp
      rw [hg]
      exact this
    · exact ofc (hc.mono _ _ _ _ _ h hr)

theorem W_reg {k : Nat} {ls : List (List SO)} {s : Sl} {H : AH} {Q : Ex → Sl → AH → Prop} : W E (k + 1) (.reg ls) s H Q ↔ ls ≠ [] ∧ ∀ l ∈ ls, Wops (Wp E k) l s H fun s' H' => Q .normal s' H' := Iff.rfl

theorem sound_all (hm : P.follows .mixedOrders = true) (hE : EnvOK P E) : ∀ k, Sound P E k := by
  intro k
  induction k with
  | zero => exact ⟨fun _ _ _ _ _ h => h.elim, fun _ _ _ _ h => h.elim, fun _ _ _ _ _ _ h => h.elim, fun _ _ _ _ _ _ h => h.elim⟩
  | succ k ih =>
    have hp := Wp_ok hE ih
    have hmono : ∀ (c : C) (s : Sl) (H : AH) (Q Q' : Ex → Sl → AH → Prop), W E (k + 1) c s H Q → (∀ e s H, Q e s H → Q' e s H) → W E (k + 1) c s H Q' := by
      intro c s H Q Q' h hq
      have tm : ∀ {K K' : Sl → AH → Prop}, (∀ s H, K s H → K' s H) → ∀ e s H, then_ K Q e s H → then_ K' Q' e s H := by
        intro K K' hk e s H ht
        cases e with
        | normal => exact hk _ _ ht
        | exit id => exact hq _ _ _ ht
        | ret => exact hq _ _ _ ht
      cases c with
      | skip => exact hq _ _ _ h
      | exit id => exact hq _ _ _ h
      | ret => exact hq _ _ _ h
      | reg ls =>
        rw [W_reg] at h ⊢
        exact ⟨h.1, fun l hl => Wops_mono hp (fun s H hh => hq _ _ _ hh) l s H (h.2 l hl)⟩
      | seq a b =>
        rw [W] at h ⊢
        exact ih.mono _ _ _ _ _ h (tm fun s H hh => ih.mono _ _ _ _ _ hh hq)
      | cond c a b =>
        rw [W] at h ⊢
        split at h
        · exact ih.mono _ _ _ _ _ h hq
        · exact h.elim
      | block id b =>
        rw [W] at h ⊢
        refine ih.mono _ _ _ _ _ h ?_
        intro e s H hb
        cases e with
        | normal => exact hq _ _ _ hb
        | ret => exact hq _ _ _ hb
        | exit j =>
          simp only [blk] at hb ⊢
          split at hb
          · rename_i hj; rw [if_pos hj]; exact hq _ _ _ hb
          · rename_i hj; rw [if_neg hj]; exact hq _ _ _ hb
      | loop b =>
        rw [W] at h ⊢
        exact ih.mono _ _ _ _ _ h (tm fun s H hh => ih.mono _ _ _ _ _ hh hq)
    have hsome : ∀ (c : C) (s : Sl) (H : AH) (Q : Ex → Sl → AH → Prop), W E (k + 1) c s H Q → ∃ e s' H', Q e s' H' := by
      intro c s H Q h
      cases c with
      | skip => exact ⟨_, _, _, h⟩
      | exit id => exact ⟨_, _, _, h⟩
      | ret => exact ⟨_, _, _, h⟩
      | reg ls =>
        rw [W_reg] at h
        obtain ⟨l, hl⟩ := List.exists_mem_of_ne_nil _ h.1
        obtain ⟨s', H', hh⟩ := Wops_some hp l s H (h.2 l hl)
        exact ⟨_, _, _, hh⟩
      | seq a b =>
        rw [W] at h
        obtain ⟨e, s', H', hh⟩ := ih.ends _ _ _ _ h
        cases e with
        | normal => exact ih.ends _ _ _ _ hh
        | exit id => exact ⟨_, _, _, hh⟩
        | ret => exact ⟨_, _, _, hh⟩
      | cond c a b =>
        rw [W] at h
        split at h
        · exact ih.ends _ _ _ _ h
        · exact h.elim
      | block id b =>
        rw [W] at h
        obtain ⟨e, s', H', hh⟩ := ih.ends _ _ _ _ h
        cases e with
        | normal => exact ⟨_, _, _, hh⟩
        | ret => exact ⟨_, _, _, hh⟩
        | exit j =>
          simp only [blk] at hh
          split at hh <;> exact ⟨_, _, _, hh⟩
      | loop b =>
        rw [W] at h
        obtain ⟨e, s', H', hh⟩ := ih.ends _ _ _ _ h
        cases e with
        | normal => exact ih.ends _ _ _ _ hh
        | exit id => exact ⟨_, _, _, hh⟩
        | ret => exact ⟨_, _, _, hh⟩
    have hrounds : ∀ (c : Code) (c' : C) (s : Sl) (H : AH) (R : Ex → Sl → AH → Prop), comp P c = some c' → W E (k + 1) (.loop c') s H R → ∀ (B : Nat) (ρ : RL) (a : Act) (w : World) (Q : Exit → Act → World → Prop),
      VRs ρ s a.tmps.toList → a.defers = [] → RH B ρ H w → (∀ ex a' w' ρ' s' H', R ex s' H' → Ext ρ ρ' → VRs ρ' s' a'.tmps.toList → a'.defers = [] → RH B ρ' H' w' → Below B w w' → Q (exitOf ex) a' w') → Code.rounds P c Q (k + 1) a w := by
      intro c c' s H R hc h B ρ a w Q hs hd hR hQ
      rw [W] at h
      rw [rounds_succ]
      refine ih.code c c' s H _ hc h B ρ a w _ hs hd hR ?_
      intro ex a1 w1 ρ1 s1 H1 ht e1 hs1 hd1 hR1 hb1
      cases ex with
      | normal => exact ih.rounds c c' s1 H1 R hc ht B ρ1 a1 w1 Q hs1 hd1 hR1 (fun ex a2 w2 ρ2 s2 H2 hr e2 hs2 hd2 hR2 hb2 => hQ ex a2 w2 ρ2 s2 H2 hr (e1.trans e2) hs2 hd2 hR2 (hb1.trans hb2))
      | exit id => exact hQ _ a1 w1 ρ1 s1 H1 ht e1 hs1 hd1 hR1 hb1
      | ret => exact hQ _ a1 w1 ρ1 s1 H1 ht e1 hs1 hd1 hR1 hb1
    refine ⟨hmono, hsome, ?_, hrounds⟩
    intro c c' s H R hc h B ρ a w Q hs hd hR hQ
    cases c with
    | skip =>
      simp only [comp, Option.some.injEq] at hc; subst hc
      exact wp_skip (hQ .normal a w ρ s H h (Ext.refl _) hs hd hR (Below.refl _ _))
    | label l =>
      simp only [comp, Option.some.injEq] at hc; subst hc
      exact wp_label (hQ .normal a w ρ s H h (Ext.refl _) hs hd hR (Below.refl _ _))
    | region id ops draw =>
      simp only [comp] at hc
      cases draw with
      | false =>
        simp only [Bool.false_eq_true, if_false, Option.some.injEq] at hc; subst hc
        rw [W_reg] at h
        refine wp_region ?_
        exact aops_sound hp _ s H a w ρ (fun i hi => by simpa using hi) (h.2 _ (by simp)) hs hd hR (fun a' w' ρ' s' H' hr e hs' hd' hR' hb' => hQ .normal a' w' ρ' s' H' hr e hs' hd' hR' hb')
      | true =>
        simp only [if_true, Option.map_eq_some_iff] at hc
        obtain ⟨ls, ho, rfl⟩ := hc
        rw [W_reg] at h
        exact region_sound hm hp ho (fun r hr => h.2 _ (List.mem_map.2 ⟨r, hr, rfl⟩)) hs hd hR (fun a' w' ρ' s' H' hr e hs' hd' hR' hb' => hQ .normal a' w' ρ' s' H' hr e hs' hd' hR' hb')
    | seq x y =>
      simp only [comp] at hc
      split at hc <;> simp only [Option.some.injEq, reduceCtorEq] at hc
      rename_i x' y' hx hy
      subst hc
      rw [W] at h
      refine wp_seq ?_
      refine ih.code x x' s H _ hx h B ρ a w _ hs hd hR ?_
      intro ex a1 w1 ρ1 s1 H1 ht e1 hs1 hd1 hR1 hb1
      cases ex with
      | normal =>
        refine ih.code y y' s1 H1 _ hy ht B ρ1 a1 w1 _ hs1 hd1 hR1 ?_
        intro ex a2 w2 ρ2 s2 H2 hr e2 hs2 hd2 hR2 hb2
        exact hQ ex a2 w2 ρ2 s2 H2 hr (e1.trans e2) hs2 hd2 hR2 (hb1.trans hb2)
      | exit id => exact hQ _ a1 w1 ρ1 s1 H1 ht e1 hs1 hd1 hR1 hb1
      | ret => exact hQ _ a1 w1 ρ1 s1 H1 ht e1 hs1 hd1 hR1 hb1
    | cond c x y =>
      simp only [comp] at hc
      split at hc <;> simp only [Option.some.injEq, reduceCtorEq] at hc
      rename_i c' x' y' hcc hx hy
      subst hc
      rw [W] at h
      split at h <;> try (exact h.elim)
      rename_i t ht
      have hv := VR_ev hs hcc
      rw [ht] at hv
      refine wp_cond (VR_bool hv) ?_
      cases t with
      | true => exact ih.code x x' s H _ hx (by simpa using h) B ρ a w _ hs hd hR hQ
      | false => exact ih.code y y' s H _ hy (by simpa using h) B ρ a w _ hs hd hR hQ
    | block id b =>
      simp only [comp, Option.map_eq_some_iff] at hc
      obtain ⟨b', hb, rfl⟩ := hc
      rw [W] at h
      refine wp_block ?_
      refine ih.code b b' s H _ hb h B ρ a w _ hs hd hR ?_
      intro ex a1 w1 ρ1 s1 H1 ht e1 hs1 hd1 hR1 hb1
      cases ex with
      | normal => exact hQ _ a1 w1 ρ1 s1 H1 ht e1 hs1 hd1 hR1 hb1
      | ret => exact hQ _ a1 w1 ρ1 s1 H1 ht e1 hs1 hd1 hR1 hb1
      | exit j =>
        simp only [blk] at ht
        split at ht
        · rename_i hj
          have := hQ _ a1 w1 ρ1 s1 H1 ht e1 hs1 hd1 hR1 hb1
          simpa [exitOf, Exit.inBlock, hj] using this
        · rename_i hj
          have := hQ _ a1 w1 ρ1 s1 H1 ht e1 hs1 hd1 hR1 hb1
          simpa [exitOf, Exit.inBlock, hj] using this
    | loop b =>
      simp only [comp, Option.map_eq_some_iff] at hc
      obtain ⟨b', hb, rfl⟩ := hc
      exact wp_loop_rounds (k + 1) (hrounds b b' s H R hb h B ρ a w Q hs hd hR hQ)
    | exit id =>
      simp only [comp, Option.some.injEq] at hc; subst hc
      exact wp_exit (hQ _ a w ρ s H h (Ext.refl _) hs hd hR (Below.refl _ _))
    | ret =>
      simp only [comp, Option.some.injEq] at hc; subst hc
      exact wp_ret (hQ _ a w ρ s H h (Ext.refl _) hs hd hR (Below.refl _ _))
    | _ => simp [comp] at hc

theorem CodeOK.of {f : FuncId} {fn : Func} {F : FnC} (h1 : P.funcs[f]? = some fn) (h2 : (fn.name == "runtime.NumGoroutine") = false) (h3 : fn.body.bind (comp P) = some F.body) (h4 : fn.ntmps = F.n) (h5 : cres P fn.results.toList = some F.res) : CodeOK P f F := by
  cases hb : fn.body with
  | none => rw [hb] at h3; simp at h3
  | some c =>
    rw [hb] at h3
    exact ⟨⟨fn, c, h1, h2, hb, h3, h4, h5⟩⟩

def envT (tab : List (Nat × FnC)) : Env := fun f => (tab.lookup f).map .code

theorem envT_ok {tab : List (Nat × FnC)} (h : ∀ p ∈ tab, CodeOK P p.1 p.2) : EnvOK P (envT tab) := by
  intro f
  unfold envT
  induction tab with
  | nil => simp
  | cons p r ih =>
    obtain ⟨g, F⟩ := p
    rw [List.lookup_cons]
    cases hg : f == g with
    | true =>
      have : f = g := by simpa using hg
      subst this
      simpa using h (f, F) (by simp)
    | false => exact ih fun q hq => h q (by simp [hq])

end
end Go.AM
namespace Go.AM

theorem getElem?_append_one {α : Type} {l : List α} {x y : α} {o : Nat} (h : (l ++ [x])[o]? = some y) : l[o]? = some y ∨ (o = l.length ∧ y = x) := by
  rcases Nat.lt_or_ge o l.length with ho | ho
  · rw [List.getElem?_append_left ho] at h; exact .inl h
  · have hlt := (List.getElem?_eq_some_iff.1 h).1
    simp at hlt
    have : o = l.length := by omega
    subst this
    rw [List.getElem?_append_right (Nat.le_refl _)] at h
    simp at h
    exact .inr ⟨rfl, h.symm⟩

theorem RH.came {B : Nat} {ρ : RL} {H : AH} {w : World} (h : RH B ρ H w) (cells : List AV) (l : Loc) (hown : l.own = false) (hlen : cells.length = l.len)
    (hb : cells ≠ [] → l.b < B) (ho : cells ≠ [] → RowIn (ρ ++ [l]) w l cells) : RH B (ρ ++ [l]) (H ++ [.row cells false]) w := by
  have e : Ext ρ (ρ ++ [l]) := Ext.one _ _
  have old : ∀ (o : Nat) (a' : AO) (l' : Loc), (H ++ [AO.row cells false])[o]? = some a' → (ρ ++ [l])[o]? = some l' → (H[o]? = some a' ∧ ρ[o]? = some l') ∨ (o = H.length ∧ a' = .row cells false ∧ l' = l) := by
    intro o a' l' ha hl'
    rcases getElem?_append_one ha with h1 | ⟨rfl, rfl⟩
    · rcases getElem?_append_one hl' with h2 | ⟨h2, _⟩
      · exact .inl ⟨h1, h2⟩
      · have := (List.getElem?_eq_some_iff.1 h1).1
        rw [h2, h.len] at this; omega
    · rcases getElem?_append_one hl' with h2 | ⟨_, rfl⟩
      · have := (List.getElem?_eq_some_iff.1 h2).1
        rw [h.len] at this; omega
      · exact .inr ⟨rfl, rfl, rfl⟩
  refine ⟨by simp [h.len], h.base, ?_, ?_, ?_⟩
  · intro o a' l' ha hl'
    rcases old o a' l' ha hl' with ⟨h1, h2⟩ | ⟨_, rfl, rfl⟩
    · exact (h.ok o a' l' h1 h2).mono e (fun _ => rfl)
    · exact ⟨hown.symm, hlen, fun hh => ho (hh.resolve_left (by simp))⟩
  · intro o a' l' ha hv hl' hw
    rcases old o a' l' ha hl' with ⟨h1, h2⟩ | ⟨_, rfl, rfl⟩
    · exact h.own o a' l' h1 hv h2 hw
    · rw [hown] at hw; cases hw
  · intro o a1 l1 o' a2 l2 hne h1 v1 r1 w1 h2 v2 r2
    rcases old o a1 l1 h1 r1 with ⟨p1, q1⟩ | ⟨rfl, rfl, rfl⟩
    · rcases old o' a2 l2 h2 r2 with ⟨p2, q2⟩ | ⟨rfl, rfl, rfl⟩
      · exact h.sep o a1 l1 o' a2 l2 hne p1 v1 q1 w1 p2 v2 q2
      · have h3 := h.own o a1 l1 p1 v1 q1 w1
        have h4 := hb ((live_row.1 v2).resolve_left (by simp))
        omega
    · rw [hown] at w1; cases w1

def Opens {α : Type} (P : Program) (W : World) (t : TypeId) (R : AH → List AV → α → Prop) : Prop :=
  ∀ {K : Type} (enc : TypeId × Value → K) (fuel : Nat) (cs : List Value) (d : DataW K) (ps : List MemPlace), DataW.trod enc P W 0 (fun _ => true) true fuel t cs = some (d, ps) →
    ∀ ρ H, RH W.heap.size ρ H W → ∃ ρ' H' avs a, Ext ρ ρ' ∧ (∃ T, H' = H ++ T) ∧ RH W.heap.size ρ' H' W ∧ VRs ρ' avs cs ∧ R H' avs a

def Keeps {α : Type} (R : AH → List AV → α → Prop) : Prop := ∀ H T avs a, R H avs a → R (H ++ T) avs a

def RInt (k : IntKind) (H : AH) (avs : List AV) (n : Int) : Prop := avs = [.int k n] ∧ (Lit.int k n).wf = true
def RSl {α : Type} (R : AH → List AV → α → Prop) (sz : Nat) (H : AH) (avs : List AV) (L : List α) : Prop :=
  (avs = [.nils] ∧ L = []) ∨ ∃ o cap cells, avs = [.sli o 0 L.length sz (some cap)] ∧ rowAt H o = some cells ∧ L.length ≤ cap ∧ cap ≤ maxLen ∧ cells.length = cap * sz ∧
    ∀ i (h : i < L.length), R H ((cells.drop (i * sz)).take sz) L[i]

theorem rowAt_app {H T : AH} {o : Nat} {l : List AV} (h : rowAt H o = some l) : rowAt (H ++ T) o = some l := by
  unfold rowAt at h ⊢
  split at h
  · rename_i h1
    rw [List.getElem?_append_left (List.getElem?_eq_some_iff.1 h1).1, h1]
    exact h
  · cases h

theorem RInt.keeps (k : IntKind) : Keeps (RInt k) := fun _ _ _ _ h => h
theorem RSl.keeps {α : Type} {R : AH → List AV → α → Prop} (hR : Keeps R) (sz : Nat) : Keeps (RSl R sz) := by
  intro H T avs L h
  rcases h with h | ⟨o, cap, cells, h1, h2, h3, h4, h5, h6⟩
  · exact .inl h
  · exact .inr ⟨o, cap, cells, h1, rowAt_app h2, h3, h4, h5, fun i hi => hR _ _ _ _ (h6 i hi)⟩

section
variable {P : Program} {W : World} {t e : TypeId}

theorem Opens.int {k : IntKind} (hu : P.underlying t = some (.int k)) : Opens P W t (RInt k) := by
  intro K enc fuel cs d ps h ρ H hR
  cases fuel with
  | zero => simp [DataW.trod] at h
  | succ fuel =>
    unfold DataW.trod at h
    rw [hu] at h
    split at h <;> try (cases ‹some (TypeDesc.int k) = _›)
    · rename_i k' n
      split at h
      · rename_i hk
        obtain ⟨rfl, hw⟩ := hk
        exact ⟨ρ, H, [.int _ n], n, Ext.refl _, ⟨[], by simp⟩, hR, by simp [VRs, VR], rfl, hw⟩
      · cases h
    · cases h

theorem opens_list {α : Type} {R : AH → List AV → α → Prop} (hk : Keeps R) (ho : Opens P W e R) {K : Type} (enc : TypeId × Value → K) (fuel : Nat) : ∀ (css : List (List Value)),
    (∀ cs ∈ css, ∃ x, DataW.trod enc P W 0 (fun _ => true) true fuel e cs = some x) → ∀ ρ H, RH W.heap.size ρ H W →
    ∃ ρ' H' avss L, Ext ρ ρ' ∧ (∃ T, H' = H ++ T) ∧ RH W.heap.size ρ' H' W ∧ VRs ρ' (avss : List (List AV)).flatten css.flatten ∧ avss.length = css.length ∧ (L : List α).length = css.length ∧
      (∀ i (h : i < avss.length) (h' : i < css.length), avss[i].length = css[i].length) ∧ ∀ i (h : i < avss.length) (h' : i < L.length), R H' avss[i] L[i]
  | [], _, ρ, H, hR => ⟨ρ, H, [], [], Ext.refl _, ⟨[], by simp⟩, hR, by simp [VRs], rfl, rfl, by simp, by simp⟩
  | cs :: css, h, ρ, H, hR => by
    obtain ⟨⟨d, ps⟩, hx⟩ := h cs (by simp)
    obtain ⟨ρ1, H1, avs, a, e1, ⟨T1, rfl⟩, r1, v1, a1⟩ := ho enc fuel cs d ps hx ρ H hR
    obtain ⟨ρ2, H2, avss, L, e2, ⟨T2, rfl⟩, r2, v2, l1, l2, l3, a2⟩ := opens_list hk ho enc fuel css (fun c hc => h c (by simp [hc])) ρ1 _ r1
    refine ⟨ρ2, _, avs :: avss, a :: L, e1.trans e2, ⟨T1 ++ T2, by simp⟩, r2, ?_, by simp [l1], by simp [l2], ?_, ?_⟩
    · simpa using (VRs.mono e2 _ _ v1).append v2
    · intro i hi hi'
      cases i with
      | zero => simpa using v1.length.symm
      | succ i => simpa using l3 i (by simpa using hi) (by simpa using hi')
    · intro i hi hi'
      cases i with
      | zero => simpa using hk _ _ _ _ a1
      | succ i => simpa using a2 i (by simpa using hi) (by simpa using hi')

theorem flatten_part {α : Type} : ∀ {ls : List (List α)} {sz i : Nat}, (∀ l ∈ ls, l.length = sz) → (h : i < ls.length) → (ls.flatten.drop (i * sz)).take sz = ls[i]
  | [], _, _, _, h => by simp at h
  | l :: ls, sz, i, hl, h => by
    have h0 := hl l (by simp)
    cases i with
    | zero => simp [← h0]
    | succ i =>
      have := flatten_part (ls := ls) (sz := sz) (i := i) (fun x hx => hl x (by simp [hx])) (by simpa using h)
      simp only [List.flatten_cons, List.getElem_cons_succ]
      rw [← this, show (i + 1) * sz = l.length + i * sz by rw [h0, Nat.add_mul]; omega, List.drop_append, List.drop_eq_nil_of_le (by omega)]
      simp

theorem flatten_len {α : Type} : ∀ {ls : List (List α)} {sz : Nat}, (∀ l ∈ ls, l.length = sz) → ls.flatten.length = ls.length * sz
  | [], _, _ => by simp
  | l :: ls, sz, hl => by
    have h0 := hl l (by simp)
    have := flatten_len (ls := ls) (sz := sz) (fun x hx => hl x (by simp [hx]))
    simp only [List.flatten_cons, List.length_append, this, h0, List.length_cons, Nat.add_mul]
    omega

theorem mapM_some {α β : Type} {f : α → Option β} : ∀ {l : List α} {r : List β}, l.mapM f = some r → r.length = l.length ∧ ∀ i (h : i < l.length), ∃ y, f l[i] = some y ∧ r[i]? = some y
  | [], r, h => by simp at h; subst h; simp
  | x :: l, r, h => by
    simp only [List.mapM_cons, Option.bind_eq_bind, Option.bind_eq_some_iff, Option.pure_def, Option.some.injEq] at h
    obtain ⟨y, h1, ys, h2, rfl⟩ := h
    obtain ⟨h3, h4⟩ := mapM_some h2
    refine ⟨by simp [h3], fun i hi => ?_⟩
    cases i with
    | zero => exact ⟨y, h1, rfl⟩
    | succ i => simpa using h4 i (by simpa using hi)

theorem take_part {α : Type} (l : List α) (k n sz : Nat) : ∀ m, m ≤ n → ((List.range m).map fun i => (l.drop (k + i * sz)).take sz).flatten = (l.drop k).take (m * sz)
  | 0, _ => by simp
  | m + 1, h => by
    rw [List.range_succ, List.map_append, List.flatten_append, take_part l k n sz m (by omega), Nat.add_mul, Nat.one_mul, List.take_add]
    simp [List.drop_drop]

theorem Opens.slice {α : Type} {R : AH → List AV → α → Prop} {sz : Nat} (hk : Keeps R) (ho : Opens P W e R) (hu : P.underlying t = some (.slice e)) (hsz : P.cellsOf e = sz) (hpos : 0 < sz) : Opens P W t (RSl R sz) := by
  intro K enc fuel cs d ps h ρ H hR
  cases fuel with
  | zero => simp [DataW.trod] at h
  | succ fuel =>
    unfold DataW.trod at h
    rw [hu] at h
    split at h <;> try (cases ‹some (TypeDesc.slice e) = _›)
    · exact ⟨ρ, H, [.nils], [], Ext.refl _, ⟨[], by simp⟩, hR, by simp [VRs, VR], .inl ⟨rfl, rfl⟩⟩
    · rename_i a len cap
      rw [hsz] at h
      simp only [Nat.zero_le, true_and] at h
      split at h
      · rename_i hlc
        obtain ⟨elems, h1, h⟩ := Option.bind_eq_some_iff.1 h
        simp only [if_true] at h
        obtain ⟨rest, h2, _⟩ := Option.map_eq_some_iff.1 h
        obtain ⟨-, g1⟩ := mapM_some h1
        obtain ⟨-, g2⟩ := mapM_some h2
        have g : ∀ i, i < cap → ∃ c, W.cells? 0 (a.add (i * sz)) sz = some c ∧ ∃ x, DataW.trod enc P W 0 (fun _ => true) true fuel e c = some x := by
          intro i hi
          rcases Nat.lt_or_ge i len with hl | hl
          · obtain ⟨y, hy, _⟩ := g1 i (by simpa using hl)
            simp only [List.getElem_range] at hy
            obtain ⟨c, hc, hc2⟩ := Option.bind_eq_some_iff.1 hy
            exact ⟨c, hc, y, hc2⟩
          · obtain ⟨y, hy, _⟩ := g2 (i - len) (by simp; omega)
            simp only [List.getElem_range] at hy
            obtain ⟨c, hc, hc2⟩ := Option.bind_eq_some_iff.1 hy
            rw [show len + (i - len) = i by omega] at hc
            exact ⟨c, hc, y, hc2⟩
        rcases Nat.eq_zero_or_pos cap with h0 | hcp
        · subst h0
          have hl0 : len = 0 := by omega
          subst hl0
          refine ⟨ρ ++ [⟨0, 0, 0, 0, false⟩], H ++ [.row [] false], [.sli H.length 0 0 sz (some 0)], [], Ext.one _ _, ⟨_, rfl⟩, hR.came [] _ rfl rfl (by simp) (by simp), ?_, .inr ⟨H.length, 0, [], rfl, ?_, by simp, by simp, by simp, by simp⟩⟩
          · simp only [VRs, VR]
            refine ⟨_, [], rfl, ⟨⟨0, 0, 0, 0, false⟩, a, 0, ?_, rfl, Nat.le_refl _, fun hh => (hh rfl).elim, by simp, by simp, by simp⟩, rfl⟩
            rw [← hR.len, List.getElem?_append_right (Nat.le_refl _)]; simp
          · simp [rowAt]
        · -- the block
          have hspot : ∃ C el fr, W.heap[a.block]? = some (.cells C el fr) ∧ a.spot = none := by
            obtain ⟨c, hc, _⟩ := g 0 hcp
            simp only [World.cells?, Nat.zero_le, if_true, Nat.zero_mul] at hc
            obtain ⟨-, hh⟩ := mapM_some hc
            obtain ⟨y, hy, _⟩ := hh 0 (by simpa using hpos)
            simp only [List.getElem_range, Addr.add, if_true, World.cell?] at hy
            split at hy
            · rename_i C el fr hb
              refine ⟨C, el, fr, hb, ?_⟩
              split at hy
              · cases hy
              · rename_i hs; simpa using hs
            · cases hy
          obtain ⟨C, el, fr, hb, hsp⟩ := hspot
          have hadd : ∀ m n, (a.add m).add n = ⟨a.block, a.off + (m + n), none⟩ := by
            intro m n
            obtain ⟨b, o, s⟩ := a
            simp only at hsp
            subst hsp
            unfold Addr.add
            split <;> split <;> simp_all <;> omega
          have hcell : ∀ i c, W.cells? 0 (a.add (i * sz)) sz = some c → c = (C.toList.drop (a.off + i * sz)).take sz ∧ c.length = sz := by
            intro i c hc
            simp only [World.cells?, Nat.zero_le, if_true] at hc
            obtain ⟨hl, hh⟩ := mapM_some hc
            rw [List.length_range] at hl
            refine ⟨?_, hl⟩
            apply List.ext_getElem?
            intro j
            rcases Nat.lt_or_ge j sz with hj | hj
            · obtain ⟨y, hy, hy2⟩ := hh j (by simpa using hj)
              rw [List.getElem_range, hadd] at hy
              simp only [World.cell?, hb, Option.isSome_none, Bool.false_eq_true, if_false] at hy
              rw [hy2, List.getElem?_take_of_lt hj, List.getElem?_drop, Array.getElem?_toList, ← hy, Nat.add_assoc]
            · rw [List.getElem?_eq_none (by omega), List.getElem?_eq_none (by simp; omega)]
          let css : List (List Value) := (List.range cap).map fun i => (C.toList.drop (a.off + i * sz)).take sz
          have hcss : ∀ i (h : i < css.length), ∃ c, W.cells? 0 (a.add (i * sz)) sz = some c ∧ (∃ x, DataW.trod enc P W 0 (fun _ => true) true fuel e c = some x) ∧ css[i] = c ∧ c.length = sz := by
            intro i hi
            obtain ⟨c, hc, hx⟩ := g i (by simpa [css] using hi)
            obtain ⟨h3, h4⟩ := hcell i c hc
            exact ⟨c, hc, hx, by simp [css, h3], h4⟩
          have hlen : ∀ c ∈ css, c.length = sz := by
            intro c hc
            obtain ⟨i, hi, rfl⟩ := List.mem_iff_getElem.1 hc
            obtain ⟨c, _, _, h3, h4⟩ := hcss i hi
            rw [h3]; exact h4
          obtain ⟨ρ1, H1, avss, L, e1, ⟨T, rfl⟩, r1, v1, l1, l2, l3, a1⟩ := opens_list hk ho enc fuel css (by
            intro c hc
            obtain ⟨i, hi, rfl⟩ := List.mem_iff_getElem.1 hc
            obtain ⟨c, _, hx, h3, h4⟩ := hcss i hi
            rw [h3]; exact hx) ρ H hR
          have hcl : css.length = cap := by simp [css]
          have hal : ∀ l ∈ avss, l.length = sz := by
            intro l hl
            obtain ⟨i, hi, rfl⟩ := List.mem_iff_getElem.1 hl
            rw [l3 i hi (by omega)]
            exact hlen _ (List.getElem_mem _)
          have hfl : avss.flatten.length = cap * sz := by rw [flatten_len hal, l1, hcl]
          have hcf : css.flatten = (C.toList.drop a.off).take (cap * sz) := take_part _ _ cap sz cap (Nat.le_refl _)
          have hcfl : css.flatten.length = cap * sz := by rw [flatten_len hlen, hcl]
          have hpp : 0 < cap * sz := Nat.mul_pos hcp hpos
          have hoff : a.off + cap * sz ≤ C.size := by
            rw [hcf] at hcfl
            simp at hcfl
            omega
          let lc : Loc := ⟨a.block, a.off, cap * sz, C.size, false⟩
          have hrow : RH W.heap.size (ρ1 ++ [lc]) ((H ++ T) ++ [.row avss.flatten false]) W := by
            refine r1.came _ lc rfl hfl (fun _ => (Array.getElem?_eq_some_iff.1 hb).1) (fun _ => ⟨hfl, C, el, fr, hb, hoff, ?_, by simp [lc]⟩)
            rw [hcf] at v1
            exact VRs.mono (Ext.one _ _) _ _ v1
          refine ⟨_, _, [.sli (H ++ T).length 0 len sz (some cap)], L.take len, e1.trans (Ext.one _ _), ⟨T ++ [.row avss.flatten false], by simp⟩, hrow, ?_, .inr ⟨(H ++ T).length, cap, avss.flatten, ?_, ?_, ?_, hlc.2, hfl, ?_⟩⟩
          · simp only [VRs, VR]
            refine ⟨_, [], rfl, ⟨lc, a, cap, ?_, rfl, hlc.1, fun _ => ?_, by simp, by simp [lc], by simp [lc]⟩, rfl⟩
            · rw [← r1.len, List.getElem?_append_right (Nat.le_refl _)]; simp
            · obtain ⟨b, o, s⟩ := a
              simp only at hsp
              subst hsp; rfl
          · simp [l2, hcl, Nat.min_eq_left hlc.1]
          · simp [rowAt]
          · simp [l2, hcl]; omega
          · intro i hi
            have hi' : i < L.length := by simp at hi; omega
            rw [List.getElem_take]
            have hia : i < avss.length := by omega
            rw [flatten_part hal hia]
            exact hk _ _ _ _ (a1 i hia hi')
      · cases h
    · cases h

end
end Go.AM
namespace Go.AM

def PTLe (c d : PT) : Prop := ∀ f xs H R, c f xs H R → d f xs H R
def PTMono (c : PT) : Prop := ∀ f xs H (R R' : AV → AH → Prop), c f xs H R → (∀ v H', R v H' → R' v H') → c f xs H R'

def PTCont (c : PT) : Prop := ∀ f xs H (R : Nat → AV → AH → Prop), (∀ j v H, R j v H → R (j + 1) v H) → c f xs H (fun v H => ∃ j, R j v H) → ∃ j, c f xs H (R j)

structure PrimOk (E : Env) : Prop where
  cont : ∀ f g, E f = some (.prim g) → ∀ c, PTMono c → PTCont c → ∀ xs H (R : Nat → AV → AH → Prop), (∀ j v H, R j v H → R (j + 1) v H) → g c xs H (fun v H => ∃ j, R j v H) → ∃ j, g c xs H (R j)
  le : ∀ f g, E f = some (.prim g) → ∀ c d, PTLe c d → ∀ xs H R, g c xs H R → g d xs H R
  mono : ∀ f g, E f = some (.prim g) → ∀ c, PTMono c → ∀ xs H (R R' : AV → AH → Prop), g c xs H R → (∀ v H', R v H' → R' v H') → g c xs H R'

theorem envT_prim (tab : List (Nat × FnC)) : PrimOk (envT tab) := by
  have : ∀ f g, envT tab f ≠ some (.prim g) := by
    intro f g h
    unfold envT at h
    cases hl : tab.lookup f <;> simp [hl] at h
  exact ⟨fun f g h => (this f g h).elim, fun f g h => (this f g h).elim, fun f g h => (this f g h).elim⟩

theorem Wop_le {c d : PT} (h : PTLe c d) {s : Sl} {H : AH} {k : K} {R : AV → AH → Prop} (hr : Wop c s H k R) : Wop d s H k R := by
  unfold Wop at hr ⊢
  split at hr
  · rename_i hk
    rw [if_pos hk]
    cases k <;> simp only [Wcall] at hr ⊢
    · exact h _ _ _ _ hr
    · split at hr
      · exact h _ _ _ _ hr
      · exact hr
  · rename_i hk
    rw [if_neg hk]
    exact hr

theorem Wop_mono' {c : PT} (hc : PTMono c) {k : K} {s : Sl} {H : AH} {A B : AV → AH → Prop} (hw : Wop c s H k A) (hr : ∀ v H', A v H' → B v H') : Wop c s H k B := by
  unfold Wop at hw ⊢
  split at hw
  · rename_i hk
    rw [if_pos hk]
    cases k <;> simp only [Wcall] at hw ⊢
    · exact hc _ _ _ _ _ hw hr
    · split at hw
      · exact hc _ _ _ _ _ hw hr
      · exact hw
  · rename_i hk
    rw [if_neg hk]
    split at hw
    · exact hr _ _ hw
    · exact hw

theorem Wops_mono' {c : PT} (hc : PTMono c) {R R' : Sl → AH → Prop} (hr : ∀ s H, R s H → R' s H) : ∀ {l : List SO} {s : Sl} {H : AH}, Wops c l s H R → Wops c l s H R'
  | [], _, _, h => hr _ _ h
  | o :: l, s, H, h => by
    simp only [Wops] at h ⊢
    split at h
    · rename_i hw
      rw [if_pos hw]
      exact Wop_mono' hc h fun v H' hh => Wops_mono' hc hr hh
    · rename_i hw
      rw [if_neg hw]
      exact Wops_mono' hc hr h

theorem Wops_le {c d : PT} (hd : PTMono d) (h : PTLe c d) {R : Sl → AH → Prop} : ∀ {l : List SO} {s : Sl} {H : AH}, Wops c l s H R → Wops d l s H R
  | [], _, _, hr => hr
  | o :: l, s, H, hr => by
    simp only [Wops] at hr ⊢
    split at hr
    · rename_i hw
      rw [if_pos hw]
      exact Wop_mono' hd (Wop_le h hr) fun v H' hh => Wops_le hd h hh
    · rename_i hw
      rw [if_neg hw]
      exact Wops_le hd h hr

section
variable {E : Env}

def WMono (E : Env) (k : Nat) : Prop := ∀ (c : C) (s : Sl) (H : AH) (Q Q' : Ex → Sl → AH → Prop), W E k c s H Q → (∀ e s H, Q e s H → Q' e s H) → W E k c s H Q'

theorem Wc_mono' {k : Nat} (h : WMono E k) : PTMono (Wc E k) := by
  intro f xs H R R' hw hr
  unfold Wc at hw ⊢
  split at hw
  · exact h _ _ _ _ _ hw (bodyR_mono hr)
  · exact hw

theorem Wp_mono' (hp : PrimOk E) {k : Nat} (h : WMono E k) : PTMono (Wp E k) := by
  intro f xs H R R' hw hr
  unfold Wp at hw ⊢
  cases hf : E f with
  | none => rw [hf] at hw; exact hw
  | some d =>
    rw [hf] at hw
    cases d with
    | prim g => exact hp.mono f g hf _ (Wc_mono' h) _ _ _ _ hw hr
    | code F => exact h _ _ _ _ _ hw (bodyR_mono hr)

theorem W_mono' (hp : PrimOk E) : ∀ k, WMono E k := by
  intro k
  induction k with
  | zero => exact fun _ _ _ _ _ h => h.elim
  | succ k ih =>
    have hpm := Wp_mono' hp ih
    intro c s H Q Q' h hq
    have tm : ∀ {K K' : Sl → AH → Prop}, (∀ s H, K s H → K' s H) → ∀ e s H, then_ K Q e s H → then_ K' Q' e s H := by
      intro K K' hk e s H ht
      cases e with
      | normal => exact hk _ _ ht
      | exit id => exact hq _ _ _ ht
      | ret => exact hq _ _ _ ht
    cases c with
    | skip => exact hq _ _ _ h
    | exit id => exact hq _ _ _ h
    | ret => exact hq _ _ _ h
    | reg ls =>
      rw [W_reg] at h ⊢
      exact ⟨h.1, fun l hl => Wops_mono' hpm (fun s H hh => hq _ _ _ hh) (h.2 l hl)⟩
    | seq a b =>
      rw [W] at h ⊢
      exact ih _ _ _ _ _ h (tm fun s H hh => ih _ _ _ _ _ hh hq)
    | cond c a b =>
      rw [W] at h ⊢
      split at h
      · exact ih _ _ _ _ _ h hq
      · exact h.elim
    | block id b =>
      rw [W] at h ⊢
      refine ih _ _ _ _ _ h ?_
      intro e s H hb
      cases e with
      | normal => exact hq _ _ _ hb
      | ret => exact hq _ _ _ hb
      | exit j =>
        simp only [blk] at hb ⊢
        split at hb
        · rename_i hj; rw [if_pos hj]; exact hq _ _ _ hb
        · rename_i hj; rw [if_neg hj]; exact hq _ _ _ hb
    | loop b =>
      rw [W] at h ⊢
      exact ih _ _ _ _ _ h (tm fun s H hh => ih _ _ _ _ _ hh hq)

theorem W_succ (hp : PrimOk E) : ∀ (k : Nat) (c : C) (s : Sl) (H : AH) (Q : Ex → Sl → AH → Prop), W E k c s H Q → W E (k + 1) c s H Q := by
  intro k
  induction k with
  | zero => exact fun _ _ _ _ h => h.elim
  | succ k ih =>
    have hc : PTLe (Wc E k) (Wc E (k + 1)) := by
      intro f xs H R h
      unfold Wc at h ⊢
      split at h
      · exact ih _ _ _ _ h
      · exact h
    have hpl : PTLe (Wp E k) (Wp E (k + 1)) := by
      intro f xs H R h
      unfold Wp at h ⊢
      cases hf : E f with
      | none => rw [hf] at h; exact h
      | some d =>
        rw [hf] at h
        cases d with
        | prim g => exact hp.le f g hf _ _ hc _ _ _ h
        | code F => exact ih _ _ _ _ h
    have hm := W_mono' hp (k + 1)
    intro c s H Q h
    have tm : ∀ {K K' : Sl → AH → Prop}, (∀ s H, K s H → K' s H) → ∀ e s H, then_ K Q e s H → then_ K' Q e s H := by
      intro K K' hk e s H ht
      cases e with
      | normal => exact hk _ _ ht
      | exit id => exact ht
      | ret => exact ht
    cases c with
    | skip => exact h
    | exit id => exact h
    | ret => exact h
    | reg ls =>
      rw [W_reg] at h ⊢
      exact ⟨h.1, fun l hl => Wops_le (Wp_mono' hp hm) hpl (h.2 l hl)⟩
    | seq a b =>
      rw [W] at h ⊢
      exact hm _ _ _ _ _ (ih _ _ _ _ h) (tm fun s H hh => ih _ _ _ _ hh)
    | cond c a b =>
      rw [W] at h ⊢
      split at h
      · exact ih _ _ _ _ h
      · exact h.elim
    | block id b =>
      rw [W] at h ⊢
      exact ih _ _ _ _ h
    | loop b =>
      rw [W] at h ⊢
      exact hm _ _ _ _ _ (ih _ _ _ _ h) (tm fun s H hh => ih _ _ _ _ hh)

theorem W_le (hp : PrimOk E) {k j : Nat} (hkj : k ≤ j) {c : C} {s : Sl} {H : AH} {Q : Ex → Sl → AH → Prop} (h : W E k c s H Q) : W E j c s H Q := by
  induction hkj with
  | refl => exact h
  | step _ ih => exact W_succ hp _ _ _ _ _ ih

theorem Wp_le (hp : PrimOk E) {k j : Nat} (hkj : k ≤ j) : PTLe (Wp E k) (Wp E j) := by
  intro f xs H R h
  unfold Wp at h ⊢
  cases hf : E f with
  | none => rw [hf] at h; exact h
  | some d =>
    rw [hf] at h
    cases d with
    | prim g =>
      refine hp.le f g hf _ _ ?_ _ _ _ h
      intro f xs H R h
      unfold Wc at h ⊢
      split at h
      · exact W_le hp hkj h
      · exact h
    | code F => exact W_le hp hkj h

def wp (E : Env) (c : C) (s : Sl) (H : AH) (Q : Ex → Sl → AH → Prop) : Prop := ∃ k, W E k c s H Q
def wpo (E : Env) (ops : List SO) (s : Sl) (H : AH) (R : Sl → AH → Prop) : Prop := ∃ k, Wops (Wp E k) ops s H R
def wpc (E : Env) (f : FuncId) (xs : List AV) (H : AH) (R : AV → AH → Prop) : Prop := ∃ k, Wp E k f xs H R

variable {s : Sl} {H : AH} {Q : Ex → Sl → AH → Prop}

theorem wp_mono (hp : PrimOk E) {c : C} {Q' : Ex → Sl → AH → Prop} (h : wp E c s H Q) (hq : ∀ e s H, Q e s H → Q' e s H) : wp E c s H Q' :=
  let ⟨k, h⟩ := h; ⟨k, W_mono' hp k _ _ _ _ _ h hq⟩

theorem wpc_mono (hp : PrimOk E) {f : FuncId} {xs : List AV} {R R' : AV → AH → Prop} (h : wpc E f xs H R) (hq : ∀ r H', R r H' → R' r H') : wpc E f xs H R' :=
  let ⟨k, h⟩ := h; ⟨k, Wp_mono' hp (W_mono' hp k) _ _ _ _ _ h hq⟩

theorem wp_skip (h : Q .normal s H) : wp E .skip s H Q := ⟨1, h⟩
theorem wp_exit {id : Nat} (h : Q (.exit id) s H) : wp E (.exit id) s H Q := ⟨1, h⟩
theorem wp_ret (h : Q .ret s H) : wp E .ret s H Q := ⟨1, h⟩

theorem wp_regs (hp : PrimOk E) {ls : List (List SO)} (hne : ls ≠ []) (h : ∀ l ∈ ls, wpo E l s H fun s' H' => Q .normal s' H') : wp E (.reg ls) s H Q := by
  have key : ∀ ls : List (List SO), (∀ l ∈ ls, wpo E l s H fun s' H' => Q .normal s' H') → ∃ k, ∀ l ∈ ls, Wops (Wp E k) l s H fun s' H' => Q .normal s' H' := by
    intro ls
    induction ls with
    | nil => exact fun _ => ⟨0, by simp⟩
    | cons l ls ih =>
      intro h
      obtain ⟨k, hk⟩ := h l (by simp)
      obtain ⟨j, hj⟩ := ih fun l hl => h l (by simp [hl])
      refine ⟨max k j, fun x hx => ?_⟩
      rcases List.mem_cons.1 hx with rfl | hx
      · exact Wops_le (Wp_mono' hp (W_mono' hp _)) (Wp_le hp (Nat.le_max_left k j)) hk
      · exact Wops_le (Wp_mono' hp (W_mono' hp _)) (Wp_le hp (Nat.le_max_right k j)) (hj x hx)
  obtain ⟨k, hk⟩ := key ls h
  exact ⟨k + 1, W_reg.2 ⟨hne, hk⟩⟩

theorem wp_reg (hp : PrimOk E) {l : List SO} (h : wpo E l s H fun s' H' => Q .normal s' H') : wp E (.reg [l]) s H Q :=
  wp_regs hp (by simp) (by simpa using h)

theorem chain_le {α β : Type} {R : Nat → α → β → Prop} (h : ∀ j a b, R j a b → R (j + 1) a b) {j k : Nat} (hjk : j ≤ k) {a : α} {b : β} (hr : R j a b) : R k a b := by
  induction hjk with
  | refl => exact hr
  | step _ ih => exact h _ _ _ ih

theorem Wops_cont {c : PT} (hm : PTMono c) (hc : PTCont c) : ∀ {l : List SO} {s : Sl} {H : AH} {R : Nat → Sl → AH → Prop}, (∀ j s H, R j s H → R (j + 1) s H) → Wops c l s H (fun s H => ∃ j, R j s H) → ∃ j, Wops c l s H (R j)
  | [], s, H, R, _, h => h
  | o :: l, s, H, R, hR, h => by
    simp only [Wops] at h ⊢
    split at h
    · rename_i hw
      simp only [if_pos hw]
      have h2 : Wop c s H o.k fun v H' => ∃ j, Wops c l (pt s o.dst v) H' (R j) := Wop_mono' hm h fun v H' hh => Wops_cont hm hc hR hh
      unfold Wop at h2 ⊢
      split at h2
      · rename_i hk
        simp only [if_pos hk]
        have up : ∀ j v H', Wops c l (pt s o.dst v) H' (R j) → Wops c l (pt s o.dst v) H' (R (j + 1)) := fun j v H' hh => Wops_mono' hm (hR j) hh
        cases hkk : o.k <;> rw [hkk] at h2 <;> simp only [Wcall] at h2 ⊢
        · exact hc _ _ _ _ up h2
        · split at h2
          · exact hc _ _ _ _ up h2
          · exact h2.elim
      · rename_i hk
        simp only [if_neg hk]
        split at h2
        · exact h2
        · exact h2.elim
    · rename_i hw
      simp only [if_neg hw]
      exact Wops_cont hm hc hR h

theorem bodyR_cont {F : FnC} {R : Nat → AV → AH → Prop} {e : Ex} {s : Sl} {H : AH} (h : bodyR F (fun v H => ∃ j, R j v H) e s H) : ∃ j, bodyR F (R j) e s H := by
  cases e <;> simp only [bodyR] at h ⊢ <;> first
    | exact h.elim
    | (split at h
       · exact h
       · exact h.elim)

def WCont (E : Env) (k : Nat) : Prop := ∀ (c : C) (s : Sl) (H : AH) (Q : Nat → Ex → Sl → AH → Prop), (∀ j e s H, Q j e s H → Q (j + 1) e s H) → W E k c s H (fun e s H => ∃ j, Q j e s H) → ∃ j, W E k c s H (Q j)

theorem Wc_cont (hp : PrimOk E) {k : Nat} (h : WCont E k) : PTCont (Wc E k) := by
  intro f xs H R hR hw
  unfold Wc at hw ⊢
  split at hw
  · exact h _ _ _ _ (fun j e s H hb => bodyR_mono (hR j) e s H hb) (W_mono' hp k _ _ _ _ _ hw fun e s H hb => bodyR_cont hb)
  · exact hw.elim

theorem Wp_cont (hp : PrimOk E) {k : Nat} (h : WCont E k) : PTCont (Wp E k) := by
  intro f xs H R hR hw
  unfold Wp at hw ⊢
  cases hf : E f with
  | none => rw [hf] at hw; exact hw.elim
  | some d =>
    rw [hf] at hw
    cases d with
    | prim g => exact hp.cont f g hf _ (Wc_mono' (W_mono' hp k)) (Wc_cont hp h) _ _ _ hR hw
    | code F => exact h _ _ _ _ (fun j e s H hb => bodyR_mono (hR j) e s H hb) (W_mono' hp k _ _ _ _ _ hw fun e s H hb => bodyR_cont hb)

theorem W_cont (hp : PrimOk E) : ∀ k, WCont E k := by
  intro k
  induction k with
  | zero => exact fun _ _ _ _ _ h => h.elim
  | succ k ih =>
    have hpc := Wp_cont hp ih
    have hpm := Wp_mono' hp (W_mono' hp k)
    have hm := W_mono' hp k
    intro c s H Q hQ h
    cases c with
    | skip => exact h
    | exit id => exact h
    | ret => exact h
    | reg ls =>
      rw [W_reg] at h
      have key : ∀ ls : List (List SO), (∀ l ∈ ls, Wops (Wp E k) l s H fun s' H' => ∃ j, Q j .normal s' H') → ∃ j, ∀ l ∈ ls, Wops (Wp E k) l s H fun s' H' => Q j .normal s' H' := by
        intro ls
        induction ls with
        | nil => exact fun _ => ⟨0, by simp⟩
        | cons l ls ihl =>
          intro hl
          obtain ⟨i, hi⟩ := Wops_cont hpm hpc (R := fun j s H => Q j .normal s H) (fun j s H => hQ j _ s H) (hl l (by simp))
          obtain ⟨j, hj⟩ := ihl fun x hx => hl x (by simp [hx])
          refine ⟨max i j, fun x hx => ?_⟩
          have up : ∀ a b, a ≤ b → ∀ s H, Q a .normal s H → Q b .normal s H := fun a b hab s H hq => chain_le (R := fun j s H => Q j .normal s H) (fun j s H => hQ j _ s H) hab hq
          rcases List.mem_cons.1 hx with rfl | hx
          · exact Wops_mono' hpm (up _ _ (Nat.le_max_left i j)) hi
          · exact Wops_mono' hpm (up _ _ (Nat.le_max_right i j)) (hj x hx)
      obtain ⟨j, hj⟩ := key ls h.2
      exact ⟨j, W_reg.2 ⟨h.1, hj⟩⟩
    | seq a b =>
      rw [W] at h
      have : ∃ j, W E k a s H (then_ (fun s' H' => W E k b s' H' (Q j)) (Q j)) := by
        refine ih a s H (fun j => then_ (fun s' H' => W E k b s' H' (Q j)) (Q j)) ?_ (hm _ _ _ _ _ h ?_)
        · intro j e s H ht
          cases e with
          | normal => exact hm _ _ _ _ _ ht (hQ j)
          | exit id => exact hQ _ _ _ _ ht
          | ret => exact hQ _ _ _ _ ht
        · intro e s H ht
          cases e with
          | normal => exact ih _ _ _ _ hQ ht
          | exit id => exact ht
          | ret => exact ht
      obtain ⟨j, hj⟩ := this
      exact ⟨j, by rw [W]; exact hj⟩
    | cond c a b =>
      rw [W] at h
      split at h
      · rename_i t ht
        obtain ⟨j, hj⟩ := ih _ _ _ _ hQ h
        exact ⟨j, by rw [W]; simp only [ht]; exact hj⟩
      · exact h.elim
    | block id b =>
      rw [W] at h
      have : ∃ j, W E k b s H (blk id (Q j)) := by
        refine ih b s H (fun j => blk id (Q j)) ?_ (hm _ _ _ _ _ h ?_)
        · intro j e s H ht
          cases e with
          | normal => exact hQ _ _ _ _ ht
          | ret => exact hQ _ _ _ _ ht
          | exit i =>
            simp only [blk] at ht ⊢
            split at ht
            · rename_i hi; rw [if_pos hi]; exact hQ _ _ _ _ ht
            · rename_i hi; rw [if_neg hi]; exact hQ _ _ _ _ ht
        · intro e s H ht
          cases e with
          | normal => exact ht
          | ret => exact ht
          | exit i =>
            simp only [blk] at ht ⊢
            split at ht
            · rename_i hi; simp only [if_pos hi]; exact ht
            · rename_i hi; simp only [if_neg hi]; exact ht
      obtain ⟨j, hj⟩ := this
      exact ⟨j, by rw [W]; exact hj⟩
    | loop b =>
      rw [W] at h
      have : ∃ j, W E k b s H (then_ (fun s' H' => W E k (.loop b) s' H' (Q j)) (Q j)) := by
        refine ih b s H (fun j => then_ (fun s' H' => W E k (.loop b) s' H' (Q j)) (Q j)) ?_ (hm _ _ _ _ _ h ?_)
        · intro j e s H ht
          cases e with
          | normal => exact hm _ _ _ _ _ ht (hQ j)
          | exit id => exact hQ _ _ _ _ ht
          | ret => exact hQ _ _ _ _ ht
        · intro e s H ht
          cases e with
          | normal => exact ih _ _ _ _ hQ ht
          | exit id => exact ht
          | ret => exact ht
      obtain ⟨j, hj⟩ := this
      exact ⟨j, by rw [W]; exact hj⟩

theorem W_then (hp : PrimOk E) {a b : C} (h : wp E a s H (then_ (fun s' H' => wp E b s' H' Q) Q)) : ∃ k, W E k a s H (then_ (fun s' H' => W E k b s' H' Q) Q) := by
  obtain ⟨k, h⟩ := h
  have : ∃ j, W E k a s H (then_ (fun s' H' => W E j b s' H' Q) Q) := by
    refine W_cont hp k a s H (fun j => then_ (fun s' H' => W E j b s' H' Q) Q) ?_ (W_mono' hp k _ _ _ _ _ h ?_)
    · intro j e s H ht
      cases e with
      | normal => exact W_succ hp _ _ _ _ _ ht
      | exit id => exact ht
      | ret => exact ht
    · intro e s H ht
      cases e with
      | normal => exact ht
      | exit id => exact ⟨0, ht⟩
      | ret => exact ⟨0, ht⟩
  obtain ⟨j, hj⟩ := this
  refine ⟨max k j, W_le hp (Nat.le_max_left k j) (W_mono' hp k _ _ _ _ _ hj ?_)⟩
  intro e s H ht
  cases e with
  | normal => exact W_le hp (Nat.le_max_right k j) ht
  | exit id => exact ht
  | ret => exact ht

theorem wp_seq (hp : PrimOk E) {a b : C} (h : wp E a s H (then_ (fun s' H' => wp E b s' H' Q) Q)) : wp E (.seq a b) s H Q := by
  obtain ⟨k, hk⟩ := W_then hp h
  exact ⟨k + 1, by rw [W]; exact hk⟩

theorem wp_cond {c : Od} {a b : C} {t : Bool} (hc : ev s c = .bool t) (h : wp E (if t then a else b) s H Q) : wp E (.cond c a b) s H Q := by
  obtain ⟨k, h⟩ := h
  exact ⟨k + 1, by rw [W]; simp only [hc]; exact h⟩

theorem wp_block {id : Nat} {b : C} (h : wp E b s H (blk id Q)) : wp E (.block id b) s H Q := by
  obtain ⟨k, h⟩ := h
  exact ⟨k + 1, by rw [W]; exact h⟩

theorem wp_loop (hp : PrimOk E) {b : C} (I : Nat → Sl → AH → Prop) {n : Nat} (h0 : I n s H)
    (hb : ∀ n s H, I n s H → wp E b s H (then_ (fun s' H' => ∃ m, m < n ∧ I m s' H') Q)) : wp E (.loop b) s H Q := by
  induction n using Nat.strongRecOn generalizing s H with
  | ind n ih =>
    have h1 : wp E b s H (then_ (fun s' H' => wp E (.loop b) s' H' Q) Q) := by
      refine wp_mono hp (hb n s H h0) ?_
      intro e s H ht
      cases e with
      | normal =>
        obtain ⟨m, hm, hI⟩ := ht
        exact ih m hm hI
      | exit id => exact ht
      | ret => exact ht
    obtain ⟨k, hk⟩ := W_then hp h1
    exact ⟨k + 1, by rw [W]; exact hk⟩

variable {R : Sl → AH → Prop}

theorem wpo_nil (h : R s H) : wpo E [] s H R := ⟨0, h⟩

theorem wpo_op (hp : PrimOk E) {o : SO} {l : List SO} (hk : isCall o.k = false)
    (h : if wanted s o then (match aop nocall s H o.k with | some (v, H') => wpo E l (pt s o.dst v) H' R | none => False) else wpo E l (pt s o.dst (.tup [])) H R) : wpo E (o :: l) s H R := by
  split at h
  · rename_i hw
    split at h
    · rename_i v H' hv
      obtain ⟨k, h⟩ := h
      exact ⟨k, by simp only [Wops, hw, if_true, Wop, hk, Bool.false_eq_true, if_false, hv]; exact h⟩
    · exact h.elim
  · rename_i hw
    obtain ⟨k, h⟩ := h
    exact ⟨k, by simp only [Wops, hw, if_false]; exact h⟩

theorem wpo_cont (hp : PrimOk E) {f : FuncId} {xs : List AV} {l : List SO} {d : Option Nat} (h : wpc E f xs H fun r H' => wpo E l (pt s d r) H' R) : ∃ k, Wp E k f xs H fun r H' => Wops (Wp E k) l (pt s d r) H' R := by
  obtain ⟨k, h⟩ := h
  have : ∃ j, Wp E k f xs H fun r H' => Wops (Wp E j) l (pt s d r) H' R :=
    Wp_cont hp (W_cont hp k) f xs H (fun j r H' => Wops (Wp E j) l (pt s d r) H' R) (fun j v H' hh => Wops_le (Wp_mono' hp (W_mono' hp _)) (Wp_le hp (Nat.le_succ j)) hh) h
  obtain ⟨j, hj⟩ := this
  refine ⟨max k j, Wp_mono' hp (W_mono' hp _) _ _ _ _ _ (Wp_le hp (Nat.le_max_left k j) _ _ _ _ hj) fun v H' hh => Wops_le (Wp_mono' hp (W_mono' hp _)) (Wp_le hp (Nat.le_max_right k j)) hh⟩

theorem wpo_call (hp : PrimOk E) {d : Option Nat} {f : FuncId} {g : Option (Option Nat × Bool)} {xs : List Od} {l : List SO} (hw : wanted s ⟨d, .callF f xs, g⟩ = true) (h : wpc E f (evs s xs) H fun r H' => wpo E l (pt s d r) H' R) : wpo E (⟨d, .callF f xs, g⟩ :: l) s H R := by
  obtain ⟨k, h⟩ := wpo_cont hp h
  exact ⟨k, by simp only [Wops, hw, if_true, Wop, isCall, Wcall]; exact h⟩

theorem wpo_skip {o : SO} {l : List SO} (hw : wanted s o = false) (h : wpo E l (pt s o.dst (.tup [])) H R) : wpo E (o :: l) s H R := by
  obtain ⟨k, h⟩ := h
  exact ⟨k, by simp only [Wops, hw, Bool.false_eq_true, if_false]; exact h⟩

theorem wpc_code {f : FuncId} {F : FnC} {xs : List AV} {R : AV → AH → Prop} (hf : E f = some (.code F)) (h : wp E F.body (initOf F xs) H (bodyR F R)) : wpc E f xs H R := by
  obtain ⟨k, h⟩ := h
  exact ⟨k, by simp only [Wp, hf]; exact h⟩

end

def gd (b w : Bool) (X Y : Prop) : Prop := match w with
  | true => if b = true then X else Y
  | false => if b = false then X else Y
theorem gd_true (b : Bool) (X Y : Prop) : gd b true X Y = (if b = true then X else Y) := rfl
theorem gd_false (b : Bool) (X Y : Prop) : gd b false X Y = (if b = false then X else Y) := rfl
theorem gd_pos {b w : Bool} {X Y : Prop} (h : gd b w X Y) (e : b = w) : X := by subst e; cases b <;> simpa [gd] using h
theorem gd_neg {b w : Bool} {X Y : Prop} (h : gd b w X Y) (e : b = !w) : Y := by subst e; cases w <;> simpa [gd] using h
def runs (E : Env) : List SO → Sl → AH → (Sl → AH → Prop) → Prop
  | [], s, H, R => R s H
  | o :: l, s, H, R => if isCall o.k then (match o.guard with
      | none => wpo E (⟨o.dst, o.k, none⟩ :: l) s H R
      | some (some t, w) => (match gt s t with
        | .bool b => gd b w (wpo E (⟨o.dst, o.k, none⟩ :: l) (pt s (some t) (.bool w)) H R) (runs E l (pt (pt s (some t) (.bool !w)) o.dst (.tup [])) H R)
        | .tup [] => runs E l (pt s o.dst (.tup [])) H R
        | _ => False)
      | some (none, _) => False) else match o.guard with
    | none => (match aop nocall s H o.k with
      | some (v, H') => runs E l (pt s o.dst v) H' R
      | none => False)
    | some (some t, w) => (match gt s t with
      | .bool b => gd b w (match aop nocall s H o.k with
          | some (v, H') => runs E l (pt (pt s (some t) (.bool w)) o.dst v) H' R
          | none => False) (runs E l (pt (pt s (some t) (.bool !w)) o.dst (.tup [])) H R)
      | .tup [] => runs E l (pt s o.dst (.tup [])) H R
      | _ => False)
    | some (none, _) => False

theorem pt_self {s : Sl} {t : Nat} {v : AV} (h : gt s t = v) (hv : v ≠ .tup []) : pt s (some t) v = s := by
  subst h
  simp only [pt]
  apply List.ext_getElem?
  intro i
  rw [List.getElem?_set]
  split
  · rename_i h
    subst h
    split
    · rename_i hl
      simp [gt, List.getD_eq_getElem?_getD, hl]
    · rename_i hl
      rw [List.getElem?_eq_none (by omega)]
  · rfl

theorem wpo_runs {E : Env} (hp : PrimOk E) : ∀ {l : List SO} {s : Sl} {H : AH} {R : Sl → AH → Prop}, runs E l s H R → wpo E l s H R
  | [], s, H, R, h => wpo_nil h
  | o :: l, s, H, R, h => by
    simp only [runs] at h
    split at h
    · split at h
      · rename_i hg
        obtain ⟨d, k, g⟩ := o
        simp only at hg
        subst hg
        exact h
      · rename_i t w hg
        obtain ⟨d, k, g⟩ := o
        simp only at hg h
        subst hg
        split at h
        · rename_i b hb
          have hself : ∀ b', b = b' → pt s (some t) (.bool b') = s := fun b' hb' => pt_self (by rw [hb, hb']) (by simp)
          by_cases hbw : b = w
          · have h1 := gd_pos h hbw
            rw [hself w hbw] at h1
            obtain ⟨j, h1⟩ := h1
            have hw : wanted s ⟨d, k, some (some t, w)⟩ = true := by simp only [wanted, hb, hbw, beq_self_eq_true]
            refine ⟨j, ?_⟩
            simp only [Wops, hw, if_true] at h1 ⊢
            simpa only [wanted, if_true] using h1
          · have hbn : b = !w := by cases b <;> cases w <;> simp_all
            have h1 := gd_neg h hbn
            rw [hself _ hbn] at h1
            exact wpo_skip (by simp only [wanted, hb]; simpa using hbw) (wpo_runs hp h1)
        · rename_i hb
          exact wpo_skip (by simp only [wanted, hb]) (wpo_runs hp h)
        · exact h.elim
      · exact h.elim
    · rename_i hk
      refine wpo_op hp (by simpa using hk) ?_
      split at h
      · rename_i hg
        have hw : wanted s o = true := by simp only [wanted, hg]
        rw [if_pos hw]
        split at h
        · exact wpo_runs hp h
        · exact h
      · rename_i t w hg
        split at h
        · rename_i b hb
          have hself : ∀ b', b = b' → pt s (some t) (.bool b') = s := fun b' hb' => pt_self (by rw [hb, hb']) (by simp)
          by_cases hbw : b = w
          · have hw : wanted s o = true := by simp only [wanted, hg, hb, hbw, beq_self_eq_true]
            rw [if_pos hw]
            have h1 := gd_pos h hbw
            rw [hself w hbw] at h1
            split at h1
            · exact wpo_runs hp h1
            · exact h1
          · have hw : wanted s o = false := by simp only [wanted, hg, hb]; simpa using hbw
            rw [hw]
            simp only [Bool.false_eq_true, if_false]
            have hbn : b = !w := by cases b <;> cases w <;> simp_all
            have h1 := gd_neg h hbn
            rw [hself _ hbn] at h1
            exact wpo_runs hp h1
        · rename_i hb
          have hw : wanted s o = false := by simp only [wanted, hg, hb]
          rw [hw]
          simp only [Bool.false_eq_true, if_false]
          exact wpo_runs hp h
        · exact h.elim
      · exact h.elim

@[simp] theorem pt_length (s : Sl) (d : Option Nat) (v : AV) : (pt s d v).length = s.length := by cases d <;> simp [pt]
theorem gt_same {s : Sl} {d : Nat} {v : AV} (h : d < s.length) : gt (pt s (some d) v) d = v := by
  simp [gt, pt, List.getD_eq_getElem?_getD, h]
theorem gt_other {s : Sl} {d i : Nat} {v : AV} (h : ¬ d = i) : gt (pt s (some d) v) i = gt s i := gt_pt (by simpa using h)
theorem pt_none (s : Sl) (v : AV) : pt s none v = s := rfl
theorem ev_t (s : Sl) (i : Nat) : ev s (.t i) = gt s i := rfl
theorem ev_c (s : Sl) (v : AV) : ev s (.c v) = v := rfl
end Go.AM
namespace Go.AM
open Go.RowKit

theorem RH.start (w : World) : RH w.heap.size [] [] w :=
  ⟨rfl, Nat.le_refl _, fun o a l h => by simp at h, fun o a l h => by simp at h, fun o a l o' a' l' _ h => by simp at h⟩

theorem calls_true {P : Program} {E : Env} (hm : P.follows .mixedOrders = true) (hE : EnvOK P E) {f : FuncId} {xs : List AV} {H : AH} {ρ : RL} {W : World} {vs : List Value}
    (hv : VRs ρ xs vs) (hr : RH W.heap.size ρ H W) (h : wpc E f xs H fun r _ => r = .bool true) :
    Calls P f ⟨vs⟩ W fun e W' => e = .returned (.bool true) ∧ Below W.heap.size W W' := by
  obtain ⟨k, h⟩ := h
  refine ((Wp_ok hE (sound_all hm hE k)).sound f xs H _ h _ ρ W vs hv hr).mono ?_
  rintro e W' ⟨ρ', u, v, H', rfl, _, hu, _, hb, rfl⟩
  simp only [VR] at hu
  subst hu
  exact ⟨rfl, hb⟩

theorem opens_arg {α : Type} {P : Program} {W : World} {t : TypeId} {R : AH → List AV → α → Prop} (ho : Opens P W t R) {K : Type} {enc : TypeId × Value → K} {v : Value} {d : DataW K} {p : List MemPlace}
    (h : DataW.Trod enc P W 0 (fun _ => true) true t v d p) (hc : v.cells.toList = [v]) {ρ : RL} {H : AH} (hr : RH W.heap.size ρ H W) {xs : List AV} {vs : List Value} (hv : VRs ρ xs vs) :
    ∃ ρ' H' avs a, (∃ T, H' = H ++ T) ∧ RH W.heap.size ρ' H' W ∧ VRs ρ' (xs ++ avs) (vs ++ [v]) ∧ R H' avs a := by
  obtain ⟨fuel, h⟩ := h
  rw [hc] at h
  obtain ⟨ρ', H', avs, a, e, hT, r, hv', ha⟩ := ho enc fuel [v] d p h ρ H hr
  exact ⟨ρ', H', avs, a, hT, r, (VRs.mono e _ _ hv).append hv', ha⟩

theorem trod_lt' {H : Type} {enc : TypeId × Value → H} {P : Program} {W : World} {sp : Nat → Bool} {held : Bool} {t : TypeId} {v : Value} {d : DataW H} {ps : List MemPlace}
    (h : DataW.Trod enc P W 0 sp held t v d ps) : ∀ x ∈ ps, x.block < W.heap.size := by
  obtain ⟨m, hm⟩ := h
  exact DataW.trod_lt m _ _ _ hm

end Go.AM
namespace Go.AM

def ld (H : AH) : AV → Option AV
  | .ptr o off => (rowAt H o).bind fun l => l[off]?
  | _ => none
def ia (sz : Nat) : AV → AV → Option AV
  | .sli o off len sz' _, .int _ n => if 0 ≤ n ∧ n < len ∧ sz' = sz then some (.ptr o (off + n.toNat * sz)) else none
  | _, _ => none
def ln : AV → Option AV
  | .nils => some (.int .i64 0)
  | .sli _ _ n _ _ => some (.int .i64 n)
  | _ => none

section
variable {c : Call} {s : Sl} {H : AH}
theorem aop_load1 (a : Od) : aop c s H (.load1 a) = (ld H (ev s a)).map (·, H) := by
  simp only [aop]
  cases ev s a <;> simp only [ld, Option.map_none]
  cases rowAt H _ <;> simp
theorem aop_iAddr (sz : Nat) (x i : Od) : aop c s H (.iAddr sz x i) = (ia sz (ev s x) (ev s i)).map (·, H) := by
  simp only [aop]
  cases ev s x <;> cases ev s i <;> simp only [ia, Option.map_none]
  split <;> simp
theorem aop_lenS (x : Od) : aop c s H (.lenS x) = (ln (ev s x)).map (·, H) := by
  simp only [aop]
  cases ev s x <;> simp [ln]
theorem aop_mv (x : Od) : aop c s H (.mv x) = some (ev s x, H) := rfl
theorem aop_bin (op : BinOp) (x y : Od) : aop c s H (.bin op x y) = (abin op (ev s x) (ev s y)).map (·, H) := rfl
theorem aop_un (op : UnOp) (x : Od) : aop c s H (.un op x) = (aun op (ev s x)).map (·, H) := rfl
theorem aop_ext (i : Nat) (x : Od) : aop c s H (.ext i x) = match ev s x with
    | .tup l => (l[i]?).map (·, H)
    | _ => none := rfl
theorem aop_pick (x a b : Od) : aop c s H (.pick x a b) = match ev s x with
    | .bool t => some (if t then ev s a else ev s b, H)
    | _ => none := rfl
theorem aop_mkM : aop c s H .mkM = some (.map H.length, H ++ [.mp []]) := rfl
theorem aop_box (x : Od) : aop c s H (.box x) = some (.ptr H.length 0, H ++ [.row (ev s x).cells true]) := rfl
theorem aop_al (z : List AV) : aop c s H (.alloc z) = some (.ptr H.length 0, H ++ [.row z true]) := rfl
end

theorem abin_lss (k : IntKind) (a b : Int) : abin .lss (.int k a) (.int k b) = some (.bool (decide (a < b))) := by simp [abin, isShift, aint]
theorem abin_leq (k : IntKind) (a b : Int) : abin .leq (.int k a) (.int k b) = some (.bool (decide (a ≤ b))) := by simp [abin, isShift, aint]
theorem abin_gtr (k : IntKind) (a b : Int) : abin .gtr (.int k a) (.int k b) = some (.bool (decide (b < a))) := by simp [abin, isShift, aint]
theorem abin_geq (k : IntKind) (a b : Int) : abin .geq (.int k a) (.int k b) = some (.bool (decide (b ≤ a))) := by simp [abin, isShift, aint]
theorem abin_eql (k : IntKind) (a b : Int) : abin .eql (.int k a) (.int k b) = some (.bool (decide (a = b))) := by simp [abin, isShift, aint]; rfl
theorem abin_neq (k : IntKind) (a b : Int) : abin .neq (.int k a) (.int k b) = some (.bool (!decide (a = b))) := by
  simp [abin, isShift, aint, bne]; rfl
theorem abin_add (k : IntKind) (a b : Int) : abin .add (.int k a) (.int k b) = some (.int k (k.wrap (a + b))) := by simp [abin, isShift, aint]
theorem abin_sub (k : IntKind) (a b : Int) : abin .sub (.int k a) (.int k b) = some (.int k (k.wrap (a - b))) := by simp [abin, isShift, aint]
theorem abin_mul (k : IntKind) (a b : Int) : abin .mul (.int k a) (.int k b) = some (.int k (k.wrap (a * b))) := by simp [abin, isShift, aint]
theorem aun_not (b : Bool) : aun .not (.bool b) = some (.bool (!b)) := rfl

theorem wrap64 {n : Int} (h1 : -9223372036854775808 ≤ n) (h2 : n ≤ 9223372036854775807) : IntKind.wrap .i64 n = n := by
  simp [IntKind.wrap, IntKind.signed, IntKind.bits, IntKind.min, IntKind.max]
  omega

theorem wrap_inc {n N : Nat} (h : n < N) (hN : N ≤ 9223372036854775807) : IntKind.wrap .i64 ((n : Int) + 1) = ((n + 1 : Nat) : Int) := by
  rw [wrap64 (by omega) (by omega)]; simp

def pO : AV → Nat | .sli o _ _ _ _ => o | _ => 0
def pF : AV → Nat | .sli _ f _ _ _ => f | _ => 0

structure Rds (H : AH) (v : AV) (n : Nat) (e : Nat → AV) : Prop where
  len : ln v = some (.int .i64 n)
  adr : ∀ k, k < n → ia 1 v (.int .i64 k) = some (.ptr (pO v) (pF v + k))
  get : ∀ k, k < n → ld H (.ptr (pO v) (pF v + k)) = some (e k)
  big : n ≤ 9223372036854775807

theorem gt_init {F : FnC} {xs : List AV} {i : Nat} (h : i < xs.length) : gt (initOf F xs) i = xs[i] := by
  simp [gt, initOf, List.getD_eq_getElem?_getD, List.getElem?_append_left h, h]
theorem init_length {F : FnC} {xs : List AV} (h : xs.length ≤ F.n) : (initOf F xs).length = F.n := by
  simp [initOf]; omega

section
variable {E : Env} {f : FuncId} {F : FnC} {H : AH} {R : AV → AH → Prop}
end

end Go.AM
namespace Go.AM

def ints (L : List Int) : List AV := L.map (.int .i64)
@[simp] theorem ints_length (L : List Int) : (ints L).length = L.length := by simp [ints]
def st (n : Nat) (p x : AV) (H : AH) : Option AH :=
  match p with
  | .ptr o off => match ownAt H o with
    | some l => if x.cells.length = n ∧ off + n ≤ l.length ∧ x.cells.all AV.scalar then some (H.set o (.row (splice l off x.cells) true)) else none
    | none => none
  | _ => none

def mk (z : List AV) (by_ : Nat) (l c : AV) (H : AH) : Option (AV × AH) :=
  match l, c with
  | .int _ l, .int _ c =>
    if 0 ≤ l ∧ l ≤ c ∧ c ≤ 9223372036854775807 ∧ by_ * c ≤ 281474976710656 then some (.sli H.length 0 l.toNat z.length (some c.toNat), H ++ [.row (zrow z c.toNat) true]) else none
  | _, _ => none

section
variable {c : Call} {s : Sl} {H : AH}
theorem aop_store (n : Nat) (a x : Od) : aop c s H (.store n a x) = (st n (ev s a) (ev s x) H).map fun H' => (.tup [], H') := by
  simp only [aop]
  cases ev s a <;> simp only [st, Option.map_none]
  cases ownAt H _ <;> simp only [Option.map_none]
  split <;> rfl
theorem aop_mkS (z : List AV) (by_ : Nat) (l x : Od) : aop c s H (.mkS z by_ l x) = mk z by_ (ev s l) (ev s x) H := by
  simp only [aop]
  cases ev s l <;> cases ev s x <;> rfl
end

structure Own (H : AH) (v : AV) (o : Nat) (L : List Int) : Prop where
  eq : ∃ c, v = .sli o 0 L.length 1 c
  row : H[o]? = some (.row (ints L) true)
  big : L.length ≤ 9223372036854775807

theorem lt_of_get {H : AH} {o : Nat} {a : AO} (h : H[o]? = some a) : o < H.length := (List.getElem?_eq_some_iff.1 h).1

def lk (kk : KK) (z : AV) (ok : Bool) (m k : AV) (H : AH) : Option AV :=
  let fin (r : Option (Nat × AV)) : AV := match r with
    | some (_, v) => if ok then .tup [v, .bool true] else v
    | none => if ok then .tup [z, .bool false] else z
  match m with
  | .nilm => if kfit kk k then some (fin none) else none
  | .map o => match mapAt H o with
    | some es => if kfit kk k then (find k es 0).map fin else none
    | none => none
  | _ => none

def mp (kk : KK) (m k v : AV) (H : AH) : Option AH :=
  match m with
  | .map o => match mapAt H o with
    | some es => if kfit kk k then (match find k es 0 with
        | some (some (i, _)) => some (H.set o (.mp (es.set i (k, v))))
        | some none => some (H.set o (.mp (es ++ [(k, v)])))
        | none => none) else none
    | none => none
  | _ => none

def lm (H : AH) : AV → Option AV
  | .nilm => some (.int .i64 0)
  | .map o => (mapAt H o).map fun es => .int .i64 es.length
  | _ => none

section
variable {c : Call} {s : Sl} {H : AH}
theorem aop_look (kk : KK) (z : AV) (ok : Bool) (m k : Od) : aop c s H (.look kk z ok m k) = (lk kk z ok (ev s m) (ev s k) H).map (·, H) := by
  simp only [aop]
  cases ev s m <;> simp only [lk, Option.map_none]
  · split <;> rfl
  · cases mapAt H _ <;> simp only [Option.map_none]
    split
    · cases find (ev s k) _ 0 <;> rfl
    · rfl
theorem aop_mset (kk : KK) (m k v : Od) : aop c s H (.mset kk m k v) = (mp kk (ev s m) (ev s k) (ev s v) H).map fun H' => (.tup [], H') := by
  simp only [aop]
  cases ev s m <;> simp only [mp, Option.map_none]
  cases mapAt H _ <;> simp only [Option.map_none]
  split
  · split <;> simp_all
  · rfl
theorem aop_lenM (m : Od) : aop c s H (.lenM m) = (lm H (ev s m)).map (·, H) := by
  simp only [aop]
  cases ev s m <;> simp only [lm, Option.map_none, Option.map_some]
  simp [Option.map_map, Function.comp_def]
end

end Go.AM
namespace Go.AM

def lda (n : Nat) (H : AH) : AV → Option AV
  | .ptr o off => (rowAt H o).bind fun l => if off + n ≤ l.length then some (.agg ((l.drop off).take n)) else none
  | _ => none
def iaA (len esz : Nat) : AV → AV → Option AV
  | .ptr o off, .int _ n => if 0 ≤ n ∧ n < len then some (.ptr o (off + n.toNat * esz)) else none
  | _, _ => none

section
variable {c : Call} {s : Sl} {H : AH}
theorem aop_loadA (n : Nat) (a : Od) : aop c s H (.loadA n a) = (lda n H (ev s a)).map (·, H) := by
  simp only [aop]
  cases ev s a <;> simp only [lda, Option.map_none]
  cases rowAt H _ <;> simp only [Option.bind_none, Option.bind_some, Option.map_none]
  split <;> simp
theorem aop_iAddrA (len esz : Nat) (x i : Od) : aop c s H (.iAddrA len esz x i) = (iaA len esz (ev s x) (ev s i)).map (·, H) := by
  simp only [aop]
  cases ev s x <;> cases ev s i <;> simp only [iaA, Option.map_none]
  split <;> simp
theorem aop_max {c : Call} {s : Sl} {H : AH} (xs : List Od) : aop c s H (.max xs) = (amm true (evs s xs)).map (·, H) := rfl
theorem aop_build (z : List AV) (ps : List (Nat × Nat × Od)) : aop c s H (.build z ps) = (fillA z (ps.map fun p => (p.1, p.2.1, ev s p.2.2))).map fun l => (.agg l, H) := rfl
theorem aop_lit (z : List AV) (esz len : Nat) (ps : List (Nat × Nat × Od)) : aop c s H (.lit z esz len ps) = (fillA z (ps.map fun p => (p.1, p.2.1, ev s p.2.2))).map fun l => (.sli H.length 0 len esz (some len), H ++ [.row l true]) := rfl
end

structure RdP (H : AH) (v : AV) (L : List (Int × Int)) : Prop where
  len : ln v = some (.int .i64 L.length)
  adr : ∀ k, k < L.length → ia 2 v (.int .i64 k) = some (.ptr (pO v) (pF v + k * 2))
  get : ∀ k, k < L.length → lda 2 H (.ptr (pO v) (pF v + k * 2)) = some (.agg [.int .i64 (L.getD k (0, 0)).1, .int .i64 (L.getD k (0, 0)).2])
  big : L.length ≤ 9223372036854775807

end Go.AM
namespace Go.AM

def prs (L : List (Nat × Nat)) : List AV := L.flatMap fun p => [.int .i64 p.1, .int .i64 p.2]

structure Wk (H : AH) (v : AV) (o : Nat) (L : List (Nat × Nat)) : Prop where
  ex : ∃ c l, v = .sli o 0 L.length 2 c ∧ H[o]? = some (.row l true) ∧ L.length * 2 ≤ l.length ∧ l.take (L.length * 2) = prs L ∧ ∀ c', c = some c' → l.length = c' * 2

def bndV (x : Option AV) (dflt top : Nat) : Option Nat :=
  match x with
  | none => some dflt
  | some (.int _ n) => if 0 ≤ n ∧ n ≤ top then some n.toNat else none
  | _ => none

theorem bnd_V (s : Sl) (x : Option Od) (d top : Nat) : bnd s x d top = bndV (x.map (ev s)) d top := by
  cases x with
  | none => rfl
  | some x => simp only [bnd, bndV, Option.map_some]; cases ev s x <;> rfl

def slv (esz : Nat) (v : AV) (lo hi mx : Option AV) : Option AV :=
  match v with
  | .nils => match bndV mx 0 0 with
    | some m => match bndV hi 0 m with
      | some h => match bndV lo 0 h with
        | some _ => some .nils
        | none => none
      | none => none
    | none => none
  | .sli o off len sz c =>
    if sz ≠ esz then none else
    let top := c.getD len
    match bndV mx top top with
    | some m => match bndV hi len m with
      | some h => match bndV lo 0 h with
        | some l => some (.sli o (off + l * sz) (h - l) sz (if mx.isSome then some (m - l) else c.map (· - l)))
        | none => none
      | none => none
    | none => none
  | _ => none

theorem aop_slS {c : Call} {s : Sl} {H : AH} (esz : Nat) (x : Od) (lo hi mx : Option Od) : aop c s H (.slS esz x lo hi mx) = (slv esz (ev s x) (lo.map (ev s)) (hi.map (ev s)) (mx.map (ev s))).map (·, H) := by
  simp only [aop, bnd_V, slv, Option.isSome_map]
  cases ev s x <;> try rfl
  · simp only
    cases bndV (Option.map (ev s) mx) 0 0 <;> simp only [Option.map_none]
    cases bndV (Option.map (ev s) hi) 0 _ <;> simp only [Option.map_none]
    cases bndV (Option.map (ev s) lo) 0 _ <;> rfl
  · simp only
    split
    · rfl
    · cases bndV (Option.map (ev s) mx) _ _ <;> simp only [Option.map_none]
      cases bndV (Option.map (ev s) hi) _ _ <;> simp only [Option.map_none]
      cases bndV (Option.map (ev s) lo) 0 _ <;> rfl

structure Apart (b o : Nat) (H H' : AH) : Prop where
  low : H'.take b = H.take b
  oth : ∀ i a, i ≠ o → H[i]? = some a → H'[i]? = some a
  le : H.length ≤ H'.length

def ap (z : List AV) (by_ : Nat) (x y : AV) (H : AH) : Option (AV × AH) :=
  match seen H z.length y, lenOf y with
  | some xs, some n => aappend z by_ x xs n H
  | _, _ => none
theorem aop_app {c : Call} {s : Sl} {H : AH} (z : List AV) (by_ : Nat) (x y : Od) : aop c s H (.app z by_ x y) = ap z by_ (ev s x) (ev s y) H := rfl

theorem wpo_mono {E : Env} (hp : PrimOk E) {l : List SO} {s : Sl} {H : AH} {K K' : Sl → AH → Prop} (h : wpo E l s H K) (hk : ∀ s H, K s H → K' s H) : wpo E l s H K' := by
  obtain ⟨k, h⟩ := h
  exact ⟨k, Wops_mono' (Wp_mono' hp (W_mono' hp _)) hk h⟩

structure PrsR (H : AH) (v : AV) (P : List (Nat × Nat)) : Prop where
  len : ln v = some (.int .i64 P.length)
  adr : ∀ k, k < P.length → ia 2 v (.int .i64 k) = some (.ptr (pO v) (pF v + k * 2))
  get : ∀ k, k < P.length → lda 2 H (.ptr (pO v) (pF v + k * 2)) = some (.agg [.int .i64 (P.getD k (0, 0)).1, .int .i64 (P.getD k (0, 0)).2])
  sn : seen H 2 v = some (prs P)
  lo : lenOf v = some P.length

end Go.AM
