/- Part 1 of the proof that the law SubdirectEmbeds holds: words and lemmas it rests on. No condition. -/
import Derived.Test.YtmdpejgnkoneoaaE0
import Derived.Laws.BytesString
import Derived.Lib.AppendStr
import Derived.Orders
set_option linter.unusedSimpArgs false
set_option linter.unusedVariables false
set_option linter.unnecessarySimpa false
set_option linter.unusedSectionVars false
namespace Go.AM
open Go.RowKit
section
variable {P : Program} {B : Nat} {ρ : RL} {H : AH} {w : World} {a : Act} {s : Sl} {o : Oper}

theorem same_bits {k x : AV} {k' x' : Value} (h : keyEq k x = some true) (hk : VR ρ k k') (hx : VR ρ x x') (n : Nat) : Instr.sameBits n x' k' = true := by
  cases k <;> cases x <;> simp [keyEq] at h
  · have hk := VR_int hk; have hx := VR_int hx
    subst hk hx
    obtain ⟨h1, h2⟩ := h
    subst h1 h2
    simp [Instr.sameBits]
  · have hk := VR_bool hk; have hx := VR_bool hx
    subst hk hx h
    simp [Instr.sameBits]
  · have hk := VR_str hk; have hx := VR_str hx
    subst hk hx h
    simp only [Instr.sameBits, bytes_beq]
    simp

theorem RH.mapSet (hR : RH B ρ H w) {b : Nat} {es es' : List (AV × AV)} (h : mapAt H b = some es) {lc : Loc} (hlc : ρ[b]? = some lc) (ms' : Array MapEntry) (clock' : Nat) (hp : PR ρ es' ms'.toList) :
    ∃ w', (setObj lc.b (.map ms' clock')).run P w = .ok () w' ∧ RH B ρ (H.set b (.mp es')) w' ∧ Below B w w' := by
  have ho := mapAt_some h
  obtain ⟨lc', h1, h2, ms, clock, h3, h4⟩ := hR.get ho
  rw [hlc] at h1; cases h1
  have hlt : lc.b < w.heap.size := (Array.getElem?_eq_some_iff.1 h3).1
  have hot : ∀ k, k ≠ lc.b → (w.heap.setIfInBounds lc.b (.map ms' clock'))[k]? = w.heap[k]? := fun k hk => by
    rw [Array.getElem?_setIfInBounds, if_neg (Ne.symm hk)]
  refine ⟨{ w with heap := w.heap.setIfInBounds lc.b (.map ms' clock') }, ?_, ?_, ?_⟩
  · simp [setObj, Sem.run, h3]
  · refine hR.set (l := lc) ho hlc rfl h2 (by simp) hot ⟨h2, ms', clock', ?_, hp⟩
    simp [hlt]
  · have hb := hR.own b _ lc ho rfl hlc h2
    exact ⟨rfl, rfl, rfl, by simp, fun k hk => hot k (by omega)⟩

theorem sim_mset {t kt e : TypeId} {kk : KK} {m k v : Operand} {m' k' v' : Od} {b : Nat} {es : List (AV × AV)} {r : Option (Nat × AV)} (ho : o.op = .mapUpdate t m k v) (hu : P.underlying t = some (.map kt e)) (hk : ckind P kt = some kk)
    (h1 : cod m = some m') (h2 : cod k = some k') (h3 : cod v = some v') (hs : VRs ρ s a.tmps.toList) (hR : RH B ρ H w) (hm : ev s m' = .map b) (hes : mapAt H b = some es) (hf : kfit kk (ev s k') = true) (hr : find (ev s k') es 0 = some r) :
    Does P B ρ w (execOp a.eval o) (.tup []) (H.set b (.mp (match r with | some (i, _) => es.set i (ev s k', ev s v') | none => es ++ [(ev s k', ev s v')]))) := by
  obtain ⟨d, hd, hkk⟩ := ckind_some hk
  obtain ⟨lc, ms, clock, g1, g2, g3, g4⟩ := hR.mapIn hes
  have hv := VR_ev hs h1
  rw [hm] at hv
  obtain ⟨lc', g1', hv⟩ := VR_map hv
  rw [g1] at g1'; cases g1'
  have hkv := VR_ev hs h2
  have hvv := VR_ev hs h3
  obtain ⟨r', h5, h4⟩ := run_find hkk hf hkv g4 hr
  have hck : (Instr.checkKey false 10000 kt (a.eval k)).run P w = .ok () w := run_checkKey0 hd hkk _ _ 9999
  have hfk : (Instr.findKey kt (a.eval k) ms.toList).run P w = .ok r' w := by simp [Instr.findKey, run_underlying hd, h5]
  cases r with
  | none =>
    cases r' with
    | some _ => exact h4.elim
    | none =>
      obtain ⟨w', h6, h7, h8⟩ := hR.mapSet (P := P) (es' := es ++ [(ev s k', ev s v')]) hes g1 (ms.push { key := a.eval k, val := a.eval v, born := clock }) (clock + 1) (by simpa using g4.push (p := (ev s k', ev s v')) (m := { key := a.eval k, val := a.eval v, born := clock }) hkv hvv)
      refine ⟨ρ, w', .skip, undef, ?_, .inr ⟨rfl, rfl⟩, Ext.refl _, by simp [VR, VRs, undef], h7, h8⟩
      simp only [execOp, ho, Instr.mapUpdate, Sem.run_bind, run_underlying hu, Result.andThen_ok, hv, run_getObj_map g3, hck, hfk, h6, Sem.run_pure]
  | some r =>
    cases r' with
    | none => exact h4.elim
    | some r' =>
      obtain ⟨j, vv⟩ := r
      obtain ⟨j', vv'⟩ := r'
      obtain ⟨h9, h10, _, p, m0, h11, h12, h13, h14⟩ := h4
      subst h9
      rw [Nat.sub_zero] at h11 h12
      obtain ⟨w', h6, h7, h8⟩ := hR.mapSet (P := P) (es' := es.set j (ev s k', ev s v')) hes g1 (ms.modify j fun e => { e with key := a.eval k, val := a.eval v }) clock (by
        rw [Array.toList_modify]
        exact g4.set j _ (fun m _ => ⟨hkv, hvv⟩))
      refine ⟨ρ, w', .skip, undef, ?_, .inr ⟨rfl, rfl⟩, Ext.refl _, by simp [VR, VRs, undef], h7, h8⟩
      have hst : Instr.keyThatStays (((ms[j]?).map (·.key)).getD (a.eval k)) (a.eval k) = pure (a.eval k) := by
        have : ms[j]? = some m0 := by rw [← Array.getElem?_toList]; exact h12
        simp [Instr.keyThatStays, this, same_bits h13 hkv h14]
      simp only [execOp, ho, Instr.mapUpdate, Sem.run_bind, run_underlying hu, Result.andThen_ok, hv, run_getObj_map g3, hck, hfk, hst, h6, Sem.run_pure]

theorem bytesOf_spec : ∀ {l : List AV} {vs : List Value} {b : List UInt8}, VRs ρ l vs → bytesOf l = some b → ∃ ns : List Int, vs = ns.map (Value.int .u8) ∧ b = ns.map fun n => UInt8.ofNat n.toNat
  | [], vs, b, h, hb => by
    rw [VRs_nil] at h; subst h
    simp [bytesOf] at hb; subst hb
    exact ⟨[], rfl, rfl⟩
  | x :: l, vs, b, h, hb => by
    rw [VRs_cons] at h
    obtain ⟨v, r, rfl, hv, hr⟩ := h
    cases x <;> try (simp [bytesOf] at hb; done)
    rename_i k n
    have hv := VR_int hv
    subst hv
    cases k <;> try (simp [bytesOf] at hb; done)
    simp only [bytesOf, Option.map_eq_some_iff] at hb
    obtain ⟨b', hb', rfl⟩ := hb
    obtain ⟨ns, rfl, rfl⟩ := bytesOf_spec hr hb'
    exact ⟨n :: ns, rfl, rfl⟩

theorem push_fold : ∀ (ns : List Int) (acc : ByteArray), ns.foldl (fun r n => r.push (UInt8.ofNat n.toNat)) acc = ⟨acc.data ++ (ns.map fun n => UInt8.ofNat n.toNat).toArray⟩
  | [], acc => by simp
  | n :: ns, acc => by
    simp only [List.foldl_cons]
    rw [push_fold ns]
    apply ByteArray.ext
    simp

theorem seen_sl (hR : RH B ρ H w) {sz b off n sz' : Nat} {c : Option Nat} {l : List AV} (h : seen H sz (.sli b off n sz' c) = some l) {v : Value} (hv : VR ρ (.sli b off n sz' c) v) :
    ∃ (vs : List Value) (ad : Addr) (cap : Nat), v = .slice (some ad) n cap ∧ VRs ρ l vs ∧ vs.length = n * sz ∧ l.length = n * sz ∧ ∀ (j : Nat) (u : Value), vs[j]? = some u → w.cell? (ad.add j) = some u := by
  simp only [VR] at hv
  obtain ⟨lc, ad, cap, g1, g2, g3, g4, g5⟩ := hv
  simp only [seen] at h
  split at h
  · rename_i he; subst he
    split at h
    · rename_i r hr
      split at h
      · rename_i hle
        simp only [Option.some.injEq] at h; subst h
        have hlen : ((r.drop off).take (n * sz')).length = n * sz' := by simp; omega
        by_cases hc : cap = 0
        · have hn : n = 0 := by omega
          subst hn
          refine ⟨[], ad, cap, g2, by simp [VRs], by simp, hlen, by simp⟩
        · have had := g4 hc
          subst had
          obtain ⟨vs, h1, h2, h3⟩ := hR.cellsAt hr g1 off (n * sz') hle
          exact ⟨vs, _, cap, g2, h2, h1, hlen, h3⟩
      · simp at h
    · simp at h
  · simp at h

theorem sim_convS {src dst e : TypeId} {x : Operand} {x' : Od} {l : List AV} {b : List UInt8} (ho : o.op = .convert src dst x) (h1 : P.underlying src = some (.slice e)) (h2 : P.underlying dst = some .string) (h3 : P.underlying e = some (.int .u8)) (hc : cod x = some x') (hs : VRs ρ s a.tmps.toList) (hR : RH B ρ H w)
    (hl : seen H 1 (ev s x') = some l) (hns : ∀ t, ev s x' ≠ .str t) (hb : bytesOf l = some b) : Does P B ρ w (execOp a.eval o) (.str b) H := by
  have hv := VR_ev hs hc
  generalize ev s x' = X at *
  cases X <;> simp [seen] at hl
  · exact (hns _ rfl).elim
  · subst hl
    simp [bytesOf] at hb; subst hb
    simp only [VR] at hv
    refine Does.pure (v' := .string .empty) ?_ (by simp [VR]; rfl) hR
    simp only [execOp, ho, hv, Sem.run_bind, run_convert_bytes_string w src dst e _ _ _ h1 h3 h2, Conv.bytesToString, Sem.run_pure, Result.andThen_ok]
  · rename_i bb off n sz c
    have hl' : seen H 1 (.sli bb off n sz c) = some l := by simp [seen]; exact hl
    obtain ⟨vs, ad, cap, rfl' , g1, g2, g3, g4⟩ := seen_sl hR hl' hv
    obtain ⟨ns, rfl, rfl⟩ := bytesOf_spec g1 hb
    have hr := run_loadCells_list (P := P) w ad _ g4
    rw [g2, Nat.mul_one] at hr
    refine Does.pure (v' := _) ?_ VR_mk_str hR
    simp only [execOp, ho, rfl', Sem.run_bind, run_convert_bytes_string w src dst e _ _ _ h1 h3 h2, run_bytesToString w ad n cap ns hr, Sem.run_pure, Result.andThen_ok]
    rw [push_fold]
    simp

theorem sim_lenS {t e : TypeId} {x : Operand} {x' : Od} {n : Nat} (ho : ∃ ts, o.op = .call { callee := .builtin .len, args := #[x], argTypes := ts } ∧ ts[0]? = some t) (hu : P.underlying t = some (.slice e)) (hc : cod x = some x') (hs : VRs ρ s a.tmps.toList) (hR : RH B ρ H w)
    (hx : (ev s x' = .nils ∧ n = 0) ∨ ∃ b off sz c, ev s x' = .sli b off n sz c) : Does P B ρ w (execOp a.eval o) (.int .i64 n) H := by
  obtain ⟨ts, ho, ht⟩ := ho
  have hv := VR_ev hs hc
  refine Does.pure (v' := .int .i64 n) ?_ VR_mk_int hR
  rcases hx with ⟨hx, rfl⟩ | ⟨b, off, sz, c, hx⟩
  · rw [hx] at hv
    simp only [VR] at hv
    simp [execOp, ho, resolve, invoke, builtin, Builtin.len_, ht, hv, run_underlying hu, goInt]
  · rw [hx] at hv
    obtain ⟨ad, m, hv⟩ := VR_sl hv
    simp [execOp, ho, resolve, invoke, builtin, Builtin.len_, ht, hv, run_underlying hu, goInt]

theorem sim_lenT {t : TypeId} {x : Operand} {x' : Od} {b : List UInt8} (ho : ∃ ts, o.op = .call { callee := .builtin .len, args := #[x], argTypes := ts } ∧ ts[0]? = some t) (hu : P.underlying t = some .string) (hc : cod x = some x') (hs : VRs ρ s a.tmps.toList) (hR : RH B ρ H w)
    (hx : ev s x' = .str b) : Does P B ρ w (execOp a.eval o) (.int .i64 b.length) H := by
  obtain ⟨ts, ho, ht⟩ := ho
  have hv := VR_ev hs hc
  rw [hx] at hv
  have hv := VR_str hv
  refine Does.pure (v' := .int .i64 b.length) ?_ VR_mk_int hR
  simp [execOp, ho, resolve, invoke, builtin, Builtin.len_, ht, hv, run_underlying hu, goInt, str_size]

theorem sim_lenM {t k e : TypeId} {x : Operand} {x' : Od} {b : Nat} {es : List (AV × AV)} (ho : ∃ ts, o.op = .call { callee := .builtin .len, args := #[x], argTypes := ts } ∧ ts[0]? = some t) (hu : P.underlying t = some (.map k e)) (hc : cod x = some x') (hs : VRs ρ s a.tmps.toList) (hR : RH B ρ H w)
    (hx : ev s x' = .map b) (hes : mapAt H b = some es) : Does P B ρ w (execOp a.eval o) (.int .i64 es.length) H := by
  obtain ⟨ts, ho, ht⟩ := ho
  obtain ⟨lc, ms, clock, g1, g2, g3, g4⟩ := hR.mapIn hes
  have hv := VR_ev hs hc
  rw [hx] at hv
  obtain ⟨lc', g1', hv⟩ := VR_map hv
  rw [g1] at g1'; cases g1'
  have hl := g4.get.1
  refine Does.pure (v' := .int .i64 es.length) ?_ VR_mk_int hR
  have hl' : ms.size = es.length := by simpa using hl
  simp only [execOp, ho, resolve, invoke, builtin, Builtin.len_, Sem.run_bind, Sem.run_pure, Result.andThen_ok, ht, List.map_toArray, List.map_cons, List.map_nil]
  simp [hv, run_underlying hu, goInt, run_getObj_map g3, hl']

theorem sim_lenN {t k e : TypeId} {x : Operand} {x' : Od} (ho : ∃ ts, o.op = .call { callee := .builtin .len, args := #[x], argTypes := ts } ∧ ts[0]? = some t) (hu : P.underlying t = some (.map k e)) (hc : cod x = some x') (hs : VRs ρ s a.tmps.toList) (hR : RH B ρ H w)
    (hx : ev s x' = .nilm) : Does P B ρ w (execOp a.eval o) (.int .i64 0) H := by
  obtain ⟨ts, ho, ht⟩ := ho
  have hv := VR_ev hs hc
  rw [hx] at hv
  simp only [VR] at hv
  refine Does.pure (v' := .int .i64 0) ?_ VR_mk_int hR
  simp [execOp, ho, resolve, invoke, builtin, Builtin.len_, ht, hv, run_underlying hu, goInt]

theorem run_foldMM (mx : Bool) : ∀ {l : List AV} {vs : List Value} {x : Int} {k : IntKind} {v : AV}, VRs ρ l vs → foldMM mx x k l = some v →
    ∃ u, VR ρ v u ∧ (vs.foldlM (if mx then Builtin.max2 else Builtin.min2) (.int k x)).run P w = .ok u w
  | [], vs, x, k, v, h, hv => by
    rw [VRs_nil] at h; subst h
    simp [foldMM] at hv; subst hv
    exact ⟨_, VR_mk_int, by simp⟩
  | y :: l, vs, x, k, v, h, hv => by
    rw [VRs_cons] at h
    obtain ⟨u, r, rfl, hu, hr⟩ := h
    cases y <;> try (simp [foldMM] at hv; done)
    rename_i j n
    have hu := VR_int hu
    subst hu
    simp only [foldMM] at hv
    obtain ⟨u, h1, h2⟩ := run_foldMM mx hr hv
    refine ⟨u, h1, ?_⟩
    cases mx with
    | true => simp only [if_true] at h2 ⊢; simp only [List.foldlM_cons, Builtin.max2, Sem.run_bind, Sem.run_pure, Result.andThen_ok]; exact h2
    | false => simp only [Bool.false_eq_true, if_false] at h2 ⊢; simp only [List.foldlM_cons, Builtin.min2, Sem.run_bind, Sem.run_pure, Result.andThen_ok]; exact h2

theorem sim_mm {mx : Bool} {xs : Array Operand} {ts : Array TypeId} {ys : List Od} {v : AV} (ho : o.op = .call { callee := .builtin (if mx then .max else .min), args := xs, argTypes := ts }) (hc : cods xs.toList = some ys) (hs : VRs ρ s a.tmps.toList) (hR : RH B ρ H w)
    (hv : amm mx (evs s ys) = some v) : Does P B ρ w (execOp a.eval o) v H := by
  have h1 := VRs_evs hs hc
  generalize evs s ys = Y at *
  cases Y with
  | nil => simp [amm] at hv
  | cons y Y =>
    cases y <;> try (simp [amm] at hv; done)
    rename_i k n
    simp only [amm] at hv
    rw [VRs_cons] at h1
    obtain ⟨u, r, h2, h3, h4⟩ := h1
    have h3 := VR_int h3
    subst h3
    obtain ⟨u, h5, h6⟩ := run_foldMM (P := P) (w := w) mx h4 hv
    refine Does.pure (v' := u) ?_ h5 hR
    cases mx with
    | true => simp only [if_true] at ho h6; simp [execOp, ho, resolve, invoke, builtin, Builtin.max_, h2, h6]
    | false => simp only [Bool.false_eq_true, if_false] at ho h6; simp [execOp, ho, resolve, invoke, builtin, Builtin.min_, h2, h6]

end
end Go.AM
namespace Go.AM
open Go.RowKit
section
variable {P : Program} {B : Nat} {ρ : RL} {H : AH} {w : World} {a : Act} {s : Sl} {o : Oper}

structure Src (P : Program) (w : World) (sz : Nat) (y : Value) (n : Nat) (vs : List Value) : Prop where
  len : (Builtin.lenOf y).run P w = .ok n w
  cells : ∀ w' : World, w'.heap = w.heap → (Builtin.firstCells sz n y).run P w' = .ok ⟨vs⟩ w'
  size : vs.length = n * sz

theorem cell_heap {w w' : World} (h : w'.heap = w.heap) (ad : Addr) : w'.cell? ad = w.cell? ad := by simp [World.cell?, h]

theorem run_append_in (t u e : TypeId) (d : TypeDesc) (i : TypeInfo) (ty : TypeId) (ht : P.underlying t = some (.slice e)) (hu : P.underlying u = some d) (hd : ∀ k, d ≠ .int k) (hi : P.info? e = some i)
    {ts : Array TypeId} (h0 : ts[0]? = some t) (h1 : ts[1]? = some u) {base : Option Addr} {sLen sCap n : Nat} {y : Value} {vs : List Value} (hy : Src P w i.size y n vs) (hroom : sLen + n ≤ sCap) :
    (Builtin.append_ ts ty #[.slice base sLen sCap, y]).run P w =
      (match base with | some a => (storeCells (a.add (sLen * i.size)) vs).run P w | none => .ok () w).andThen fun _ w' => .ok (.slice base (sLen + n) sCap) w' := by
  have hc := hy.cells w rfl
  have hl := hy.len
  have hmd : (match d with | .int _ => true | _ => false) = false := by cases d <;> first | exact (hd _ rfl).elim | rfl
  simp only [Builtin.append_, h0, h1, Sem.run_bind, run_underlying ht, run_underlying hu, Result.andThen_ok, run_sizeOf' hi, Sem.run_pure, hmd, List.getElem?_toArray, List.getElem?_cons_zero, List.getElem?_cons_succ]
  simp [hl, hroom, hc]
  cases base with
  | none => simp
  | some ad => simp

theorem run_append_out (t u e : TypeId) (d : TypeDesc) (i : TypeInfo) (z : Value) (ty : TypeId) (ht : P.underlying t = some (.slice e)) (hu : P.underlying u = some d) (hd : ∀ k, d ≠ .int k) (hi : P.info? e = some i) (hz0 : i.zero = some z)
    {ts : Array TypeId} (h0 : ts[0]? = some t) (h1 : ts[1]? = some u) {base : Option Addr} {sLen sCap n : Nat} {y : Value} {vs : List Value} (hy : Src P w i.size y n vs) (hroom : sCap < sLen + n)
    {olds : List Value} (hold : ∀ w' : World, w'.heap = w.heap → (Builtin.firstCells i.size sLen (.slice base sLen sCap)).run P w' = .ok ⟨olds⟩ w') (hn : sLen + n ≤ 9223372036854775807) (hb : (sLen + n) * i.bytes ≤ 140737488355328) :
    (Builtin.append_ ts ty #[.slice base sLen sCap, y]).run P w =
      .ok (.slice (some ⟨w.heap.size, 0, none⟩) (sLen + n) (grownCap w (sLen + n) sCap e)) (w.drew.alloc (.cells (⟨olds⟩ ++ ⟨vs⟩ ++ Builtin.zeroCells z.cells (grownCap w (sLen + n) sCap e - (sLen + n))) e)) := by
  have hl := hy.len
  have hmd : (match d with | .int _ => true | _ => false) = false := by cases d <;> first | exact (hd _ rfl).elim | rfl
  have hg := growslice_fits (bytes := i.bytes) hroom hb
  have holdd := hold w.drew rfl
  have hnewd := hy.cells w.drew rfl
  have hn' : ¬ (sLen + n ≤ sCap) := by omega
  have h63' : ¬ (9223372036854775807 < ((sLen : Int) + (n : Int))) := by omega
  have h48' : ¬ (281474976710656 < Builtin.nextslicecap (sLen + n) sCap * i.bytes) := by omega
  simp only [Builtin.append_, h0, h1, Sem.run_bind, run_underlying ht, run_underlying hu, Result.andThen_ok, run_sizeOf' hi, Sem.run_pure, hmd, List.getElem?_toArray, List.getElem?_cons_zero, List.getElem?_cons_succ]
  simp [hl, typeInfo, zeroValue, hi, hz0, hn', h63', h48', Question.forced, holdd, hnewd, newRow, grownCap]
  congr 2
  exact Array.ext' (by simp)

theorem src_of (hR : RH B ρ H w) {sz n : Nat} {y : AV} {v : Value} {l : List AV} (hv : VR ρ y v) (hl : seen H sz y = some l) (hn : lenOf y = some n) : ∃ vs, Src P w sz v n vs ∧ VRs ρ l vs ∧ l.length = n * sz := by
  cases y <;> simp [lenOf] at hn
  · rename_i b
    subst hn
    simp [seen] at hl
    obtain ⟨rfl, rfl⟩ := hl
    have hv := VR_str hv
    subst hv
    · refine ⟨b.map fun c => .int .u8 c.toNat, ⟨by simp [Builtin.lenOf, str_size], fun w' _ => ?_, by simp⟩, ?_, by simp⟩
      · simp [Builtin.firstCells]
      · rw [VRs_iff]
        refine ⟨by simp, fun j x hx => ?_⟩
        rw [List.getElem?_map] at hx ⊢
        cases hb : b[j]? with
        | none => simp [hb] at hx
        | some c => simp [hb] at hx; subst hx; exact ⟨_, rfl, VR_mk_int⟩
  · subst hn
    simp [seen] at hl; subst hl
    simp only [VR] at hv
    subst hv
    exact ⟨[], ⟨by simp [Builtin.lenOf], fun w' _ => by simp [Builtin.firstCells], by simp⟩, by simp [VRs], by simp⟩
  · rename_i bb off m sz' c
    subst hn
    obtain ⟨vs, ad, cap, rfl, g1, g2, g3, g4⟩ := seen_sl hR hl hv
    refine ⟨vs, ⟨by simp [Builtin.lenOf], fun w' hw => ?_, g2⟩, g1, g3⟩
    exact run_firstCells_some w' sz m ad m cap vs g2 (fun j u hu => by rw [cell_heap hw]; exact g4 j u hu)

theorem RH.drew (hR : RH B ρ H w) : RH B ρ H w.drew := hR.world (Nat.le_refl _) (fun _ _ _ _ _ _ => rfl)

theorem RH.move {w' : World} (h : RH B ρ H w) {b : Nat} {a0 x : AO} {lc l : Loc} (ha : H[b]? = some a0) (hv : a0.live = true) (hl : ρ[b]? = some lc) (hown : lc.own = true) (hs : w'.heap.size = w.heap.size) (hb : ∀ k, k ≠ lc.b → w'.heap[k]? = w.heap[k]?) (hlb : l.b = lc.b)
    (ho : ObjIn (ρ ++ [l]) w' l x) : RH B (ρ ++ [l]) (AM.alloc (H.set b .dead) x) w' := by
  have e : Ext ρ (ρ ++ [l]) := Ext.one _ _
  have old : ∀ (o : Nat) (a' : AO) (l' : Loc), (AM.alloc (H.set b .dead) x)[o]? = some a' → (ρ ++ [l])[o]? = some l' → a'.live = true → (o ≠ b ∧ H[o]? = some a' ∧ ρ[o]? = some l') ∨ (o = H.length ∧ a' = x ∧ l' = l) := by
    intro o a' l' ha' hl' hv'
    unfold AM.alloc at ha'
    rcases Nat.lt_or_ge o H.length with ho' | ho'
    · rw [List.getElem?_append_left (by simpa using ho'), List.getElem?_set] at ha'
      rw [List.getElem?_append_left (by rw [h.len]; exact ho')] at hl'
      split at ha'
      · split at ha'
        · simp at ha'; subst ha'; simp [AO.live] at hv'
        · simp at ha'
      · rename_i hne
        exact .inl ⟨Ne.symm hne, ha', hl'⟩
    · have hlt := (List.getElem?_eq_some_iff.1 ha').1
      simp at hlt
      have : o = H.length := by omega
      subst this
      rw [List.getElem?_append_right (by simp)] at ha'
      rw [← h.len, List.getElem?_append_right (Nat.le_refl _)] at hl'
      simp at ha' hl'
      exact .inr ⟨rfl, ha'.symm, hl'.symm⟩
  refine ⟨by simp [AM.alloc, h.len], by rw [hs]; exact h.base, ?_, ?_, ?_⟩
  · intro o a' l' ha' hl'
    cases hv' : a'.live with
    | false =>
      unfold AM.alloc at ha'
      rcases Nat.lt_or_ge o H.length with ho' | ho'
      · rw [List.getElem?_append_left (by simpa using ho'), List.getElem?_set] at ha'
        rw [List.getElem?_append_left (by rw [h.len]; exact ho')] at hl'
        split at ha'
        · split at ha'
          · simp at ha'; subst ha'; trivial
          · simp at ha'
        · exact (h.ok o a' l' ha' hl').mono e (fun q => by rw [hv'] at q; simp at q)
      · have hlt := (List.getElem?_eq_some_iff.1 ha').1
        simp at hlt
        have : o = H.length := by omega
        subst this
        rw [List.getElem?_append_right (by simp)] at ha'
        rw [← h.len, List.getElem?_append_right (Nat.le_refl _)] at hl'
        simp at ha' hl'
        subst ha' hl'
        exact ho
    | true =>
      rcases old o a' l' ha' hl' hv' with ⟨h0, h1, h2⟩ | ⟨_, rfl, rfl⟩
      · exact (h.ok o a' l' h1 h2).mono e (fun _ => hb _ (Ne.symm (h.sep b a0 lc o a' l' (Ne.symm h0) ha hv hl hown h1 hv' h2)))
      · exact ho
  · intro o a' l' ha' hv' hl' hown'
    rcases old o a' l' ha' hl' hv' with ⟨h0, h1, h2⟩ | ⟨_, rfl, rfl⟩
    · exact h.own o a' l' h1 hv' h2 hown'
    · rw [hlb]; exact h.own b a0 lc ha hv hl hown
  · intro o a1 l1 o' a2 l2 hne h1 v1 r1 w1 h2 v2 r2
    rcases old o a1 l1 h1 r1 v1 with ⟨n1, p1, q1⟩ | ⟨rfl, rfl, rfl⟩
    · rcases old o' a2 l2 h2 r2 v2 with ⟨n2, p2, q2⟩ | ⟨rfl, rfl, rfl⟩
      · exact h.sep o a1 l1 o' a2 l2 hne p1 v1 q1 w1 p2 v2 q2
      · rw [hlb]
        exact h.sep o a1 l1 b a0 lc n1 p1 v1 q1 w1 ha hv hl
    · rcases old o' a2 l2 h2 r2 v2 with ⟨n2, p2, q2⟩ | ⟨rfl, _, _⟩
      · rw [hlb]
        exact h.sep b a0 lc o' a2 l2 (Ne.symm n2) ha hv hl hown p2 v2 q2
      · exact (hne rfl).elim

theorem sim_app {ts : Array TypeId} {t u e : TypeId} {d : TypeDesc} {i : TypeInfo} {z : List AV} {x y : Operand} {x' y' : Od} {xs : List AV} {n : Nat} {v : AV} {H' : AH} (ho : o.op = .call { callee := .builtin .append, args := #[x, y], argTypes := ts })
    (h0 : ts[0]? = some t) (h1 : ts[1]? = some u) (ht : P.underlying t = some (.slice e)) (hu : P.underlying u = some d) (hd : ∀ k, d ≠ .int k) (hi : P.info? e = some i) (hz : zcells P e = some z) (hzl : z.length = i.size)
    (hx : cod x = some x') (hy : cod y = some y') (hs : VRs ρ s a.tmps.toList) (hR : RH B ρ H w) (hxs : seen H z.length (ev s y') = some xs) (hn : lenOf (ev s y') = some n) (hv : aappend z i.bytes (ev s x') xs n H = some (v, H')) :
    Does P B ρ w (execOp a.eval o) v H' := by
  obtain ⟨i', zv, za, q1, q2, q3, q4⟩ := zcells_some hz
  rw [hi] at q1; cases q1
  have hxv := VR_ev hs hx
  have hyv := VR_ev hs hy
  obtain ⟨vs, hsrc, hvs, hxl⟩ := src_of (P := P) hR hyv hxs hn
  rw [hzl] at hsrc hxl
  have hex : (execOp a.eval o).run P w = ((Builtin.append_ ts o.type #[a.eval x, a.eval y]).run P w).andThen fun v w' => .ok (.value v) w' := by
    simp [execOp, ho, resolve, invoke, builtin]
  -- a new row behind the old and the new cells
  have grow : ∀ (base : Option Addr) (sLen sCap : Nat) (olds : List AV) (ovs : List Value) (H1 : AH), a.eval x = .slice base sLen sCap → sCap < sLen + n → VRs ρ olds ovs → olds.length = sLen * i.size →
      (∀ w' : World, w'.heap = w.heap → (Builtin.firstCells i.size sLen (.slice base sLen sCap)).run P w' = .ok ⟨ovs⟩ w') → (sLen + n) * i.bytes ≤ 140737488355328 → sLen + n ≤ 9223372036854775807 → RH B ρ H1 w → H1.length = H.length →
      Does P B ρ w (execOp a.eval o) (.sli H.length 0 (sLen + n) z.length none) (AM.alloc H1 (.row (olds ++ xs) true)) := by
    intro base sLen sCap olds ovs H1 hb hroom hov hol hof hb1 hb2 hR1 hlen
    have hr := run_append_out (P := P) (w := w) t u e d i zv o.type ht hu hd hi q2 h0 h1 hsrc hroom hof hb2 hb1
    have hge := grownCap_ge w (sLen + n) sCap e
    have hov' := hov.length
    have hvs' := hvs.length
    have hzs : zv.cells.size = i.size := by
      have := (VR_absV (ρ := ρ) q3).cells.length
      rw [← hzl, q4]
      simpa using this
    have hCs : ((⟨ovs⟩ ++ ⟨vs⟩ ++ Builtin.zeroCells zv.cells (grownCap w (sLen + n) sCap e - (sLen + n))) : Array Value).size = grownCap w (sLen + n) sCap e * i.size := by
      rw [Array.size_append, Array.size_append, size_zeroCells, hzs]
      show ovs.length + vs.length + _ = _
      rw [hov', hvs', hol, hxl, ← Nat.add_mul, ← Nat.add_mul]
      congr 1
      omega
    have hcl : (olds ++ xs).length = (sLen + n) * i.size := by rw [List.length_append, hol, hxl, Nat.add_mul]
    have hle : (sLen + n) * i.size ≤ grownCap w (sLen + n) sCap e * i.size := Nat.mul_le_mul_right _ hge
    refine ⟨ρ ++ [⟨w.heap.size, 0, (olds ++ xs).length, _, true⟩], _, .value (.slice (some ⟨w.heap.size, 0, none⟩) (sLen + n) (grownCap w (sLen + n) sCap e)), _, ?_, .inl rfl, Ext.one _ _, ?_, hR1.drew.newRow (olds ++ xs) _ e (by rw [hcl, hCs]; exact hle) ?_, ?_⟩
    · rw [hex, hb, hr]
      rfl
    · rw [← hlen, ← hR1.len]
      exact VR_newSlice (l := ⟨w.heap.size, 0, _, _, true⟩) rfl hge (by simp) (by intro _; simp only [hcl, hzl]; exact hle) (by simp only [hCs, hzl]; exact Nat.le_refl _)
    · have : (List.take (olds ++ xs).length ((⟨ovs⟩ ++ ⟨vs⟩ ++ Builtin.zeroCells zv.cells (grownCap w (sLen + n) sCap e - (sLen + n))) : Array Value).toList) = ovs ++ vs := by
        rw [Array.toList_append, Array.toList_append]
        rw [List.take_append_of_le_length (by simp; omega), List.take_of_length_le (by simp; omega)]
      rw [this]
      exact hov.append hvs
    · exact ((Below.refl _ _).drew).alloc (by simpa using hR.base) _
  unfold aappend at hv
  simp only at hv
  split at hv
  · simp at hv
  · rename_i hz0
    split at hv
    · -- nil
      rename_i hxe
      rw [hxe] at hxv
      simp only [VR] at hxv
      split at hv
      · rename_i hn0; subst hn0
        simp only [Option.some.injEq, Prod.mk.injEq] at hv
        obtain ⟨rfl, rfl⟩ := hv
        have hr := run_append_in (P := P) (w := w) t u e d i o.type ht hu hd hi h0 h1 (base := none) (sLen := 0) (sCap := 0) hsrc (by omega)
        refine Does.pure (v' := .slice none 0 0) ?_ (by simp [VR]) hR
        rw [hex, hxv, hr]
        simp
      · rename_i hn0
        split at hv
        · rename_i hb
          simp only [Option.some.injEq, Prod.mk.injEq] at hv
          obtain ⟨rfl, rfl⟩ := hv
          have := grow none 0 0 [] [] H hxv (by omega) (by simp [VRs]) (by simp) (fun w' _ => by simp [Builtin.firstCells]) (by simpa using hb.1) (by simpa using hb.2) hR rfl
          simpa using this
        · simp at hv
    · -- a slice
      rename_i bb off len sz' c hxe
      rw [hxe] at hxv
      split at hv
      · simp at hv
      · rename_i hsz0
        have hsz1 : sz' = z.length := Classical.byContradiction hsz0
        subst hsz1
        have hxv' := hxv
        simp only [VR] at hxv
        obtain ⟨lc, ad, cap, g1, g2, g3, g4, g5, g6, g7⟩ := hxv
        split at hv
        · rename_i hn0; subst hn0
          simp only [Option.some.injEq, Prod.mk.injEq] at hv
          obtain ⟨rfl, rfl⟩ := hv
          have hr := run_append_in (P := P) (w := w) t u e d i o.type ht hu hd hi h0 h1 (base := some ad) (sLen := len) (sCap := cap) hsrc (by omega)
          have hvn : vs = [] := List.eq_nil_of_length_eq_zero (by rw [hsrc.size]; simp)
          subst hvn
          refine Does.pure (v' := .slice (some ad) len cap) ?_ ?_ hR
          · rw [hex, g2, hr]
            simp [storeCells]
          · rw [g2] at hxv'; exact hxv'
        · rename_i hn0
          split at hv
          · simp at hv
          · rename_i l hl
            split at hv
            · rename_i hin
              split at hv
              · rename_i hown
                simp only [Option.some.injEq, Prod.mk.injEq] at hv
                obtain ⟨rfl, rfl⟩ := hv
                obtain ⟨hin1, hin2⟩ := hin
                obtain ⟨ho1, ho2⟩ := hown
                obtain ⟨l', hl'⟩ := Option.isSome_iff_exists.1 ho1
                have hll : l' = l := by
                  have := ownAt_some hl'
                  simp [rowAt, this] at hl
                  exact hl
                subst hll
                obtain ⟨lc', k1, k0⟩ := hR.get (ownAt_some hl')
                rw [g1] at k1; cases k1
                obtain ⟨k2, k3⟩ := k0.ownRow
                have hlow : lc.own = true := k2.symm
                have hroom : len + n ≤ cap := by
                  cases c with
                  | some c0 => have := g5 c0 rfl; simp at hin1; omega
                  | none =>
                    have g6 := g6 rfl hlow
                    have hlen := k3.len
                    have h2 : (len + n) * z.length ≤ cap * z.length := by omega
                    exact Nat.le_of_mul_le_mul_right h2 (by omega)
                have had := g4 (by omega)
                subst had
                obtain ⟨w', m1, m2, m3, m4, m5⟩ := hR.stored (P := P) hl' g1 (off + len * z.length) hvs (by rw [hxl, ← hzl]; rw [Nat.add_mul] at hin2; omega) ho2
                have hr := run_append_in (P := P) (w := w) t u e d i o.type ht hu hd hi h0 h1 (base := some ⟨lc.b, lc.base + off, none⟩) (sLen := len) (sCap := cap) hsrc hroom
                refine ⟨ρ, w', .value (.slice (some ⟨lc.b, lc.base + off, none⟩) (len + n) cap), _, ?_, .inl rfl, Ext.refl _, ?_, m2, m3⟩
                · dsimp only at hr
                  rw [addr_add, ← hzl, Nat.add_assoc, m1] at hr
                  rw [hex, g2, hr]
                  rfl
                · simp only [VR]
                  exact ⟨lc, _, cap, g1, rfl, hroom, fun _ => rfl, g5, g6, g7⟩
              · simp at hv
            · rename_i hin
              split at hv
              · rename_i hout
                obtain ⟨hou1, hou2, hou3⟩ := hout
                obtain ⟨ovs, p1, p2, p3⟩ := hR.cellsAt hl g1 off (len * z.length) hou1
                have hof : ∀ cap', (cap' = 0 → len = 0) → (cap' ≠ 0 → ad = ⟨lc.b, lc.base + off, none⟩) → ∀ w' : World, w'.heap = w.heap → (Builtin.firstCells i.size len (.slice (some ad) len cap')).run P w' = .ok ⟨ovs⟩ w' := by
                  intro cap' c0 c1 w' hw
                  by_cases hc : cap' = 0
                  · have hl0 := c0 hc
                    subst hl0
                    have : ovs = [] := List.eq_nil_of_length_eq_zero (by rw [p1]; simp)
                    subst this
                    exact run_firstCells_some w' i.size 0 ad 0 cap' [] (by simp) (by simp)
                  · have had := c1 hc
                    subst had
                    exact run_firstCells_some w' i.size len _ len cap' ovs (by rw [p1, hzl]) (fun j u hu => by rw [cell_heap hw]; exact p3 j u hu)
                have hol : ((l.drop off).take (len * z.length)).length = len * i.size := by rw [← p2.length, p1, hzl]
                split at hv
                · rename_i c0
                  split at hv
                  · rename_i hc0
                    simp only [Option.some.injEq, Prod.mk.injEq] at hv
                    obtain ⟨rfl, rfl⟩ := hv
                    have := g5 c0 rfl
                    subst this
                    exact grow (some ad) len cap _ ovs H g2 hc0 p2 hol (hof cap (fun h => by omega) g4) hou2 hou3 hR rfl
                  · simp at hv
                · split at hv
                  · rename_i hown
                    simp only [Option.some.injEq, Prod.mk.injEq] at hv
                    obtain ⟨rfl, rfl⟩ := hv
                    obtain ⟨ho1, ho2⟩ := hown
                    obtain ⟨l', hl'⟩ := Option.isSome_iff_exists.1 ho1
                    have hll : l' = l := by
                      have := ownAt_some hl'
                      simp [rowAt, this] at hl
                      exact hl
                    subst hll
                    obtain ⟨lc', k1, k0⟩ := hR.get (ownAt_some hl')
                    rw [g1] at k1; cases k1
                    obtain ⟨k2, k3⟩ := k0.ownRow
                    have hlow : lc.own = true := k2.symm
                    by_cases hroom : len + n ≤ cap
                    · have had := g4 (by omega)
                      subst had
                      obtain ⟨hrl, C, el, fr, h3, h4, h5, h6⟩ := k3
                      obtain ⟨h7, rfl⟩ := h6 hlow
                      have g7' := g7 hlow
                      have hcap : (len + n) * z.length ≤ cap * z.length := Nat.mul_le_mul_right _ hroom
                      have hvl := hvs.length
                      have hmul : (len + n) * z.length = len * z.length + n * z.length := Nat.add_mul _ _ _
                      have hfit : lc.base + (off + len * z.length) + 0 + vs.length ≤ C.size := by rw [hvl, hxl, ← hzl]; omega
                      have hst := run_storeCells_at P lc.b (lc.base + (off + len * z.length)) el vs 0 C w h3 hfit (hvs.oneCell ho2)
                      simp only [Nat.add_zero] at hst
                      have hr := run_append_in (P := P) (w := w) t u e d i o.type ht hu hd hi h0 h1 (base := some ⟨lc.b, lc.base + off, none⟩) (sLen := len) (sCap := cap) hsrc hroom
                      dsimp only at hr
                      rw [addr_add, ← hzl, Nat.add_assoc] at hr
                      simp only [hst, Result.andThen_ok] at hr
                      have hnl : ((l'.drop off).take (len * z.length) ++ xs).length = (len + n) * z.length := by rw [List.length_append, ← p2.length, p1, hxl, hmul, hzl]
                      refine ⟨ρ ++ [⟨lc.b, lc.base + off, ((l'.drop off).take (len * z.length) ++ xs).length, lc.tot, true⟩], _, .value _, .slice (some ⟨lc.b, lc.base + off, none⟩) (len + n) cap, by rw [hex, g2, hr]; rfl, .inl rfl, Ext.one _ _, ?_, ?_, ?_⟩
                      · simp only [VR]
                        refine ⟨_, _, cap, by rw [← hR.len]; exact Ext.last _ _, rfl, hroom, fun _ => rfl, by simp, fun _ _ => by simp only [hnl]; omega, fun _ => by simp only; omega⟩
                      · refine hR.move (ownAt_some hl') rfl g1 hlow (by simp) (fun k hk => setRow_other w _ k _ hk) rfl ?_
                        refine ⟨rfl, rfl, fun _ => ⟨rfl, _, el, (0, 0), setRow_heap w lc.b C _ el _ h3, ?_, ?_, ?_⟩⟩
                        · simp only [hnl]
                          simp
                          omega
                        · refine VRs.mono (Ext.one _ _) _ _ ?_
                          have h8 := (h5.drop off).take (len * z.length)
                          have h9 := h8.append hvs
                          have hCl : lc.base + lc.len ≤ C.toList.length := by simpa using h4
                          have hvl2 : vs.length = n * z.length := by rw [hvl, hxl, hzl]
                          rw [show List.take (List.take (len * z.length) (List.drop off l') ++ xs).length (List.drop (lc.base + off) (C.toList.take (lc.base + (off + len * z.length)) ++ vs ++ C.toList.drop (lc.base + (off + len * z.length) + vs.length)).toArray.toList) =
                            ((C.toList.drop lc.base).take lc.len |>.drop off).take (len * z.length) ++ vs from ?_]
                          · exact h9
                          · rw [hnl]
                            apply List.ext_getElem?
                            intro j
                            simp only [List.getElem?_take, List.getElem?_drop, List.getElem?_append, List.length_take, List.length_drop, List.length_append]
                            have hol1 : off + len * z.length ≤ lc.len := by rw [← hrl]; exact hou1
                            by_cases hj : j < len * z.length
                            · simp only [show j < (len + n) * z.length by omega, if_true]
                              rw [if_pos (by omega), if_pos (by omega), if_pos (by omega), if_pos (by omega), if_pos (by omega), if_pos (by omega)]
                              congr 1
                              omega
                            · by_cases hj2 : j < (len + n) * z.length
                              · simp only [hj2, if_true]
                                rw [if_pos (by omega), if_neg (by omega), if_neg (by omega)]
                                congr 1
                                omega
                              · simp only [hj2, if_false]
                                rw [if_neg (by omega), List.getElem?_eq_none (by omega)]
                        · intro _
                          refine ⟨?_, rfl⟩
                          simp
                          omega
                      · have hb := hR.own bb _ lc (ownAt_some hl') rfl g1 hlow
                        exact ⟨rfl, rfl, rfl, by simp, fun k hk => setRow_other w _ k _ (by omega)⟩
                    · exact grow (some ad) len cap _ ovs (H.set bb .dead) g2 (by omega) p2 hol (hof cap (fun h => by omega) g4) hou2 hou3 (hR.kill bb) (by simp)
                  · simp at hv
              · simp at hv
    · simp at hv

end
end Go.AM
namespace Go.AM
open Go.RowKit
section
variable {P : Program} {B : Nat} {ρ : RL} {H : AH} {w : World} {a : Act} {s : Sl} {o : Oper}

theorem cods_cons {l : List Operand} {y : Od} {ys : List Od} (h : cods l = some (y :: ys)) : ∃ x r, l = x :: r ∧ cod x = some y ∧ cods r = some ys := by
  cases l with
  | nil => simp [cods] at h
  | cons x r =>
    unfold cods at h
    split at h <;> simp at h
    rename_i h1 h2
    obtain ⟨rfl, rfl⟩ := h
    exact ⟨x, r, rfl, h1, h2⟩

theorem cods_nil {l : List Operand} (h : cods l = some []) : l = [] := by
  cases l with
  | nil => rfl
  | cons x r =>
    unfold cods at h
    split at h <;> simp at h

theorem cods_one {l : List Operand} {y : Od} (h : cods l = some [y]) : ∃ x, l = [x] ∧ cod x = some y := by
  obtain ⟨x, r, rfl, h1, h2⟩ := cods_cons h
  have := cods_nil h2
  subst this
  exact ⟨x, rfl, h1⟩

theorem cods_two {l : List Operand} {y z : Od} (h : cods l = some [y, z]) : ∃ x u, l = [x, u] ∧ cod x = some y ∧ cod u = some z := by
  obtain ⟨x, r, rfl, h1, h2⟩ := cods_cons h
  obtain ⟨u, rfl, h3⟩ := cods_one h2
  exact ⟨x, u, rfl, h1, h3⟩

set_option maxHeartbeats 1000000 in
theorem aop_sound {call : Call} {k : K} {v : AV} {H' : AH} (hc : cop P o.op = some k) (hk : isCall k = false) (hv : aop call s H k = some (v, H')) (hs : VRs ρ s a.tmps.toList) (hR : RH B ρ H w) : Does P B ρ w (execOp a.eval o) v H' := by
  cases ho : o.op <;> rw [ho] at hc <;> simp only [cop, reduceCtorEq] at hc
  case move x =>
    cases hx : cod x <;> simp [hx] at hc
    subst hc
    simp only [aop, Option.some.injEq, Prod.mk.injEq] at hv
    obtain ⟨rfl, rfl⟩ := hv
    exact sim_mv (.inl ho) hx hs hR
  case assign x =>
    cases hx : cod x <;> simp [hx] at hc
    subst hc
    simp only [aop, Option.some.injEq, Prod.mk.injEq] at hv
    obtain ⟨rfl, rfl⟩ := hv
    exact sim_mv (.inr ho) hx hs hR
  case pick c x y =>
    split at hc <;> simp at hc
    subst hc
    rename_i h1 h2 h3
    simp only [aop] at hv
    split at hv <;> simp at hv
    obtain ⟨rfl, rfl⟩ := hv
    rename_i hb
    exact sim_pick ho h1 h2 h3 hs hR hb
  case alloc t =>
    cases hz : zcells P t <;> simp [hz] at hc
    subst hc
    simp only [aop, Option.some.injEq, Prod.mk.injEq] at hv
    obtain ⟨rfl, rfl⟩ := hv
    exact sim_alloc ho hz hR
  case box t x =>
    cases hx : cod x <;> simp [hx] at hc
    subst hc
    simp only [aop, Option.some.injEq, Prod.mk.injEq] at hv
    obtain ⟨rfl, rfl⟩ := hv
    exact sim_box ho hx hs hR
  case build t ps =>
    split at hc
    · rename_i fs z hu hz
      split at hc <;> simp at hc
      rename_i hall
      obtain ⟨qs, hq, rfl⟩ := hc
      simp only [aop, Option.map_eq_some_iff, Prod.mk.injEq] at hv
      obtain ⟨l, hl, rfl, rfl⟩ := hv
      exact sim_buildS ho hu hz hall hq hs hR hl
    · rename_i n e z hu hz
      split at hc <;> simp at hc
      rename_i i hi
      obtain ⟨qs, hq, rfl⟩ := hc
      simp only [aop, Option.map_eq_some_iff, Prod.mk.injEq] at hv
      obtain ⟨l, hl, rfl, rfl⟩ := hv
      exact sim_buildA ho hu hz hi hq hs hR hl
    · simp at hc
  case buildSlice t n ps =>
    split at hc <;> try (simp at hc; done)
    rename_i e hu
    split at hc <;> try (simp at hc; done)
    rename_i i z hi hz
    split at hc <;> try (simp at hc; done)
    rename_i hcc
    simp only [Option.map_eq_some_iff] at hc
    obtain ⟨qs, hq, rfl⟩ := hc
    simp only [aop, Option.map_eq_some_iff, Prod.mk.injEq] at hv
    obtain ⟨l, hl, rfl, rfl⟩ := hv
    exact sim_lit ho hu hz hi hcc hq hs hR hl
  case load t x =>
    split at hc <;> simp at hc
    · rename_i hp hx
      subst hc
      simp only [aop] at hv
      split at hv <;> try (simp at hv; done)
      rename_i b off hb
      split at hv <;> try (simp at hv; done)
      rename_i l hl
      simp only [Option.map_eq_some_iff, Prod.mk.injEq] at hv
      obtain ⟨v', hv', rfl, rfl⟩ := hv
      exact sim_load1 ho hp hx hs hR hb hl hv'
    · rename_i n hp hx
      subst hc
      simp only [aop] at hv
      split at hv <;> try (simp at hv; done)
      rename_i b off hb
      split at hv <;> try (simp at hv; done)
      rename_i l hl
      split at hv <;> try (simp at hv; done)
      rename_i hn
      simp only [Option.some.injEq, Prod.mk.injEq] at hv
      obtain ⟨rfl, rfl⟩ := hv
      exact sim_loadA ho hp hx hs hR hb hl hn
  case store t x y =>
    split at hc <;> simp at hc
    rename_i hi hx hy
    subst hc
    simp only [aop] at hv
    split at hv <;> try (simp at hv; done)
    rename_i b off hb
    split at hv <;> try (simp at hv; done)
    rename_i l hl
    split at hv <;> try (simp at hv; done)
    rename_i hn
    simp only [Option.some.injEq, Prod.mk.injEq] at hv
    obtain ⟨rfl, rfl⟩ := hv
    exact sim_store ho hi hx hy hs hR hb hl hn.1 hn.2.1 hn.2.2
  case nilCheck x =>
    cases hx : cod x <;> simp [hx] at hc
    subst hc
    simp only [aop] at hv
    split at hv <;> try (simp at hv; done)
    · rename_i b off hb
      simp only [Option.some.injEq, Prod.mk.injEq] at hv
      obtain ⟨rfl, rfl⟩ := hv
      rw [← hb]
      exact sim_chk ho hx hs hR (.inl ⟨b, off, hb⟩)
    · rename_i b off hb
      simp only [Option.some.injEq, Prod.mk.injEq] at hv
      obtain ⟨rfl, rfl⟩ := hv
      rw [← hb]
      exact sim_chk ho hx hs hR (.inr ⟨b, off, hb⟩)
  case binOp op t x y u =>
    split at hc <;> try (simp at hc; done)
    rename_i x' y' d hx hy hd
    have hbin : ∀ op, (aop call s H (.bin op x' y') = some (v, H')) → o.op = .binOp op t x y u → Does P B ρ w (execOp a.eval o) v H' := by
      intro op hv ho
      simp only [aop, Option.map_eq_some_iff, Prod.mk.injEq] at hv
      obtain ⟨r, hr, rfl, rfl⟩ := hv
      exact sim_bin ho hx hy hs hR hr
    split at hc
    · split at hc <;> simp only [Option.some.injEq] at hc <;> subst hc
      · rename_i e he
        simp only [aop, Option.map_eq_some_iff, Prod.mk.injEq] at hv
        obtain ⟨r, hr, rfl, rfl⟩ := hv
        exact sim_eqv (neg := false) ho rfl hd he hx hy hs hR hr
      · exact hbin _ hv ho
    · split at hc <;> simp only [Option.some.injEq] at hc <;> subst hc
      · rename_i e he
        simp only [aop, Option.map_eq_some_iff, Prod.mk.injEq] at hv
        obtain ⟨r, hr, rfl, rfl⟩ := hv
        exact sim_eqv (neg := true) ho rfl hd he hx hy hs hR hr
      · exact hbin _ hv ho
    · simp only [Option.some.injEq] at hc; subst hc
      exact hbin _ hv ho
  case unOp op t x =>
    cases hx : cod x <;> simp [hx] at hc
    subst hc
    simp only [aop, Option.map_eq_some_iff, Prod.mk.injEq] at hv
    obtain ⟨r, hr, rfl, rfl⟩ := hv
    exact sim_un ho hx hs hR hr
  case convert src dst x =>
    split at hc
    · rename_i d k x' hd hk' hx
      simp only [Option.some.injEq] at hc; subst hc
      simp only [aop] at hv
      split at hv <;> simp at hv
      rename_i hb
      obtain ⟨rfl, rfl⟩ := hv
      exact sim_convI ho hd hk' hx hs hR hb
    · rename_i e x' hd hk' hx
      split at hc <;> simp at hc
      rename_i he
      subst hc
      simp only [aop] at hv
      split at hv <;> try (simp at hv; done)
      rename_i l hl
      split at hv <;> try (simp at hv; done)
      rename_i hns
      simp only [Option.map_eq_some_iff, Prod.mk.injEq] at hv
      obtain ⟨b, hb, rfl, rfl⟩ := hv
      exact sim_convS ho hd hk' he hx hs hR hl (fun t ht => hns t ht) hb
    · rename_i d x' _ hd hk' hx
      simp only [Option.some.injEq] at hc; subst hc
      simp only [aop] at hv
      split at hv <;> simp at hv
      rename_i hb
      obtain ⟨rfl, rfl⟩ := hv
      exact sim_same ho hd hk' hx hs hR hb
    · simp at hc
  case makeSlice t l c =>
    split at hc <;> try (simp at hc; done)
    rename_i e hu
    split at hc <;> try (simp at hc; done)
    rename_i i z l' c' hi hz hl hcc
    split at hc <;> simp at hc
    rename_i hzz
    subst hc
    simp only [aop] at hv
    split at hv <;> try (simp at hv; done)
    rename_i h1 h2
    split at hv <;> simp at hv
    rename_i hb
    obtain ⟨rfl, rfl⟩ := hv
    exact sim_mkS ho hu hi hz hzz.1 hzz.2 hl hcc hs hR h1 h2 hb
  case makeMap t r =>
    cases r with
    | some _ => simp at hc
    | none =>
      simp only [Option.some.injEq] at hc; subst hc
      simp only [aop, Option.some.injEq, Prod.mk.injEq] at hv
      obtain ⟨rfl, rfl⟩ := hv
      exact sim_mkM ho hR
  case slice t x lo hi mx =>
    split at hc
    · rename_i e x' lo' hi' mx' hu hx h1 h2 h3
      split at hc <;> try (simp at hc; done)
      rename_i i hi0
      split at hc <;> try (simp at hc; done)
      rename_i hmm
      simp only [Option.some.injEq] at hc; subst hc
      have hm : mx'.isSome = true → hi'.isSome = true := by
        intro h
        cases hi' with
        | none => simp [h] at hmm
        | some _ => rfl
      simp only [aop] at hv
      split at hv
      · rename_i hb
        split at hv <;> try (simp at hv; done)
        rename_i m b1
        split at hv <;> try (simp at hv; done)
        rename_i h b2
        split at hv <;> try (simp at hv; done)
        rename_i l b3
        simp only [Option.some.injEq, Prod.mk.injEq] at hv
        obtain ⟨rfl, rfl⟩ := hv
        exact sim_slNil ho hu hi0 hx h1 h2 h3 hm hs hR hb b1 b2 b3
      · rename_i b off len sz c hb
        split at hv <;> try (simp at hv; done)
        rename_i hsz
        have hsz : sz = i.size := Classical.byContradiction hsz
        subst hsz
        split at hv <;> try (simp at hv; done)
        rename_i m b1
        split at hv <;> try (simp at hv; done)
        rename_i h b2
        split at hv <;> try (simp at hv; done)
        rename_i l b3
        simp only [Option.some.injEq, Prod.mk.injEq] at hv
        obtain ⟨rfl, rfl⟩ := hv
        exact sim_slS ho hu hi0 hx h1 h2 h3 hm hs hR hb b1 b2 b3
      · simp at hv
    · rename_i x' lo' hi' hu hx h1 h2 h3
      have := codo_none h3
      subst this
      simp only [Option.some.injEq] at hc; subst hc
      simp only [aop] at hv
      split at hv <;> try (simp at hv; done)
      rename_i b hb
      split at hv <;> try (simp at hv; done)
      rename_i h b2
      split at hv <;> try (simp at hv; done)
      rename_i l b3
      simp only [Option.some.injEq, Prod.mk.injEq] at hv
      obtain ⟨rfl, rfl⟩ := hv
      exact sim_slT ho hu hx h1 h2 hs hR hb b2 b3
    · simp at hc
  case fieldAddr t x f =>
    split at hc <;> try (simp at hc; done)
    rename_i fs x' hu hx
    split at hc <;> try (simp at hc; done)
    rename_i fd hf
    split at hc <;> try (simp at hc; done)
    rename_i i hi
    split at hc <;> simp at hc
    rename_i hz
    subst hc
    simp only [aop] at hv
    split at hv <;> simp at hv
    rename_i hb
    obtain ⟨rfl, rfl⟩ := hv
    exact sim_fAddr ho hu hf hi hz hx hs hR hb
  case field t x f =>
    split at hc <;> try (simp at hc; done)
    rename_i fs x' hu hx
    split at hc <;> simp at hc
    rename_i fd hf
    obtain ⟨n, hp, rfl⟩ := hc
    simp only [aop] at hv
    split at hv <;> try (simp at hv; done)
    rename_i l hb
    simp only [Option.map_eq_some_iff, Prod.mk.injEq] at hv
    obtain ⟨u, hu', rfl, rfl⟩ := hv
    exact sim_fld ho hu hf hp hx hs hR hb hu'
  case indexAddr t x i =>
    split at hc <;> simp at hc
    · rename_i e x' i' hu hx hi
      obtain ⟨j, hj, rfl⟩ := hc
      simp only [aop] at hv
      split at hv <;> try (simp at hv; done)
      rename_i b off len sz c k n hb hn
      split at hv <;> simp at hv
      rename_i hcc
      obtain ⟨rfl, rfl⟩ := hv
      obtain ⟨c1, c2, rfl⟩ := hcc
      exact sim_iAddr ho hu hj hx hi hs hR hb hn ⟨c1, c2⟩
    · rename_i len e x' i' hu hx hi
      obtain ⟨j, hj, rfl⟩ := hc
      simp only [aop] at hv
      split at hv <;> try (simp at hv; done)
      rename_i b off k n hb hn
      split at hv <;> simp at hv
      rename_i hcc
      obtain ⟨rfl, rfl⟩ := hv
      exact sim_iAddrA ho hu hj hx hi hs hR hb hn hcc
  case index t x i =>
    split at hc
    · rename_i len e x' i' hu hx hi
      split at hc <;> simp at hc
      rename_i j n hj hp
      subst hc
      simp only [aop] at hv
      split at hv <;> try (simp at hv; done)
      rename_i l k m hb hn
      split at hv <;> try (simp at hv; done)
      rename_i hcc
      simp only [Option.map_eq_some_iff, Prod.mk.injEq] at hv
      obtain ⟨u, hu', rfl, rfl⟩ := hv
      exact sim_idxA ho hu hj hp hx hi hs hR hb hn hcc hu'
    · rename_i x' i' hu hx hi
      simp only [Option.some.injEq] at hc; subst hc
      simp only [aop] at hv
      split at hv <;> try (simp at hv; done)
      rename_i l k m hb hn
      split at hv <;> try (simp at hv; done)
      rename_i hcc
      simp only [Option.map_eq_some_iff, Prod.mk.injEq] at hv
      obtain ⟨u, hu', rfl, rfl⟩ := hv
      exact sim_idxS ho hu hx hi hs hR hb hn hcc hu'
    · simp at hc
  case lookup t m k ok =>
    split at hc <;> try (simp at hc; done)
    rename_i kt e m' k' hu hm hk'
    split at hc <;> try (simp at hc; done)
    rename_i kk i hkk hi
    split at hc <;> simp at hc
    rename_i z hz
    obtain ⟨za, hza, rfl⟩ := hc
    simp only [aop] at hv
    split at hv
    · rename_i hmm
      split at hv <;> simp at hv
      rename_i hf
      obtain ⟨rfl, rfl⟩ := hv
      exact sim_lookNil ho hu hkk hi hz hza hm hk' hs hR hmm hf
    · rename_i b hmm
      split at hv <;> try (simp at hv; done)
      rename_i es hes
      split at hv <;> try (simp at hv; done)
      rename_i hf
      simp only [Option.map_eq_some_iff, Prod.mk.injEq] at hv
      obtain ⟨r, hr, rfl, rfl⟩ := hv
      have := sim_look ho hu hkk hi hz hza hm hk' hs hR hmm hes hf hr
      cases r with
      | none => exact this
      | some r => exact this
    · simp at hv
  case mapUpdate t m k v' =>
    split at hc <;> simp at hc
    rename_i kt e m' k' v'' hu hm hk' hv'
    obtain ⟨kk, hkk, rfl⟩ := hc
    simp only [aop] at hv
    split at hv <;> try (simp at hv; done)
    rename_i b hmm
    split at hv <;> try (simp at hv; done)
    rename_i es hes
    split at hv <;> try (simp at hv; done)
    rename_i hf
    split at hv
    · rename_i i u hr
      simp only [Option.some.injEq, Prod.mk.injEq] at hv
      obtain ⟨rfl, rfl⟩ := hv
      exact sim_mset ho hu hkk hm hk' hv' hs hR hmm hes hf hr
    · rename_i hr
      simp only [Option.some.injEq, Prod.mk.injEq] at hv
      obtain ⟨rfl, rfl⟩ := hv
      exact sim_mset ho hu hkk hm hk' hv' hs hR hmm hes hf hr
    · simp at hv
  case extract x i =>
    cases hx : cod x <;> simp [hx] at hc
    subst hc
    simp only [aop] at hv
    split at hv <;> try (simp at hv; done)
    rename_i l hb
    simp only [Option.map_eq_some_iff, Prod.mk.injEq] at hv
    obtain ⟨u, hu', rfl, rfl⟩ := hv
    exact sim_ext ho hx hs hR hb hu'
  case makeFunc fn first cs =>
    cases fn <;> simp only [reduceCtorEq] at hc
    split at hc <;> simp at hc
    rename_i hf
    obtain ⟨ys, hys, rfl⟩ := hc
    simp only [aop, Option.some.injEq, Prod.mk.injEq] at hv
    obtain ⟨rfl, rfl⟩ := hv
    exact sim_mkF ho hf hys hs hR
  case makeInterface t x =>
    split at hc <;> try (simp at hc; done)
    rename_i d x' hn hd hx
    simp only [Option.some.injEq] at hc; subst hc
    simp only [aop, Option.some.injEq, Prod.mk.injEq] at hv
    obtain ⟨rfl, rfl⟩ := hv
    exact sim_mkI ho hd (fun m hm => hn m hm) hx hs hR
  case call c =>
    obtain ⟨callee, args, ats⟩ := c
    dsimp only at hc
    split at hc
    · simp only [Option.some.injEq] at hc; subst hc; simp [isCall] at hk
    · obtain ⟨y, hf, rfl⟩ := Option.map_eq_some_iff.1 hc
      simp [isCall] at hk
    · rename_i x y hxs
      split at hc <;> try (simp at hc; done)
      rename_i t u h0 h1
      split at hc <;> try (simp at hc; done)
      rename_i e d ht hu
      split at hc <;> try (simp at hc; done)
      rename_i i z hi hz
      split at hc <;> simp at hc
      rename_i hzz
      obtain ⟨hzl, rfl⟩ := hc
      obtain ⟨p, q, hpq, hp, hq⟩ := cods_two hxs
      have ha : args = #[p, q] := Array.ext' hpq
      subst ha
      simp only [aop] at hv
      split at hv <;> try (simp at hv; done)
      rename_i xs n hs1 hs2
      exact sim_app ho h0 h1 ht hu (fun k' hk' => hzz k' hk') hi hz hzl hp hq hs hR hs1 hs2 hv
    · rename_i x hxs
      obtain ⟨p, hpq, hp⟩ := cods_one hxs
      have ha : args = #[p] := Array.ext' hpq
      subst ha
      split at hc <;> try (simp at hc; done)
      rename_i t h0
      split at hc <;> simp only [Option.some.injEq, reduceCtorEq] at hc
      · rename_i e ht
        subst hc
        simp only [aop] at hv
        split at hv <;> simp at hv
        · rename_i hb
          obtain ⟨rfl, rfl⟩ := hv
          exact sim_lenS (n := 0) ⟨ats, ho, h0⟩ ht hp hs hR (.inl ⟨hb, rfl⟩)
        · rename_i b off n sz c hb
          obtain ⟨rfl, rfl⟩ := hv
          exact sim_lenS ⟨ats, ho, h0⟩ ht hp hs hR (.inr ⟨b, off, sz, c, hb⟩)
      · rename_i ht
        subst hc
        simp only [aop] at hv
        split at hv <;> simp at hv
        rename_i b hb
        obtain ⟨rfl, rfl⟩ := hv
        exact sim_lenT ⟨ats, ho, h0⟩ ht hp hs hR hb
      · rename_i kt e ht
        subst hc
        simp only [aop] at hv
        split at hv
        · rename_i hb
          simp only [Option.some.injEq, Prod.mk.injEq] at hv
          obtain ⟨rfl, rfl⟩ := hv
          exact sim_lenN ⟨ats, ho, h0⟩ ht hp hs hR hb
        · rename_i b hb
          simp only [Option.map_eq_some_iff, Prod.mk.injEq] at hv
          obtain ⟨es, hes, rfl, rfl⟩ := hv
          exact sim_lenM ⟨ats, ho, h0⟩ ht hp hs hR hb hes
        · simp at hv
    · rename_i xs hxs
      simp only [Option.some.injEq] at hc; subst hc
      simp only [aop, Option.map_eq_some_iff, Prod.mk.injEq] at hv
      obtain ⟨r, hr, rfl, rfl⟩ := hv
      exact sim_mm (mx := false) ho hxs hs hR hr
    · rename_i xs hxs
      simp only [Option.some.injEq] at hc; subst hc
      simp only [aop, Option.map_eq_some_iff, Prod.mk.injEq] at hv
      obtain ⟨r, hr, rfl, rfl⟩ := hv
      exact sim_mm (mx := true) ho hxs hs hR hr
    · simp at hc

end
end Go.AM
namespace Go.AM

theorem sub2_trans {l : List Nat} (hn : l.Nodup) {a b c : Nat} (h1 : [a, b].Sublist l) (h2 : [b, c].Sublist l) : [a, c].Sublist l := by
  induction l with
  | nil => cases h1
  | cons x l ih =>
    have hx := (List.nodup_cons.1 hn).1
    have hl := (List.nodup_cons.1 hn).2
    cases h1 with
    | cons _ h1 =>
      cases h2 with
      | cons _ h2 => exact (ih hl h1 h2).cons _
      | cons_cons _ h2 =>
        exact (hx (h1.subset (by simp))).elim
    | cons_cons _ h1 =>
      cases h2 with
      | cons _ h2 => exact List.Sublist.cons_cons _ (List.singleton_sublist.2 (h2.subset (by simp)))
      | cons_cons _ h2 => exact List.Sublist.cons_cons _ h2

theorem sub2_anti {l : List Nat} (hn : l.Nodup) {a b : Nat} (h1 : [a, b].Sublist l) (h2 : [b, a].Sublist l) : False := by
  have := sub2_trans hn h1 h2
  have h3 : [a, a].Nodup := hn.sublist this
  simp at h3

theorem sub2_total {l : List Nat} {a b : Nat} (ha : a ∈ l) (hb : b ∈ l) (hab : a ≠ b) : [a, b].Sublist l ∨ [b, a].Sublist l := by
  induction l with
  | nil => cases ha
  | cons x l ih =>
    rcases List.mem_cons.1 ha with rfl | ha'
    · rcases List.mem_cons.1 hb with h | hb'
      · exact (hab h.symm).elim
      · exact .inl (List.Sublist.cons_cons _ (List.singleton_sublist.2 hb'))
    · rcases List.mem_cons.1 hb with rfl | hb'
      · exact .inr (List.Sublist.cons_cons _ (List.singleton_sublist.2 ha'))
      · exact (ih ha' hb').imp (·.cons _) (·.cons _)

inductive Grow (n : Nat) (p : Nat → Nat → Prop) : List Nat → List Nat → Prop
  | nil (d : List Nat) : Grow n p d []
  | cons {d : List Nat} {i : Nat} {l : List Nat} (hi : i < n) (hd : i ∉ d) (hp : ∀ j, p j i → j ∈ d) (h : Grow n p (i :: d) l) : Grow n p d (i :: l)

theorem Grow.spec {n : Nat} {p : Nat → Nat → Prop} {d l : List Nat} (h : Grow n p d l) : l.Nodup ∧ (∀ i ∈ l, i < n ∧ i ∉ d) ∧ ∀ i ∈ l, ∀ j, p j i → j ∈ d ∨ [j, i].Sublist l := by
  induction h with
  | nil d => exact ⟨List.nodup_nil, by simp, by simp⟩
  | @cons d i l hi hd hp h ih =>
    obtain ⟨h1, h2, h3⟩ := ih
    refine ⟨List.nodup_cons.2 ⟨fun hm => (h2 i hm).2 (by simp), h1⟩, ?_, ?_⟩
    · intro x hx
      rcases List.mem_cons.1 hx with rfl | hx
      · exact ⟨hi, hd⟩
      · exact ⟨(h2 x hx).1, fun hh => (h2 x hx).2 (by simp [hh])⟩
    · intro x hx j hj
      rcases List.mem_cons.1 hx with rfl | hx1
      · exact .inl (hp j hj)
      · rcases h3 x hx1 j hj with h4 | h4
        · rcases List.mem_cons.1 h4 with rfl | h4
          · exact .inr (List.Sublist.cons_cons _ (List.singleton_sublist.2 hx1))
          · exact .inl h4
        · exact .inr (h4.cons _)

def isReady (prec : List (Nat × Nat)) (d : List Nat) (i : Nat) : Bool := !d.contains i && prec.all fun e => e.2 != i || d.contains e.1

def topoGo (n : Nat) (prec : List (Nat × Nat)) : Nat → List Nat → List Nat × Bool
  | 0, _ => ([], false)
  | f + 1, d => match (List.range n).find? (isReady prec d) with
    | some i => let r := topoGo n prec f (i :: d); (i :: r.1, r.2)
    | none => ([], true)

def topo (n : Nat) (prec : List (Nat × Nat)) : List Nat × Bool := topoGo n prec (n + 1) []

def full (n : Nat) (l : List Nat) : Bool := (List.range n).all fun i => l.contains i

theorem isReady_spec {prec : List (Nat × Nat)} {d : List Nat} {i : Nat} : isReady prec d i = true ↔ i ∉ d ∧ ∀ j, (j, i) ∈ prec → j ∈ d := by
  simp only [isReady, Bool.and_eq_true, Bool.not_eq_true', List.all_eq_true, Bool.or_eq_true]
  constructor
  · rintro ⟨h1, h2⟩
    refine ⟨by simpa using h1, fun j hj => ?_⟩
    have := h2 (j, i) hj
    simpa using this
  · rintro ⟨h1, h2⟩
    refine ⟨by simpa using h1, fun e he => ?_⟩
    by_cases hei : e.2 = i
    · right
      simpa using h2 e.1 (by rw [← hei]; exact he)
    · left; simpa using hei

theorem topoGo_grow {n : Nat} {prec : List (Nat × Nat)} : ∀ (f : Nat) (d : List Nat), Grow n (fun j i => (j, i) ∈ prec) d (topoGo n prec f d).1
  | 0, d => Grow.nil d
  | f + 1, d => by
    simp only [topoGo]
    split
    · rename_i i hi
      have h1 := List.find?_some hi
      have h2 := List.mem_of_find?_eq_some hi
      rw [isReady_spec] at h1
      exact Grow.cons (by simpa using h2) h1.1 (fun j hj => h1.2 j hj) (topoGo_grow f _)
    · exact Grow.nil d

theorem topoGo_stuck {n : Nat} {prec : List (Nat × Nat)} : ∀ (f : Nat) (d : List Nat), (topoGo n prec f d).2 = true → ∀ i, i < n → i ∉ d → i ∉ (topoGo n prec f d).1 → ∃ j, (j, i) ∈ prec ∧ j ∉ d ∧ j ∉ (topoGo n prec f d).1
  | 0, d, h => by simp [topoGo] at h
  | f + 1, d, h => by
    simp only [topoGo] at h ⊢
    split
    · rename_i i hi
      simp only [hi] at h
      intro k hk hd hl
      have ih := topoGo_stuck f (i :: d) h k hk (by
        intro hm
        rcases List.mem_cons.1 hm with rfl | hm
        · exact hl (by simp)
        · exact hd hm) (fun hm => hl (by simp [hm]))
      obtain ⟨j, h1, h2, h3⟩ := ih
      refine ⟨j, h1, fun hm => h2 (by simp [hm]), fun hm => ?_⟩
      rcases List.mem_cons.1 hm with rfl | hm
      · exact h2 (by simp)
      · exact h3 hm
    · rename_i hi
      intro k hk hd _
      have h1 := List.find?_eq_none.1 hi k (by simpa using hk)
      rw [isReady_spec] at h1
      rcases Classical.em (∃ j, (j, k) ∈ prec ∧ j ∉ d) with ⟨j, h2, h3⟩ | hne
      · exact ⟨j, h2, h3, by simp⟩
      · exact (h1 ⟨hd, fun j hj => Classical.byContradiction fun hjd => hne ⟨j, hj, hjd⟩⟩).elim

theorem topo_full {n : Nat} {prec : List (Nat × Nat)} {l : List Nat} (hn : l.Nodup) (hall : ∀ i, i < n → i ∈ l) (hlt : ∀ i ∈ l, i < n) (hp : ∀ j i, (j, i) ∈ prec → i < n → [j, i].Sublist l) (hend : (topo n prec).2 = true) : full n (topo n prec).1 = true := by
  simp only [full, List.all_eq_true, List.mem_range]
  intro i hi
  have key : ∀ l' : List Nat, l'.Sublist l → (∀ i ∈ l, i ∉ l' → i ∈ (topo n prec).1 ∨ ∀ x ∈ l', [x, i].Sublist l) → (∀ x ∈ l', ∀ j, (j, x) ∈ prec → j ∈ (topo n prec).1 ∨ j ∈ l' ) → ∀ x ∈ l', x ∈ (topo n prec).1 := by
    intro l'
    induction l' with
    | nil => intro _ _ _ x hx; cases hx
    | cons y r ih =>
      intro h1 h2 h3
      have hy : y ∈ (topo n prec).1 := by
        refine Classical.byContradiction fun hy => ?_
        have hym : y ∈ l := h1.subset (by simp)
        obtain ⟨j, g1, g2, g3⟩ := topoGo_stuck (n + 1) [] hend y (hlt y hym) (by simp) hy
        rcases h3 y (by simp) j g1 with h4 | h4
        · exact g3 h4
        · have g4 := hp j y g1 (hlt y hym)
          rcases List.mem_cons.1 h4 with rfl | h5
          · exact sub2_anti hn g4 g4
          · have : [y, j].Sublist l := (List.Sublist.cons_cons y (List.singleton_sublist.2 h5)).trans h1
            exact sub2_anti hn g4 this
      intro x hx
      rcases List.mem_cons.1 hx with rfl | hx
      · exact hy
      · refine ih ((List.sublist_cons_self y r).trans h1) ?_ ?_ x hx
        · intro i hi hir
          by_cases hiy : i = y
          · subst hiy; exact .inl hy
          · rcases h2 i hi (by simp [hiy, hir]) with h4 | h4
            · exact .inl h4
            · exact .inr fun x hx => h4 x (by simp [hx])
        · intro x hx j hj
          rcases h3 x (by simp [hx]) j hj with h4 | h4
          · exact .inl h4
          · rcases List.mem_cons.1 h4 with rfl | h4
            · exact .inl hy
            · exact .inr h4
  have := key l (List.Sublist.refl l) (fun i hi hni => (hni hi).elim) (fun x hx j hj => .inr ((hp j x hj (hlt x hx)).subset (by simp))) i (hall i hi)
  simpa using this

def asg : List (Nat × Nat) → List (List (Nat × Nat))
  | [] => [[]]
  | (i, j) :: c => (asg c).flatMap fun a => [(i, j) :: a, (j, i) :: a]

theorem asg_mem (P : Nat → Nat → Prop) [∀ i j, Decidable (P i j)] : ∀ c : List (Nat × Nat), (c.map fun e => if P e.1 e.2 then (e.1, e.2) else (e.2, e.1)) ∈ asg c
  | [] => by simp [asg]
  | (i, j) :: c => by
    simp only [asg, List.map_cons, List.mem_flatMap]
    refine ⟨_, asg_mem P c, ?_⟩
    by_cases h : P i j <;> simp [h]

end Go.AM
namespace Go.AM
open Go.RowKit

def badK : K := .same (.c .nilp)

def cso (P : Program) (ops : Array Oper) (o : Oper) : SO :=
  { dst := o.dst, k := (cop P o.op).getD badK, guard := match o.guard with | none => none | some (j, w) => some ((ops[j]?).bind (·.dst), w) }



inductive Cls where | pure | read | alloc | loud
  deriving DecidableEq

def cls : K → Cls
  | .mv _ | .pick .. | .build .. | .chk _ | .bin .. | .eqv .. | .un .. | .convI .. | .same _ | .slS .. | .slT .. | .fAddr .. | .fld .. | .iAddr .. | .iAddrA .. | .idxA .. | .idxS .. | .ext .. | .lenS _ | .lenT _ | .min _ | .max _ | .mkF .. | .mkI .. => .pure
  | .load1 _ | .loadA .. | .convS _ | .look .. | .lenM _ => .read
  | .alloc _ | .box _ | .lit .. | .mkS .. | .mkM => .alloc
  | _ => .loud

def readsO : Od → List Nat
  | .t i => [i]
  | .c _ => []
def readsOo : Option Od → List Nat
  | some x => readsO x
  | none => []

def readsK : K → List Nat
  | .mv x | .box x | .load1 x | .loadA _ x | .chk x | .un _ x | .convI _ x | .convS x | .same x | .fAddr _ x | .fld _ _ x | .ext _ x | .lenS x | .lenT x | .lenM x | .mkI _ x => readsO x
  | .pick a b c | .mset _ a b c => readsO a ++ readsO b ++ readsO c
  | .alloc _ | .mkM => []
  | .build _ ps | .lit _ _ _ ps => ps.flatMap fun p => readsO p.2.2
  | .store _ a x | .bin _ a x | .eqv _ _ a x | .mkS _ _ a x | .iAddr _ a x | .iAddrA _ _ a x | .idxA _ _ _ a x | .idxS a x | .look _ _ _ a x | .app _ _ a x | .copy _ a x | .del a x => readsO a ++ readsO x
  | .slS _ x l h m => readsO x ++ readsOo l ++ readsOo h ++ readsOo m
  | .slT x l h => readsO x ++ readsOo l ++ readsOo h
  | .callF _ xs | .min xs | .max xs | .mkF _ xs => xs.flatMap readsO
  | .callV f xs => readsO f ++ xs.flatMap readsO

def readsS (o : SO) : List Nat := readsK o.k ++ (match o.guard with | some (some t, _) => [t] | _ => [])

def mayS (x y : SO) : Bool :=
  (match x.dst with | some d => !(readsS y).contains d && y.dst != some d | none => true) &&
  (match y.dst with | some d => !(readsS x).contains d | none => true) &&
  (match cls x.k, cls y.k with
   | .pure, _ | _, .pure | .read, .read | .read, .alloc => true
   | _, _ => false)

def edgesOf (ops : Array Oper) (i : Nat) : List Nat := match ops[i]? with
  | some o => o.after.toList.filterMap fun e => if Region.binds .any e then some e.on else none
  | none => []

def dd : List Nat → List Nat
  | [] => []
  | x :: l => match dd l with
    | r => if r.contains x then r else x :: r
theorem mem_dd {k : Nat} : ∀ {l : List Nat}, k ∈ dd l → k ∈ l
  | [], h => h
  | x :: l, h => by
    simp only [dd] at h
    split at h
    · exact List.mem_cons_of_mem _ (mem_dd h)
    · rcases List.mem_cons.1 h with rfl | h
      · exact List.mem_cons_self ..
      · exact List.mem_cons_of_mem _ (mem_dd h)
def befores (ops : Array Oper) : List (List Nat) :=
  (List.range ops.size).foldl (fun acc i => acc ++ [dd ((edgesOf ops i).flatMap fun j => j :: acc.getD j [])]) []


def soAt (P : Program) (ops : Array Oper) (i : Nat) : SO := match ops[i]? with | some o => cso P ops o | none => ⟨none, badK, none⟩

def sos (P : Program) (ops : Array Oper) (l : List Nat) : List SO := l.map (soAt P ops)

def mayAt (S : List SO) (i j : Nat) : Bool := match S[i]?, S[j]? with
  | some x, some y => mayS x y
  | _, _ => false

def edgesAll (ops : Array Oper) : List (Nat × Nat) := (List.range ops.size).flatMap fun i => (edgesOf ops i).map fun j => (j, i)

def pairsOf (ops : Array Oper) : List (Nat × Nat) :=
  let b := befores ops
  (List.range ops.size).flatMap fun j => ((List.range j).filter fun i => !(b.getD j []).contains i).map fun i => (i, j)

def forcedOf (S : List SO) (pairs : List (Nat × Nat)) : List (Nat × Nat) :=
  pairs.filterMap fun e => if mayAt S e.1 e.2 then (if mayAt S e.2 e.1 then none else some e) else if mayAt S e.2 e.1 then some (e.2, e.1) else none

def confOf (S : List SO) (pairs : List (Nat × Nat)) : List (Nat × Nat) := pairs.filter fun e => !mayAt S e.1 e.2 && !mayAt S e.2 e.1

def ordersOf (P : Program) (ops : Array Oper) : Option (List (List Nat)) :=
  let n := ops.size
  let S := (List.range n).map (soAt P ops)
  let edges := edgesAll ops
  let pairs := pairsOf ops
  if !(edges.all fun e => e.1 < e.2) then none else
  if pairs.all fun e => mayAt S e.1 e.2 then some [List.range n] else
  let conf := confOf S pairs
  let forced := forcedOf S pairs
  if conf.length > 6 then none else
  let ways := (asg conf).map fun o => (topo n (edges ++ o), topo n (edges ++ o ++ forced))
  if ways.all fun t => t.1.2 && (!full n t.1.1 || full n t.2.1) then some ((ways.filter fun t => full n t.2.1).map (·.2.1)) else none

def comp (P : Program) : Code → Option C
  | .skip | .label _ => some .skip
  | .region _ ops draw => if draw then (ordersOf P ops).map fun ls => .reg (ls.map (sos P ops)) else some (.reg [sos P ops (List.range ops.size)])
  | .seq a b => match comp P a, comp P b with
    | some a, some b => some (.seq a b)
    | _, _ => none
  | .cond c a b => match cod c, comp P a, comp P b with
    | some c, some a, some b => some (.cond c a b)
    | _, _, _ => none
  | .block id b => (comp P b).map (.block id)
  | .loop b => (comp P b).map .loop
  | .exit id => some (.exit id)
  | .ret => some .ret
  | _ => none

def cres (P : Program) : List ResultVar → Option (List RV)
  | [] => some []
  | .tmp t :: r => (cres P r).map (.t t :: ·)
  | .cell a t :: r => match psize P t, cres P r with
    | some none, some l => some (.cell1 a :: l)
    | some (some n), some l => some (.cellA a n :: l)
    | _, _ => none

def agree (l : List Nat) (s s' : Sl) : Prop := ∀ i ∈ l, gt s i = gt s' i

theorem agree.left {l r : List Nat} {s s' : Sl} (h : agree (l ++ r) s s') : agree l s s' := fun i hi => h i (by simp [hi])
theorem agree.right {l r : List Nat} {s s' : Sl} (h : agree (l ++ r) s s') : agree r s s' := fun i hi => h i (by simp [hi])

theorem ev_agree {x : Od} {s s' : Sl} (h : agree (readsO x) s s') : ev s x = ev s' x := by
  cases x with
  | t i => exact h i (by simp [readsO])
  | c v => rfl

theorem bnd_agree {x : Option Od} {s s' : Sl} (h : agree (readsOo x) s s') (d t : Nat) : bnd s x d t = bnd s' x d t := by
  cases x with
  | none => rfl
  | some x => simp only [bnd, ev_agree (x := x) h]

theorem evs_agree {xs : List Od} {s s' : Sl} (h : agree (xs.flatMap readsO) s s') : evs s xs = evs s' xs := by
  unfold evs
  apply List.map_congr_left
  intro x hx
  exact ev_agree fun i hi => h i (List.mem_flatMap.2 ⟨x, hx, hi⟩)

theorem parts_agree {ps : List (Nat × Nat × Od)} {s s' : Sl} (h : agree (ps.flatMap fun p => readsO p.2.2) s s') : (ps.map fun p => (p.1, p.2.1, ev s p.2.2)) = ps.map fun p => (p.1, p.2.1, ev s' p.2.2) := by
  apply List.map_congr_left
  intro p hp
  rw [ev_agree (x := p.2.2) fun i hi => h i (List.mem_flatMap.2 ⟨p, hp, hi⟩)]

theorem aop_agree {k : K} {s s' : Sl} (H : AH) (h : agree (readsK k) s s') : aop nocall s H k = aop nocall s' H k := by
  cases k
  case alloc => rfl
  case mkM => rfl
  case copy => rfl
  case del => rfl
  case build z ps => simp only [aop, parts_agree h]
  case lit z e n ps => simp only [aop, parts_agree h]
  case pick a b c => simp only [aop, ev_agree h.left.left, ev_agree h.left.right, ev_agree h.right]
  case mset kk a b c => simp only [aop, ev_agree h.left.left, ev_agree h.left.right, ev_agree h.right]
  case slS e x l hh m => simp only [aop, ev_agree h.left.left.left, bnd_agree h.left.left.right, bnd_agree h.left.right, bnd_agree h.right]
  case slT x l hh => simp only [aop, ev_agree h.left.left, bnd_agree h.left.right, bnd_agree h.right]
  case callF f xs => simp only [aop, evs_agree h]
  case callV f xs => simp only [aop, ev_agree h.left, evs_agree h.right]
  case min xs => simp only [aop, evs_agree h]
  case max xs => simp only [aop, evs_agree h]
  case mkF f xs => simp only [aop, evs_agree h]
  all_goals first
    | simp only [aop, ev_agree h]
    | simp only [aop, ev_agree h.left, ev_agree h.right]

theorem gt_pt {s : Sl} {d : Option Nat} {v : AV} {i : Nat} (h : d ≠ some i) : gt (pt s d v) i = gt s i := by
  cases d with
  | none => rfl
  | some d =>
    have : d ≠ i := fun e => h (by rw [e])
    simp only [gt, pt, List.getD_eq_getElem?_getD, List.getElem?_set_ne this]

theorem agree_pt {l : List Nat} {s : Sl} {d : Option Nat} {v : AV} (h : ∀ i, d = some i → i ∉ l) : agree l (pt s d v) s := fun i hi => gt_pt fun e => h i e hi

theorem pt_comm {s : Sl} {d e : Option Nat} {u v : AV} (h : ∀ i, d = some i → e ≠ some i) : pt (pt s d u) e v = pt (pt s e v) d u := by
  cases d with
  | none => rfl
  | some d =>
    cases e with
    | none => rfl
    | some e =>
      have : d ≠ e := fun q => h d rfl (by rw [q])
      simp only [pt]
      exact List.set_comm _ _ this

theorem aop_pure {k : K} {s : Sl} {H H' : AH} {v : AV} (hc : cls k = .pure) (h : aop nocall s H k = some (v, H')) : H' = H ∧ ∀ J, aop nocall s J k = some (v, J) := by
  cases k <;> simp only [cls, reduceCtorEq] at hc <;> simp only [aop] at h ⊢
  all_goals
    repeat' split at h
    all_goals first
      | (simp at h; done)
      | (simp only [Option.some.injEq, Prod.mk.injEq] at h
         obtain ⟨rfl, rfl⟩ := h
         refine ⟨rfl, fun J => ?_⟩
         simp_all)
      | (simp only [Option.map_eq_some_iff, Prod.mk.injEq] at h
         obtain ⟨r, hr, rfl, rfl⟩ := h
         refine ⟨rfl, fun J => ?_⟩
         simp_all)


theorem rowAt_alloc {H : AH} {x : AO} {o : Nat} {l : List AV} (h : rowAt H o = some l) : rowAt (AM.alloc H x) o = some l := by
  unfold rowAt at h ⊢
  split at h
  · rename_i l' own ho
    simp only [Option.some.injEq] at h; subst h
    simp only [AM.alloc, List.getElem?_append_left (List.getElem?_eq_some_iff.1 ho).1, ho]
  · simp at h

theorem mapAt_alloc {H : AH} {x : AO} {o : Nat} {l : List (AV × AV)} (h : mapAt H o = some l) : mapAt (AM.alloc H x) o = some l := by
  unfold mapAt at h ⊢
  split at h
  · rename_i l' ho
    simp only [Option.some.injEq] at h; subst h
    simp only [AM.alloc, List.getElem?_append_left (List.getElem?_eq_some_iff.1 ho).1, ho]
  · simp at h

theorem seen_alloc {H : AH} {x : AO} {sz : Nat} {v : AV} {l : List AV} (h : seen H sz v = some l) : seen (AM.alloc H x) sz v = some l := by
  cases v <;> simp only [seen] at h ⊢ <;> try exact h
  split at h
  · split at h
    · rename_i e l' hl
      rw [if_pos (by assumption)]
      simp only [rowAt_alloc (x := x) hl]
      exact h
    · simp at h
  · simp at h

theorem aop_read {k : K} {s : Sl} {H H' : AH} {v : AV} (hc : cls k = .read) (h : aop nocall s H k = some (v, H')) : H' = H ∧ ∀ x, aop nocall s (AM.alloc H x) k = some (v, AM.alloc H x) := by
  cases k <;> simp only [cls, reduceCtorEq] at hc <;> simp only [aop] at h ⊢
  case load1 a =>
    split at h <;> try (simp at h; done)
    split at h <;> try (simp at h; done)
    rename_i l hl
    simp only [Option.map_eq_some_iff, Prod.mk.injEq] at h
    obtain ⟨r, hr, rfl, rfl⟩ := h
    refine ⟨rfl, fun x => ?_⟩
    simp only [rowAt_alloc (x := x) hl, hr, Option.map_some]
  case loadA n a =>
    split at h <;> try (simp at h; done)
    split at h <;> try (simp at h; done)
    rename_i l hl
    split at h <;> simp only [Option.some.injEq, Prod.mk.injEq, reduceCtorEq] at h
    rename_i hle
    obtain ⟨rfl, rfl⟩ := h
    refine ⟨rfl, fun x => ?_⟩
    simp only [rowAt_alloc (x := x) hl, hle, if_true]
  case convS a =>
    split at h <;> try (simp at h; done)
    rename_i l hl
    split at h <;> try (simp at h; done)
    rename_i hns
    simp only [Option.map_eq_some_iff, Prod.mk.injEq] at h
    obtain ⟨r, hr, rfl, rfl⟩ := h
    refine ⟨rfl, fun x => ?_⟩
    simp only [seen_alloc (x := x) hl, hr, Option.map_some]
  case look kk z ok m k =>
    split at h
    · split at h <;> simp only [Option.some.injEq, Prod.mk.injEq, reduceCtorEq] at h
      rename_i hf
      obtain ⟨rfl, rfl⟩ := h
      exact ⟨rfl, fun x => by simp only [hf, if_true]⟩
    · split at h <;> try (simp at h; done)
      rename_i es hes
      split at h <;> try (simp at h; done)
      rename_i hf
      simp only [Option.map_eq_some_iff, Prod.mk.injEq] at h
      obtain ⟨r, hr, rfl, rfl⟩ := h
      refine ⟨rfl, fun x => ?_⟩
      simp only [mapAt_alloc (x := x) hes, hf, if_true, hr, Option.map_some]
    · simp at h
  case lenM a =>
    split at h
    · simp only [Option.some.injEq, Prod.mk.injEq] at h
      obtain ⟨rfl, rfl⟩ := h
      exact ⟨rfl, fun x => rfl⟩
    · simp only [Option.map_eq_some_iff, Prod.mk.injEq] at h
      obtain ⟨r, hr, rfl, rfl⟩ := h
      refine ⟨rfl, fun x => ?_⟩
      simp only [mapAt_alloc (x := x) hr, Option.map_some]
    · simp at h

theorem aop_alloc {k : K} {s : Sl} {H H' : AH} {v : AV} (hc : cls k = .alloc) (h : aop nocall s H k = some (v, H')) : ∃ x, H' = AM.alloc H x := by
  cases k <;> simp only [cls, reduceCtorEq] at hc <;> simp only [aop] at h
  all_goals
    repeat' split at h
    all_goals first
      | (simp at h; done)
      | (simp only [Option.some.injEq, Prod.mk.injEq] at h
         exact ⟨_, h.2.symm⟩)
      | (simp only [Option.map_eq_some_iff, Prod.mk.injEq] at h
         obtain ⟨r, hr, _, h⟩ := h
         exact ⟨_, h.symm⟩)

theorem wanted_agree {o : SO} {s s' : Sl} (h : agree (readsS o) s s') : wanted s o = wanted s' o := by
  unfold wanted
  cases hg : o.guard with
  | none => rfl
  | some g =>
    obtain ⟨t, w⟩ := g
    cases t with
    | none => rfl
    | some t =>
      have : gt s t = gt s' t := h t (by simp [readsS, hg])
      simp only [this]

theorem mayS_spec {x y : SO} (h : mayS x y = true) : (∀ d, x.dst = some d → d ∉ readsS y) ∧ (∀ d, x.dst = some d → y.dst ≠ some d) ∧ (∀ d, y.dst = some d → d ∉ readsS x) ∧
    (cls x.k = .pure ∨ cls y.k = .pure ∨ (cls x.k = .read ∧ (cls y.k = .read ∨ cls y.k = .alloc))) := by
  simp only [mayS, Bool.and_eq_true] at h
  obtain ⟨⟨h1, h2⟩, h3⟩ := h
  refine ⟨fun d hd => ?_, fun d hd => ?_, fun d hd => ?_, ?_⟩
  · simp only [hd, Bool.and_eq_true] at h1
    simpa using h1.1
  · simp only [hd, Bool.and_eq_true] at h1
    simpa using h1.2
  · simp only [hd] at h2
    simpa using h2
  · cases hx : cls x.k <;> cases hy : cls y.k <;> simp [hx, hy] at h3 ⊢

end Go.AM
namespace Go.AM
open Go.RowKit

def rest (n : Nat) (listed : Array Bool) : List Nat := (List.range n).filter fun i => !listed.getD i true

theorem mem_rest {n : Nat} {listed : Array Bool} {i : Nat} : i ∈ rest n listed ↔ i < n ∧ listed.getD i true = false := by
  simp [rest]

theorem getD_set (l : Array Bool) (i j : Nat) (b : Bool) : (l.setIfInBounds i true).getD j b = if j = i ∧ i < l.size then true else l.getD j b := by
  simp only [Array.getD_eq_getD_getElem?, Array.getElem?_setIfInBounds]
  by_cases h : i = j
  · subst h
    by_cases hi : i < l.size
    · simp [hi]
    · simp [hi]
  · have : ¬ (j = i ∧ i < l.size) := fun q => h q.1.symm
    rw [if_neg h, if_neg this]

theorem rest_parts {n : Nat} {listed : Array Bool} {i : Nat} (hi : i ∈ rest n listed) : ∃ pre post, rest n listed = pre ++ i :: post ∧ rest n (listed.setIfInBounds i true) = pre ++ post ∧ (∀ j ∈ pre, j < i ∧ listed.getD j true = false) := by
  have hnd : (rest n listed).Nodup := List.Pairwise.filter _ List.nodup_range
  have hso : (rest n listed).Pairwise (· < ·) := List.Pairwise.filter _ List.pairwise_lt_range
  obtain ⟨pre, post, he⟩ := List.append_of_mem hi
  have hsz : i < listed.size := by
    have h2 := (mem_rest.1 hi).2
    rcases Nat.lt_or_ge i listed.size with h | h
    · exact h
    · simp [Array.getD_eq_getD_getElem?, Array.getElem?_eq_none h] at h2
  have hf : rest n (listed.setIfInBounds i true) = (rest n listed).filter fun j => !(j == i) := by
    unfold rest
    rw [List.filter_filter]
    apply List.filter_congr
    intro j _
    rw [getD_set]
    by_cases hj : j = i
    · subst hj; simp [hsz]
    · simp [hj]
  refine ⟨pre, post, he, ?_, ?_⟩
  · rw [hf, he]
    rw [he] at hnd
    have hn := List.nodup_append.1 hnd
    rw [List.filter_append]
    congr 1
    · apply List.filter_eq_self.2
      intro j hj
      have : j ≠ i := fun q => hn.2.2 j hj i (by simp) q
      simp [this]
    · rw [List.filter_cons_of_neg (by simp)]
      apply List.filter_eq_self.2
      intro j hj
      have : j ≠ i := fun q => by
        subst q
        exact (List.nodup_cons.1 hn.2.1).1 hj
      simp [this]
  · intro j hj
    rw [he] at hso
    have h1 := (List.pairwise_append.1 hso).2.2 j hj i (by simp)
    have h2 : j ∈ rest n listed := by rw [he]; simp [hj]
    exact ⟨h1, (mem_rest.1 h2).2⟩

theorem befores_get (ops : Array Oper) : ∀ (n : Nat), n ≤ ops.size →
    let acc := (List.range n).foldl (fun (acc : List (List Nat)) i => acc ++ [dd ((edgesOf ops i).flatMap fun j => j :: acc.getD j [])]) []
    acc.length = n ∧ ∀ i, i < n → ∀ k ∈ acc.getD i [], ∃ j ∈ edgesOf ops i, k = j ∨ (j < i ∧ k ∈ acc.getD j [])
  | 0, _ => by simp
  | n + 1, h => by
    have ih := befores_get ops n (by omega)
    simp only [List.range_succ, List.foldl_append, List.foldl_cons, List.foldl_nil] at ih ⊢
    generalize (List.range n).foldl (fun (acc : List (List Nat)) i => acc ++ [dd ((edgesOf ops i).flatMap fun j => j :: acc.getD j [])]) [] = acc at ih ⊢
    obtain ⟨h1, h2⟩ := ih
    have hlt : ∀ i, i < n → (acc ++ [dd ((edgesOf ops n).flatMap fun j => j :: acc.getD j [])]).getD i [] = acc.getD i [] := by
      intro i hi
      simp only [List.getD_eq_getElem?_getD, List.getElem?_append_left (show i < acc.length by omega)]
    refine ⟨by simp [h1], fun i hi k hk => ?_⟩
    by_cases hin : i < n
    · rw [hlt i hin] at hk
      obtain ⟨j, hj, h3⟩ := h2 i hin k hk
      refine ⟨j, hj, h3.imp id fun ⟨h4, h5⟩ => ⟨h4, ?_⟩⟩
      rw [hlt j (by omega)]; exact h5
    · have : i = n := by omega
      subst this
      have : (acc ++ [dd ((edgesOf ops i).flatMap fun j => j :: acc.getD j [])]).getD i [] = dd ((edgesOf ops i).flatMap fun j => j :: acc.getD j []) := by
        simp only [List.getD_eq_getElem?_getD, List.getElem?_append_right (show acc.length ≤ i by omega), h1]
        simp
      rw [this] at hk
      obtain ⟨j, hj, hk⟩ := List.mem_flatMap.1 (mem_dd hk)
      refine ⟨j, hj, ?_⟩
      rcases List.mem_cons.1 hk with rfl | hk
      · exact .inl rfl
      · right
        have hjn : j < i := by
          rcases Nat.lt_or_ge j acc.length with q | q
          · omega
          · simp [List.getD_eq_getElem?_getD, List.getElem?_eq_none q] at hk
        exact ⟨hjn, by rw [hlt j hjn]; exact hk⟩

theorem mem_ready {ops : Array Oper} {listed : Array Bool} {i : Nat} (h : i ∈ Region.ready .any ops listed) : i < ops.size ∧ listed.getD i true = false ∧ ∀ j ∈ edgesOf ops i, listed.getD j false = true := by
  simp only [Region.ready, List.mem_filter, List.mem_range, Bool.and_eq_true, Bool.not_eq_true'] at h
  obtain ⟨h1, h2, h3⟩ := h
  refine ⟨h1, h2, fun j hj => ?_⟩
  have ho : ops[i]? = some ops[i] := Array.getElem?_eq_getElem h1
  rw [ho] at h3
  simp only [Option.map_some, Option.getD_some] at h3
  simp only [edgesOf, ho, List.mem_filterMap] at hj
  obtain ⟨e, he, hej⟩ := hj
  rw [Array.all_eq_true'] at h3
  have h4 := h3 e (by simpa using he)
  split at hej <;> simp at hej
  rename_i hb
  subst hej
  simpa [hb] using h4

theorem ready_of {ops : Array Oper} {listed : Array Bool} {i : Nat} (h1 : i < ops.size) (h2 : listed.getD i true = false) (h3 : ∀ j ∈ edgesOf ops i, listed.getD j false = true) : i ∈ Region.ready .any ops listed := by
  simp only [Region.ready, List.mem_filter, List.mem_range, Bool.and_eq_true, Bool.not_eq_true']
  refine ⟨h1, h2, ?_⟩
  have ho : ops[i]? = some ops[i] := Array.getElem?_eq_getElem h1
  rw [ho]
  simp only [Option.map_some, Option.getD_some]
  rw [Array.all_eq_true']
  intro e he
  cases hb : Region.binds .any e with
  | false => simp
  | true =>
    simp only [Bool.not_true, Bool.false_or]
    apply h3
    simp only [edgesOf, ho, List.mem_filterMap]
    exact ⟨e, by simpa using he, by simp [hb]⟩


structure Sched (ops : Array Oper) (listed : Array Bool) (l : List Nat) : Prop where
  mem : ∀ i, i ∈ l ↔ i ∈ rest ops.size listed
  nodup : l.Nodup
  ord : ∀ i ∈ l, ∀ j ∈ edgesOf ops i, listed.getD j false = true ∨ [j, i].Sublist l

theorem sched_go {ops : Array Oper} (hacy : ∀ i, i < ops.size → ∀ j ∈ edgesOf ops i, j < i) : ∀ (fuel t : Nat) (listed : Array Bool), listed.size = ops.size → (rest ops.size listed).length ≤ fuel →
    Sched ops listed (Region.linearise.go .any ops fuel t listed []) := by
  intro fuel
  induction fuel with
  | zero =>
    intro t listed hsz hlen
    have hr : rest ops.size listed = [] := List.eq_nil_of_length_eq_zero (by omega)
    simp only [Region.linearise.go, List.reverse_nil]
    exact ⟨by simp [hr], List.nodup_nil, by simp⟩
  | succ fuel ih =>
    intro t listed hsz hlen
    simp only [Region.linearise.go]
    change Sched ops listed (match (Region.ready .any ops listed)[t % (Region.ready .any ops listed).length]? with
      | some i => Region.linearise.go .any ops fuel (t / (Region.ready .any ops listed).length) (listed.setIfInBounds i true) [i]
      | none => [].reverse)
    cases hi : (Region.ready .any ops listed)[t % (Region.ready .any ops listed).length]? with
    | none =>
      have hnil : Region.ready .any ops listed = [] := by
        cases hr : Region.ready .any ops listed with
        | nil => rfl
        | cons x xs =>
          rw [hr] at hi
          have hlt : t % (x :: xs).length < (x :: xs).length := Nat.mod_lt _ (by simp)
          simp at hi
          simp at hlt
          omega
      have hr : rest ops.size listed = [] := by
        cases hr : rest ops.size listed with
        | nil => rfl
        | cons m r =>
          exfalso
          have hm : m ∈ rest ops.size listed := by rw [hr]; simp
          obtain ⟨h1, h2⟩ := mem_rest.1 hm
          have hso : (rest ops.size listed).Pairwise (· < ·) := List.Pairwise.filter _ List.pairwise_lt_range
          rw [hr] at hso
          have hmin := (List.pairwise_cons.1 hso).1
          have : m ∈ Region.ready .any ops listed := by
            refine ready_of h1 h2 fun j hj => ?_
            have hjm := hacy m h1 j hj
            have hjl : listed.getD j true = true := by
              cases hq : listed.getD j true with
              | true => rfl
              | false =>
                have : j ∈ rest ops.size listed := mem_rest.2 ⟨by omega, hq⟩
                rw [hr] at this
                rcases List.mem_cons.1 this with rfl | hjr
                · omega
                · have := hmin j hjr; omega
            have hjs : j < listed.size := by omega
            simp only [Array.getD_eq_getD_getElem?, Array.getElem?_eq_getElem hjs, Option.getD_some] at hjl ⊢
            exact hjl
          rw [hnil] at this
          simp at this
      exact ⟨by simp [hr], List.nodup_nil, by simp⟩
    | some i =>
      have him := List.mem_of_getElem? hi
      obtain ⟨h1, h2, h3⟩ := mem_ready him
      obtain ⟨pre, post, e1, e2, e3⟩ := rest_parts (mem_rest.2 ⟨h1, h2⟩)
      have ihs := ih (t / (Region.ready .any ops listed).length) (listed.setIfInBounds i true) (by simpa using hsz) (by rw [e2]; rw [e1] at hlen; simp at hlen ⊢; omega)
      simp only []
      rw [linearise_go_acc, List.reverse_singleton, List.singleton_append]
      refine ⟨?_, ?_, ?_⟩
      · intro x
        rw [List.mem_cons, ihs.mem x, e1, e2]
        simp only [List.mem_append, List.mem_cons]
        constructor
        · rintro (h | h | h)
          · exact .inr (.inl h)
          · exact .inl h
          · exact .inr (.inr h)
        · rintro (h | h | h)
          · exact .inr (.inl h)
          · exact .inl h
          · exact .inr (.inr h)
      · refine List.nodup_cons.2 ⟨fun hm => ?_, ihs.nodup⟩
        have := (mem_rest.1 ((ihs.mem i).1 hm)).2
        rw [getD_set] at this
        simp [show i < listed.size by omega] at this
      · intro x hx j hj
        rcases List.mem_cons.1 hx with rfl | hx1
        · exact .inl (h3 j hj)
        · rcases ihs.ord x hx1 j hj with h | h
          · have hg : (listed.setIfInBounds i true).getD j false = if j = i ∧ i < listed.size then true else listed.getD j false := by
              simp only [Array.getD_eq_getD_getElem?, Array.getElem?_setIfInBounds]
              by_cases h : i = j
              · subst h
                by_cases hi : i < listed.size <;> simp [hi]
              · have : ¬ (j = i ∧ i < listed.size) := fun q => h q.1.symm
                rw [if_neg h, if_neg this]
            rw [hg] at h
            by_cases hji : j = i
            · subst hji
              exact .inr (List.Sublist.cons_cons _ (List.singleton_sublist.2 hx1))
            · rw [if_neg (fun z => hji z.1)] at h
              exact .inl h
          · exact .inr (h.cons _)

end Go.AM
