/- Part 14 of the proof that the law SubdirectTurned holds: the law itself. No condition. -/
import Derived.Test.YtmdpejgnkoneoaaRows
import Derived.Test.YtmdpejgnkoneoaaT2
import Derived.Test.YtmdpejgnkoneoaaT3
import Derived.Test.YtmdpejgnkoneoaaT5
import Derived.Test.YtmdpejgnkoneoaaT13
import Derived.WalkKit
import Derived.ProofKit
import Derived.OpenShut
import Derived.ShutString
import Derived.ChangeOld
import Derived.Below
import Derived.SizedLaws
set_option linter.unusedSimpArgs false
set_option linter.unusedVariables false
set_option linter.unnecessarySimpa false
set_option linter.unusedSectionVars false
namespace Go.Proofs.Ytmdpejgnkoneoaa.SubdirectTurned
open Go.ChangeShapes Go.WideShapes Go.ChangeAt Go.RowKit Go.AM
theorem own : ownKnob Try.prog.godebug = none := by kernel_rfl
theorem laidOut : laidOutB Try.prog = true := by kernel_rfl
theorem follows : Try.prog.follows .mixedOrders = true := by kernel_rfl

set_option maxRecDepth 100000 in
set_option maxHeartbeats 4000000 in
theorem lifted (os : Os) (started : os.Started) (H : Type) (enc : TypeId × Value → H) :
    ReturnsInHanded {} Try.checked os 6 .any (Rows.subdirectTurnedSpec.pre6 enc Try.prog Try.f6 Rows.subdirectTurnedRow.domain false) (Rows.subdirectTurnedSpec.post enc Try.prog Try.f6 false true false false) := by
  refine returnsInHanded_of_change_sized (C := Try.checked) own started (by kernel_rfl) Try.func6
    (ChangeSpec.witness6 (enc := enc) (C := Try.checked) false ⟨#[], #[.slice none 0 0, .int .i64 0, .int .i64 0, .slice none 0 0], []⟩ 8 (by kernel_rfl) (by kernel_rfl) (by kernel_rfl) (by kernel_rfl)) ?_
  intro W base args ds gs before hval0 hW hcnd hsz0 _
  have hval : ∀ (j : Nat) t v, Try.f6.params[j]? = some t → args[j]? = some v → Value.okWide Try.prog W .any base t v := hval0
  have hW' := hW
  obtain ⟨p, q, hA0, hV, rfl, hfz, hnd⟩ := hW
  have hA : DataW.TrodAll enc Try.prog W 0 (fun _ => true) true Try.f6.params.toList args.toList ds p := hA0
  rw [Try.params6] at hA hval
  obtain ⟨v0, vs0, d0, ds0, p0, q0, hargs, rfl, rfl, h0, r0⟩ := trodAll_cons hA
  obtain ⟨v1, vs1, d1, ds1, p1, q1, e1, rfl, rfl, h1, r1⟩ := trodAll_cons r0
  obtain ⟨v2, vs2, d2, ds2, p2, q2, e2, rfl, rfl, h2, r2⟩ := trodAll_cons r1
  obtain ⟨v3, vs3, d3, ds3, p3, q3, e3, rfl, rfl, h3, r3⟩ := trodAll_cons r2
  obtain ⟨e4, rfl, rfl⟩ := trodAll_nil r3
  subst e4 e3 e2 e1
  obtain rfl : args = #[v0, v1, v2, v3] := by cases args; simp_all
  obtain ⟨rfl, rfl⟩ := trodVars_none hV
  obtain ⟨a0, len0, cap0, rfl⟩ := okWide_slice Try.underlying22 (hval 0 22 v0 rfl rfl)
  obtain ⟨a1, rfl⟩ := okWide_int Try.underlying3 (hval 1 3 v1 rfl rfl)
  obtain ⟨a2, rfl⟩ := okWide_int Try.underlying3 (hval 2 3 v2 rfl rfl)
  obtain ⟨a3, len3, cap3, rfl⟩ := okWide_slice Try.underlying25 (hval 3 25 v3 rfl rfl)
  have hb3 : len3 * 8 ≤ 140737488351232 := by
    have := AM.sized_len (P := Try.prog) (j := 3) (t := 25) (e := 3) hsz0 h3 (by kernel_rfl) rfl Try.underlying25
    rwa [(by kernel_rfl : Try.prog.bytesOf 3 = 8)] at this
  clear hA0 hval0 hsz0
  obtain ⟨ρ0, H0, avs0, L0, ⟨T0, e0⟩, hr0, hv0, ha0⟩ := opens_arg (Opens.slice (RSl.keeps (RInt.keeps .i64) 1) (Opens.slice (RInt.keeps .i64) (Opens.int Try.underlying3) Try.underlying25 (by kernel_rfl) (Nat.succ_pos 0)) Try.underlying22 (by kernel_rfl) (Nat.succ_pos 0)) h0 rfl (RH.start W) (by simp [VRs] : VRs [] [] [])
  obtain ⟨ρ1, H1, avs1, L1, ⟨T1, e1⟩, hr1, hv1, ha1⟩ := opens_arg (Opens.int Try.underlying3) h1 rfl hr0 hv0
  obtain ⟨ρ2, H2, avs2, L2, ⟨T2, e2⟩, hr2, hv2, ha2⟩ := opens_arg (Opens.int Try.underlying3) h2 rfl hr1 hv1
  obtain ⟨ρ3, H3, avs3, L3, ⟨T3, e3⟩, hr3, hv3, ha3⟩ := opens_arg (Opens.slice (RInt.keeps .i64) (Opens.int Try.underlying3) Try.underlying25 (by kernel_rfl) (Nat.succ_pos 0)) h3 rfl hr2 hv2
  have ha0 := (RSl.keeps (RSl.keeps (RInt.keeps .i64) 1) 1) _ T1 _ _ ha0; rw [← e1] at ha0
  have ha0 := (RSl.keeps (RSl.keeps (RInt.keeps .i64) 1) 1) _ T2 _ _ ha0; rw [← e2] at ha0
  have ha0 := (RSl.keeps (RSl.keeps (RInt.keeps .i64) 1) 1) _ T3 _ _ ha0; rw [← e3] at ha0
  obtain ⟨w0, rfl, hx0⟩ := Lk.one (Lk.slice (Lk.slice Lk.int)) rfl ha0
  have ha1 := (RInt.keeps .i64) _ T2 _ _ ha1; rw [← e2] at ha1
  have ha1 := (RInt.keeps .i64) _ T3 _ _ ha1; rw [← e3] at ha1
  obtain ⟨w1, rfl, hx1⟩ := Lk.one Lk.int rfl ha1
  have ha2 := (RInt.keeps .i64) _ T3 _ _ ha2; rw [← e3] at ha2
  obtain ⟨w2, rfl, hx2⟩ := Lk.one Lk.int rfl ha2
  obtain ⟨w3, rfl, hx3⟩ := Lk.one (Lk.slice Lk.int) rfl ha3
  obtain rfl := hx1
  obtain rfl := hx2
  have hs3 : L3.length * 8 ≤ 140737488351232 := by rw [AM.arg_len (AM.vrs_get hv3 (i := 3) rfl rfl) hx3]; exact hb3
  have run : AM.wpc (AM.envT Code.tab) 6 ([] ++ [w0] ++ [.int .i64 L1] ++ [.int .i64 L2] ++ [w3] ) H3 (fun r _ => r = .bool true) := by
    refine AM.wpc_mono Pu.hp0 (Pu.R_semigrouplaw22_SubdirectTurned (St.start _) hx0 hx3 (Mt.SubdirectTurned L0 L1 L2 L3 hs3)) ?_
    rintro rv H' ⟨W', _, _, rfl⟩; rfl
  refine (calls_true follows (envT_ok Code.tabOK) hv3 hr3 run).mono fun e W' ⟨he, bel⟩ => ?_
  subst he
  exact ⟨_, rfl, _, _, _, [], _, [], hW', trodAll_mk1 (shut_bool Try.underlying4 _), (trodAll_cons_mk (Below.trod laidOut (by kernel_rfl) (of_decide_eq_true (by kernel_rfl)) h0 bel (trod_lt' h0)) (trodAll_cons_mk (Below.trod laidOut (by kernel_rfl) (of_decide_eq_true (by kernel_rfl)) h1 bel (trod_lt' h1)) (trodAll_cons_mk (Below.trod laidOut (by kernel_rfl) (of_decide_eq_true (by kernel_rfl)) h2 bel (trod_lt' h2)) (trodAll_cons_mk (Below.trod laidOut (by kernel_rfl) (of_decide_eq_true (by kernel_rfl)) h3 bel (trod_lt' h3)) trodAll_mk0)))), rfl, bel.frame _, fun h => by cases h⟩

theorem over : Rows.subdirectTurnedRow.holds Try.pinned (OpenSpec.ofChange Rows.subdirectTurnedSpec) :=
  OpenClaim.holds_of_wide 6 Try.f6 rfl rfl rfl rfl rfl rfl rfl ⟨rfl, rfl, rfl, rfl, rfl⟩ rfl rfl rfl rfl rfl (by kernel_rfl) Try.func6 (by kernel_rfl)
    (of_decide_eq_true (by kernel_rfl)) (by unfold Func.isWrapper; first | (rw [if_pos (by decide +kernel)]; kernel_rfl) | (rw [if_neg (by decide +kernel)]; exact ⟨rfl, rfl⟩))
    (fun os started H enc _ => lifted os started H enc)
theorem proved : Rows.SubdirectTurnedSaid := over
#print axioms proved
end Go.Proofs.Ytmdpejgnkoneoaa.SubdirectTurned
