/- Part 12 of the proof that the law SubdirectEmbeds holds: the law itself. No condition. -/
import Derived.Test.YtmdpejgnkoneoaaRows
import Derived.Test.YtmdpejgnkoneoaaE2
import Derived.Test.YtmdpejgnkoneoaaE3
import Derived.Test.YtmdpejgnkoneoaaE4
import Derived.Test.YtmdpejgnkoneoaaE11
import Derived.WalkKit
import Derived.ProofKit
import Derived.OpenShut
import Derived.ShutString
import Derived.ChangeOld
import Derived.Below
import Derived.SizedLaws
set_option linter.unusedSimpArgs false
set_option linter.unusedVariables false
set_option linter.unnecessarySimpa false
set_option linter.unusedSectionVars false
namespace Go.Proofs.Ytmdpejgnkoneoaa.SubdirectEmbeds
open Go.ChangeShapes Go.WideShapes Go.ChangeAt Go.RowKit Go.AM
theorem own : ownKnob Try.prog.godebug = none := by kernel_rfl
theorem laidOut : laidOutB Try.prog = true := by kernel_rfl
theorem follows : Try.prog.follows .mixedOrders = true := by kernel_rfl

set_option maxRecDepth 100000 in
set_option maxHeartbeats 4000000 in
theorem lifted (os : Os) (started : os.Started) (H : Type) (enc : TypeId × Value → H) :
    ReturnsInHanded {} Try.checked os 8 .any (Rows.subdirectEmbedsSpec.pre6 enc Try.prog Try.f8 Rows.subdirectEmbedsRow.domain false) (Rows.subdirectEmbedsSpec.post enc Try.prog Try.f8 false true false false) := by
  refine returnsInHanded_of_change_sized (C := Try.checked) own started (by kernel_rfl) Try.func8
    (ChangeSpec.witness6 (enc := enc) (C := Try.checked) false ⟨#[], #[.slice none 0 0, .slice none 0 0], []⟩ 8 (by kernel_rfl) (by kernel_rfl) (by kernel_rfl) (by kernel_rfl)) ?_
  intro W base args ds gs before hval0 hW hcnd hsz0 _
  have hval : ∀ (j : Nat) t v, Try.f8.params[j]? = some t → args[j]? = some v → Value.okWide Try.prog W .any base t v := hval0
  have hW' := hW
  obtain ⟨p, q, hA0, hV, rfl, hfz, hnd⟩ := hW
  have hA : DataW.TrodAll enc Try.prog W 0 (fun _ => true) true Try.f8.params.toList args.toList ds p := hA0
  rw [Try.params8] at hA hval
  obtain ⟨v0, vs0, d0, ds0, p0, q0, hargs, rfl, rfl, h0, r0⟩ := trodAll_cons hA
  obtain ⟨v1, vs1, d1, ds1, p1, q1, e1, rfl, rfl, h1, r1⟩ := trodAll_cons r0
  obtain ⟨e2, rfl, rfl⟩ := trodAll_nil r1
  subst e2 e1
  obtain rfl : args = #[v0, v1] := by cases args; simp_all
  obtain ⟨rfl, rfl⟩ := trodVars_none hV
  obtain ⟨a0, len0, cap0, rfl⟩ := okWide_slice Try.underlying22 (hval 0 22 v0 rfl rfl)
  obtain ⟨a1, len1, cap1, rfl⟩ := okWide_slice Try.underlying22 (hval 1 22 v1 rfl rfl)
  clear hA0 hval0 hsz0
  obtain ⟨ρ0, H0, avs0, L0, ⟨T0, e0⟩, hr0, hv0, ha0⟩ := opens_arg (Opens.slice (RSl.keeps (RInt.keeps .i64) 1) (Opens.slice (RInt.keeps .i64) (Opens.int Try.underlying3) Try.underlying25 (by kernel_rfl) (Nat.succ_pos 0)) Try.underlying22 (by kernel_rfl) (Nat.succ_pos 0)) h0 rfl (RH.start W) (by simp [VRs] : VRs [] [] [])
  obtain ⟨ρ1, H1, avs1, L1, ⟨T1, e1⟩, hr1, hv1, ha1⟩ := opens_arg (Opens.slice (RSl.keeps (RInt.keeps .i64) 1) (Opens.slice (RInt.keeps .i64) (Opens.int Try.underlying3) Try.underlying25 (by kernel_rfl) (Nat.succ_pos 0)) Try.underlying22 (by kernel_rfl) (Nat.succ_pos 0)) h1 rfl hr0 hv0
  have ha0 := (RSl.keeps (RSl.keeps (RInt.keeps .i64) 1) 1) _ T1 _ _ ha0; rw [← e1] at ha0
  obtain ⟨w0, rfl, hx0⟩ := Lk.one (Lk.slice (Lk.slice Lk.int)) rfl ha0
  obtain ⟨w1, rfl, hx1⟩ := Lk.one (Lk.slice (Lk.slice Lk.int)) rfl ha1
  have run : AM.wpc (AM.envT Code.tab) 8 ([] ++ [w0] ++ [w1] ) H1 (fun r _ => r = .bool true) := by
    refine AM.wpc_mono Pu.hp0 (Pu.R_semigrouplaw22_SubdirectEmbeds (St.start _) hx0 hx1 (Mt.SubdirectEmbeds L0 L1)) ?_
    rintro rv H' ⟨W', _, _, rfl⟩; rfl
  refine (calls_true follows (envT_ok Code.tabOK) hv1 hr1 run).mono fun e W' ⟨he, bel⟩ => ?_
  subst he
  exact ⟨_, rfl, _, _, _, [], _, [], hW', trodAll_mk1 (shut_bool Try.underlying4 _), (trodAll_cons_mk (Below.trod laidOut (by kernel_rfl) (of_decide_eq_true (by kernel_rfl)) h0 bel (trod_lt' h0)) (trodAll_cons_mk (Below.trod laidOut (by kernel_rfl) (of_decide_eq_true (by kernel_rfl)) h1 bel (trod_lt' h1)) trodAll_mk0)), rfl, bel.frame _, fun h => by cases h⟩

theorem over : Rows.subdirectEmbedsRow.holds Try.pinned (OpenSpec.ofChange Rows.subdirectEmbedsSpec) :=
  OpenClaim.holds_of_wide 8 Try.f8 rfl rfl rfl rfl rfl rfl rfl ⟨rfl, rfl, rfl, rfl, rfl⟩ rfl rfl rfl rfl rfl (by kernel_rfl) Try.func8 (by kernel_rfl)
    (of_decide_eq_true (by kernel_rfl)) (by unfold Func.isWrapper; first | (rw [if_pos (by decide +kernel)]; kernel_rfl) | (rw [if_neg (by decide +kernel)]; exact ⟨rfl, rfl⟩))
    (fun os started H enc _ => lifted os started H enc)
theorem proved : Rows.SubdirectEmbedsSaid := over
#print axioms proved
end Go.Proofs.Ytmdpejgnkoneoaa.SubdirectEmbeds
