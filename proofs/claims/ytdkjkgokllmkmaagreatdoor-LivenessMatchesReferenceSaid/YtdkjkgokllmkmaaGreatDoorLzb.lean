/- The row of LivenessMatchesReference, out of its walk. -/
import Derived.Test.YtdkjkgokllmkmaaGreatDoorRows
import Derived.Test.YtdkjkgokllmkmaaGreatDoorLxr
import Derived.WalkKit
import Derived.ProofKit
import Derived.OpenShut
import Derived.ChangeOld
import Derived.Below
import Derived.Clock
import Derived.Test.YtdkjkgokllmkmaaGreatDoorLxx
namespace Go.Proofs.YtdkjkgokllmkmaaGreatDoor.livenessMatchesReference
open Go.ChangeShapes Go.WideShapes Go.ChangeAt Go.RowKit Lv Go.Clock
set_option linter.unusedVariables false
theorem own : ownKnob Tryz.prog.godebug = none := by kernel_rfl
theorem laidOut : laidOutB Tryz.prog = true := by kernel_rfl
set_option maxRecDepth 100000 in
theorem lifted (os : Os) (started : os.Started) (H : Type) (enc : TypeId × Value → H) (I : Stop.Interp) :
    ReturnsInHanded { calm := true } Tryz.checked os 3 .any (fun w args => (Rows.livenessMatchesReferenceSpec.pre enc Tryz.prog Tryz.f3 [] false w args ∧ True) ∧ sizedMet enc Tryz.prog Tryz.f3 (OpenSpec.ofChange Rows.livenessMatchesReferenceSpec) false w args)
      ((OpenSpec.ofChange Rows.livenessMatchesReferenceSpec).postWith enc Tryz.prog Tryz.f3 I (outsideKept [.timePasses]) false true false) := by
  refine returns_of_change (C := Tryz.checked) (X := fun _ _ => True) (fun _ _ _ _ h => h) own started (by kernel_rfl) Tryz.func3
    (witness (enc := enc) (C := Tryz.checked) ⟨#[], #[.agg #[.string ByteArray.empty, .int .i64 0, .int .i64 0, .slice none 0 0, .int .i64 0, .int .i64 0, .int .i64 0, .slice none 0 0, .slice none 0 0, .slice none 0 0, .slice none 0 0]], []⟩ 8 (by kernel_rfl) (by kernel_rfl) (by kernel_rfl) (by kernel_rfl)) ?_
  intro W base args ds gs before hval0 hW _ _ _ hsh
  have hval : ∀ (j : Nat) t v, Tryz.f3.params[j]? = some t → args[j]? = some v → Value.okWide Tryz.prog W .any base t v := hval0
  have hW' := hW
  obtain ⟨p, q, hA0, hV, rfl, hfz, hnd⟩ := hW
  have hA : DataW.TrodAll enc Tryz.prog W 0 (fun _ => true) true Tryz.f3.params.toList args.toList ds p := hA0
  rw [Tryz.params3] at hA hval
  obtain ⟨v0, vs0, d0, ds0, p0, q0, hargs, rfl, rfl, h0, r0⟩ := trodAll_cons hA
  obtain ⟨rfl, rfl, rfl⟩ := trodAll_nil r0
  obtain rfl : args = #[v0] := by cases args; simp_all
  obtain ⟨rfl, rfl⟩ := trodVars_none hV
  have lt0 : ∀ x ∈ p0, x.block < W.heap.size := by obtain ⟨m, hm⟩ := h0; exact DataW.trod_lt m _ _ _ hm
  obtain ⟨F, hF⟩ := func_open (hval 0 29 v0 rfl rfl) h0
  clear hA0 hval0
  simp only [List.append_nil] at hW'
  refine (matches_any v0 F W hF).mono fun e W' ⟨he, bel⟩ => ?_
  subst he
  have since := Since.of_below bel
  exact ⟨_, rfl, ⟨_, _, _, [], _, [], hW', trodAll_mk1 (shut_bool Tryz.underlying4 _), (trodAll_cons_mk (Below.trod laidOut (by kernel_rfl) (of_decide_eq_true (by kernel_rfl)) h0 since.2 lt0) trodAll_mk0), rfl, since.2.frame _, fun h => by cases h⟩, since.1⟩
theorem proved : Rows.LivenessMatchesReferenceSaid :=
  holds_of_wide_time 3 Tryz.f3 rfl rfl rfl rfl rfl rfl rfl ⟨rfl, rfl, rfl, rfl, rfl⟩ rfl rfl rfl rfl rfl (by kernel_rfl) Tryz.func3 (by kernel_rfl)
    (of_decide_eq_true (by kernel_rfl)) (by unfold Func.isWrapper; first | (rw [if_pos (by decide +kernel)]; kernel_rfl) | (rw [if_neg (by decide +kernel)]; exact ⟨rfl, rfl⟩))
    (fun os started H enc _ I => by rw [pre_unlisted rfl]; exact lifted os started H enc I)
end Go.Proofs.YtdkjkgokllmkmaaGreatDoor.livenessMatchesReference
namespace Go.Proofs.YtdkjkgokllmkmaaGreatDoor
theorem livenessMatchesReference_holds : Rows.LivenessMatchesReferenceSaid := livenessMatchesReference.proved
#print axioms livenessMatchesReference_holds
end Go.Proofs.YtdkjkgokllmkmaaGreatDoor
