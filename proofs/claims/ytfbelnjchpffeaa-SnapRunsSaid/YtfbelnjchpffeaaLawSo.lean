/-
  The rows of the laws SnapPlain, SnapRuns: each returns true at every input. No conditions.
-/
import Derived.Test.YtfbelnjchpffeaaS10
import Derived.Test.YtfbelnjchpffeaaRows
import Derived.WalkKit
import Derived.ProofKit
import Derived.OpenShut
import Derived.ShutString
import Derived.ChangeOld
import Derived.Below
import Derived.SizedLaws
namespace Go.Proofs.Ytfbelnjchpffeaa
set_option linter.unusedVariables false
namespace snapPlain
open Go.ChangeShapes Go.WideShapes Go.ChangeAt Go.RowKit
theorem own : ownKnob Try.prog.godebug = none := by kernel_rfl
set_option maxRecDepth 100000 in
theorem lifted (os : Os) (started : os.Started) (H : Type) (enc : TypeId × Value → H) :
    ReturnsInHanded {} Try.checked os 12 .any (Go.Proofs.Ytfbelnjchpffeaa.Rows.snapPlainSpec.pre6 enc Try.prog Try.f12 Go.Proofs.Ytfbelnjchpffeaa.Rows.snapPlainRow.domain false) (Go.Proofs.Ytfbelnjchpffeaa.Rows.snapPlainSpec.post enc Try.prog Try.f12 false true false false) := by
  refine returnsInHanded_of_change (C := Try.checked) own started (by kernel_rfl) Try.func12
    (ChangeSpec.witness6 (enc := enc) (C := Try.checked) false ⟨#[], #[.string ByteArray.empty, .int .u8 0], []⟩ 8 (by kernel_rfl) (by kernel_rfl) (by kernel_rfl) (by kernel_rfl)) ?_
  intro W base args ds gs before hval0 hW hcnd _
  have hW' := hW
  obtain ⟨p, q, hA0, hV, rfl, hfz, hnd⟩ := hW
  have hA : DataW.TrodAll enc Try.prog W 0 (fun _ => true) true Try.f12.params.toList args.toList ds p := hA0
  have hlt : ∀ x ∈ p, x.block < W.heap.size := fun x hx => hW'.lt x (List.mem_append_left _ hx)
  obtain ⟨rfl, rfl⟩ := trodVars_none hV
  have key := Ev.law_flat (C := Ev.L11.D6) (f := 12) Ev.L11.D6_ok rfl (by kernel_rfl) [9, 5] (by kernel_rfl) (by kernel_rfl) (by kernel_rfl) (by kernel_rfl) Ev.L11.main_SnapPlain (fun j t v ht hv => hval0 j t v (by simpa using ht) (by simpa using hv)) hA hlt
  have hd0 := Ev.trodAll_dlen _ _ _ _ hA
  obtain ⟨d0, e0, rfl, hd1⟩ := Ev.ds_cons hd0
  obtain ⟨d1, e1, rfl, hd2⟩ := Ev.ds_cons hd1
  obtain rfl := Ev.ds_nil hd2
  refine key.mono fun e W' ⟨he, bel, hback⟩ => ?_
  subst he
  exact ⟨_, rfl, _, _, _, [], _, [], hW', trodAll_mk1 (shut_bool Try.underlying4 _), hback, rfl, bel.frame _, fun h => by cases h⟩
theorem over : Go.Proofs.Ytfbelnjchpffeaa.Rows.snapPlainRow.holds Go.Proofs.Ytfbelnjchpffeaa.Try.pinned (OpenSpec.ofChange Go.Proofs.Ytfbelnjchpffeaa.Rows.snapPlainSpec) :=
  OpenClaim.holds_of_wide 12 Try.f12 rfl rfl rfl rfl rfl rfl rfl ⟨rfl, rfl, rfl, rfl, rfl⟩ rfl rfl rfl rfl rfl (by kernel_rfl) Try.func12 (by kernel_rfl)
    (of_decide_eq_true (by kernel_rfl)) (by unfold Func.isWrapper; first | (rw [if_pos (by decide +kernel)]; kernel_rfl) | (rw [if_neg (by decide +kernel)]; exact ⟨rfl, rfl⟩))
    (fun os started H enc _ => lifted os started H enc)
end snapPlain
/-- The row. -/
theorem snapPlain_holds : Go.Proofs.Ytfbelnjchpffeaa.Rows.SnapPlainSaid := snapPlain.over
namespace snapRuns
open Go.ChangeShapes Go.WideShapes Go.ChangeAt Go.RowKit
theorem own : ownKnob Try.prog.godebug = none := by kernel_rfl
set_option maxRecDepth 100000 in
theorem lifted (os : Os) (started : os.Started) (H : Type) (enc : TypeId × Value → H) :
    ReturnsInHanded {} Try.checked os 13 .any (Go.Proofs.Ytfbelnjchpffeaa.Rows.snapRunsSpec.pre6 enc Try.prog Try.f13 Go.Proofs.Ytfbelnjchpffeaa.Rows.snapRunsRow.domain false) (Go.Proofs.Ytfbelnjchpffeaa.Rows.snapRunsSpec.post enc Try.prog Try.f13 false true false false) := by
  refine returnsInHanded_of_change (C := Try.checked) own started (by kernel_rfl) Try.func13
    (ChangeSpec.witness6 (enc := enc) (C := Try.checked) false ⟨#[], #[.string ByteArray.empty, .int .u8 0], []⟩ 8 (by kernel_rfl) (by kernel_rfl) (by kernel_rfl) (by kernel_rfl)) ?_
  intro W base args ds gs before hval0 hW hcnd _
  have hW' := hW
  obtain ⟨p, q, hA0, hV, rfl, hfz, hnd⟩ := hW
  have hA : DataW.TrodAll enc Try.prog W 0 (fun _ => true) true Try.f13.params.toList args.toList ds p := hA0
  have hlt : ∀ x ∈ p, x.block < W.heap.size := fun x hx => hW'.lt x (List.mem_append_left _ hx)
  obtain ⟨rfl, rfl⟩ := trodVars_none hV
  have key := Ev.law_flat (C := Ev.L11.D6) (f := 13) Ev.L11.D6_ok rfl (by kernel_rfl) [9, 5] (by kernel_rfl) (by kernel_rfl) (by kernel_rfl) (by kernel_rfl) Ev.L11.main_SnapRuns (fun j t v ht hv => hval0 j t v (by simpa using ht) (by simpa using hv)) hA hlt
  have hd0 := Ev.trodAll_dlen _ _ _ _ hA
  obtain ⟨d0, e0, rfl, hd1⟩ := Ev.ds_cons hd0
  obtain ⟨d1, e1, rfl, hd2⟩ := Ev.ds_cons hd1
  obtain rfl := Ev.ds_nil hd2
  refine key.mono fun e W' ⟨he, bel, hback⟩ => ?_
  subst he
  exact ⟨_, rfl, _, _, _, [], _, [], hW', trodAll_mk1 (shut_bool Try.underlying4 _), hback, rfl, bel.frame _, fun h => by cases h⟩
theorem over : Go.Proofs.Ytfbelnjchpffeaa.Rows.snapRunsRow.holds Go.Proofs.Ytfbelnjchpffeaa.Try.pinned (OpenSpec.ofChange Go.Proofs.Ytfbelnjchpffeaa.Rows.snapRunsSpec) :=
  OpenClaim.holds_of_wide 13 Try.f13 rfl rfl rfl rfl rfl rfl rfl ⟨rfl, rfl, rfl, rfl, rfl⟩ rfl rfl rfl rfl rfl (by kernel_rfl) Try.func13 (by kernel_rfl)
    (of_decide_eq_true (by kernel_rfl)) (by unfold Func.isWrapper; first | (rw [if_pos (by decide +kernel)]; kernel_rfl) | (rw [if_neg (by decide +kernel)]; exact ⟨rfl, rfl⟩))
    (fun os started H enc _ => lifted os started H enc)
end snapRuns
/-- The row. -/
theorem snapRuns_holds : Go.Proofs.Ytfbelnjchpffeaa.Rows.SnapRunsSaid := snapRuns.over
end Go.Proofs.Ytfbelnjchpffeaa
