/-
  The rows of the laws ItemApart: each returns true at every input. No conditions.
-/
import Derived.Test.YtfbelnjchpffeaaA1
import Derived.Test.YtfbelnjchpffeaaRows
import Derived.WalkKit
import Derived.ProofKit
import Derived.OpenShut
import Derived.ShutString
import Derived.ChangeOld
import Derived.Below
import Derived.SizedLaws
namespace Go.Proofs.Ytfbelnjchpffeaa
set_option linter.unusedVariables false
namespace itemApart
open Go.ChangeShapes Go.WideShapes Go.ChangeAt Go.RowKit
theorem own : ownKnob Try.prog.godebug = none := by kernel_rfl
set_option maxRecDepth 100000 in
theorem lifted (os : Os) (started : os.Started) (H : Type) (enc : TypeId × Value → H) :
    ReturnsInHanded {} Try.checked os 3 .any (Go.Proofs.Ytfbelnjchpffeaa.Rows.itemApartSpec.pre6 enc Try.prog Try.f3 Go.Proofs.Ytfbelnjchpffeaa.Rows.itemApartRow.domain false) (Go.Proofs.Ytfbelnjchpffeaa.Rows.itemApartSpec.post enc Try.prog Try.f3 false true false false) := by
  refine returnsInHanded_of_change (C := Try.checked) own started (by kernel_rfl) Try.func3
    (ChangeSpec.witness6 (enc := enc) (C := Try.checked) false ⟨#[], #[.agg #[.string ByteArray.empty, .bool false, .slice none 0 0]], []⟩ 8 (by kernel_rfl) (by kernel_rfl) (by kernel_rfl) (by kernel_rfl)) ?_
  intro W base args ds gs before hval0 hW hcnd _
  have hW' := hW
  obtain ⟨p, q, hA0, hV, rfl, hfz, hnd⟩ := hW
  have hA : DataW.TrodAll enc Try.prog W 0 (fun _ => true) true Try.f3.params.toList args.toList ds p := hA0
  have hlt : ∀ x ∈ p, x.block < W.heap.size := fun x hx => hW'.lt x (List.mem_append_left _ hx)
  obtain ⟨rfl, rfl⟩ := trodVars_none hV
  have key := Ev.law_calls (C := Ev.T0) (f := 3) Ev.T0_ok rfl (by kernel_rfl) [24, 22, 9, 4] (by kernel_rfl) (by kernel_rfl) (by kernel_rfl) Ev.main_ItemApart (fun j t v ht hv => hval0 j t v (by simpa using ht) (by simpa using hv)) hA hlt
  have hd0 := Ev.trodAll_dlen _ _ _ _ hA
  obtain ⟨d0, e0, rfl, hd1⟩ := Ev.ds_cons hd0
  obtain rfl := Ev.ds_nil hd1
  refine key.mono fun e W' ⟨he, bel, hback⟩ => ?_
  subst he
  exact ⟨_, rfl, _, _, _, [], _, [], hW', trodAll_mk1 (shut_bool Try.underlying4 _), hback, rfl, bel.frame _, fun h => by cases h⟩
theorem over : Go.Proofs.Ytfbelnjchpffeaa.Rows.itemApartRow.holds Go.Proofs.Ytfbelnjchpffeaa.Try.pinned (OpenSpec.ofChange Go.Proofs.Ytfbelnjchpffeaa.Rows.itemApartSpec) :=
  OpenClaim.holds_of_wide 3 Try.f3 rfl rfl rfl rfl rfl rfl rfl ⟨rfl, rfl, rfl, rfl, rfl⟩ rfl rfl rfl rfl rfl (by kernel_rfl) Try.func3 (by kernel_rfl)
    (of_decide_eq_true (by kernel_rfl)) (by unfold Func.isWrapper; first | (rw [if_pos (by decide +kernel)]; kernel_rfl) | (rw [if_neg (by decide +kernel)]; exact ⟨rfl, rfl⟩))
    (fun os started H enc _ => lifted os started H enc)
end itemApart
/-- The row. -/
theorem itemApart_holds : Go.Proofs.Ytfbelnjchpffeaa.Rows.ItemApartSaid := itemApart.over
end Go.Proofs.Ytfbelnjchpffeaa
