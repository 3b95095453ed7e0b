/-
  The rows of the laws PlainPuts, PlainRow: each returns true at every input. No conditions.
-/
import Derived.Test.YtfbelnjchpffeaaP2
import Derived.Test.YtfbelnjchpffeaaRows
import Derived.WalkKit
import Derived.ProofKit
import Derived.OpenShut
import Derived.ShutString
import Derived.ChangeOld
import Derived.Below
import Derived.SizedLaws
namespace Go.Proofs.Ytfbelnjchpffeaa
set_option linter.unusedVariables false
namespace plainPuts
open Go.ChangeShapes Go.WideShapes Go.ChangeAt Go.RowKit
theorem own : ownKnob Try.prog.godebug = none := by kernel_rfl
set_option maxRecDepth 100000 in
theorem lifted (os : Os) (started : os.Started) (H : Type) (enc : TypeId × Value → H) :
    ReturnsInHanded {} Try.checked os 7 .any (Go.Proofs.Ytfbelnjchpffeaa.Rows.plainPutsSpec.pre6 enc Try.prog Try.f7 Go.Proofs.Ytfbelnjchpffeaa.Rows.plainPutsRow.domain false) (Go.Proofs.Ytfbelnjchpffeaa.Rows.plainPutsSpec.post enc Try.prog Try.f7 false true false false) := by
  refine returnsInHanded_of_change (C := Try.checked) own started (by kernel_rfl) Try.func7
    (ChangeSpec.witness6 (enc := enc) (C := Try.checked) false ⟨#[], #[.int .u64 0, .string ByteArray.empty, .string ByteArray.empty], []⟩ 8 (by kernel_rfl) (by kernel_rfl) (by kernel_rfl) (by kernel_rfl)) ?_
  intro W base args ds gs before hval0 hW hcnd _
  have hW' := hW
  obtain ⟨p, q, hA0, hV, rfl, hfz, hnd⟩ := hW
  have hA : DataW.TrodAll enc Try.prog W 0 (fun _ => true) true Try.f7.params.toList args.toList ds p := hA0
  have hlt : ∀ x ∈ p, x.block < W.heap.size := fun x hx => hW'.lt x (List.mem_append_left _ hx)
  obtain ⟨rfl, rfl⟩ := trodVars_none hV
  have key := Ev.law_flat (C := Ev.L15.D1) (f := 7) Ev.L15.D1_ok rfl (by kernel_rfl) [69, 9] (by kernel_rfl) (by kernel_rfl) (by kernel_rfl) (by kernel_rfl) Ev.L15.main_PlainPuts (fun j t v ht hv => hval0 j t v (by simpa using ht) (by simpa using hv)) hA hlt
  have hd0 := Ev.trodAll_dlen _ _ _ _ hA
  obtain ⟨d0, e0, rfl, hd1⟩ := Ev.ds_cons hd0
  obtain ⟨d1, e1, rfl, hd2⟩ := Ev.ds_cons hd1
  obtain ⟨d2, e2, rfl, hd3⟩ := Ev.ds_cons hd2
  obtain rfl := Ev.ds_nil hd3
  refine key.mono fun e W' ⟨he, bel, hback⟩ => ?_
  subst he
  exact ⟨_, rfl, _, _, _, [], _, [], hW', trodAll_mk1 (shut_bool Try.underlying4 _), hback, rfl, bel.frame _, fun h => by cases h⟩
theorem over : Go.Proofs.Ytfbelnjchpffeaa.Rows.plainPutsRow.holds Go.Proofs.Ytfbelnjchpffeaa.Try.pinned (OpenSpec.ofChange Go.Proofs.Ytfbelnjchpffeaa.Rows.plainPutsSpec) :=
  OpenClaim.holds_of_wide 7 Try.f7 rfl rfl rfl rfl rfl rfl rfl ⟨rfl, rfl, rfl, rfl, rfl⟩ rfl rfl rfl rfl rfl (by kernel_rfl) Try.func7 (by kernel_rfl)
    (of_decide_eq_true (by kernel_rfl)) (by unfold Func.isWrapper; first | (rw [if_pos (by decide +kernel)]; kernel_rfl) | (rw [if_neg (by decide +kernel)]; exact ⟨rfl, rfl⟩))
    (fun os started H enc _ => lifted os started H enc)
end plainPuts
/-- The row. -/
theorem plainPuts_holds : Go.Proofs.Ytfbelnjchpffeaa.Rows.PlainPutsSaid := plainPuts.over
namespace plainRow
open Go.ChangeShapes Go.WideShapes Go.ChangeAt Go.RowKit
theorem own : ownKnob Try.prog.godebug = none := by kernel_rfl
set_option maxRecDepth 100000 in
theorem lifted (os : Os) (started : os.Started) (H : Type) (enc : TypeId × Value → H) :
    ReturnsInHanded {} Try.checked os 8 .any (Go.Proofs.Ytfbelnjchpffeaa.Rows.plainRowSpec.pre6 enc Try.prog Try.f8 Go.Proofs.Ytfbelnjchpffeaa.Rows.plainRowRow.domain false) (Go.Proofs.Ytfbelnjchpffeaa.Rows.plainRowSpec.post enc Try.prog Try.f8 false true false false) := by
  refine returnsInHanded_of_change (C := Try.checked) own started (by kernel_rfl) Try.func8
    (ChangeSpec.witness6 (enc := enc) (C := Try.checked) false ⟨#[], #[.slice none 0 0, .slice none 0 0], []⟩ 8 (by kernel_rfl) (by kernel_rfl) (by kernel_rfl) (by kernel_rfl)) ?_
  intro W base args ds gs before hval0 hW hcnd _
  have hW' := hW
  obtain ⟨p, q, hA0, hV, rfl, hfz, hnd⟩ := hW
  have hA : DataW.TrodAll enc Try.prog W 0 (fun _ => true) true Try.f8.params.toList args.toList ds p := hA0
  have hlt : ∀ x ∈ p, x.block < W.heap.size := fun x hx => hW'.lt x (List.mem_append_left _ hx)
  obtain ⟨rfl, rfl⟩ := trodVars_none hV
  have key := Ev.law_calls (C := Ev.L15.D1) (f := 8) Ev.L15.D1_ok rfl (by kernel_rfl) [78, 79, 69, 9] (by kernel_rfl) (by kernel_rfl) (by kernel_rfl) Ev.L15.main_PlainRow (fun j t v ht hv => hval0 j t v (by simpa using ht) (by simpa using hv)) hA hlt
  have hd0 := Ev.trodAll_dlen _ _ _ _ hA
  obtain ⟨d0, e0, rfl, hd1⟩ := Ev.ds_cons hd0
  obtain ⟨d1, e1, rfl, hd2⟩ := Ev.ds_cons hd1
  obtain rfl := Ev.ds_nil hd2
  refine key.mono fun e W' ⟨he, bel, hback⟩ => ?_
  subst he
  exact ⟨_, rfl, _, _, _, [], _, [], hW', trodAll_mk1 (shut_bool Try.underlying4 _), hback, rfl, bel.frame _, fun h => by cases h⟩
theorem over : Go.Proofs.Ytfbelnjchpffeaa.Rows.plainRowRow.holds Go.Proofs.Ytfbelnjchpffeaa.Try.pinned (OpenSpec.ofChange Go.Proofs.Ytfbelnjchpffeaa.Rows.plainRowSpec) :=
  OpenClaim.holds_of_wide 8 Try.f8 rfl rfl rfl rfl rfl rfl rfl ⟨rfl, rfl, rfl, rfl, rfl⟩ rfl rfl rfl rfl rfl (by kernel_rfl) Try.func8 (by kernel_rfl)
    (of_decide_eq_true (by kernel_rfl)) (by unfold Func.isWrapper; first | (rw [if_pos (by decide +kernel)]; kernel_rfl) | (rw [if_neg (by decide +kernel)]; exact ⟨rfl, rfl⟩))
    (fun os started H enc _ => lifted os started H enc)
end plainRow
/-- The row. -/
theorem plainRow_holds : Go.Proofs.Ytfbelnjchpffeaa.Rows.PlainRowSaid := plainRow.over
end Go.Proofs.Ytfbelnjchpffeaa
